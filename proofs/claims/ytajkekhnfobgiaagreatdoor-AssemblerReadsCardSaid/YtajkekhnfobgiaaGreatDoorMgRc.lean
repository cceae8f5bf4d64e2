/- Texts put together: Pg5, Asc, Asd, Ase, Asf, Asg, Ash, Asi, Asj, Ask, Asl, Asm. -/
import Derived.Maps.OwnOps
import Derived.Maps.Views
import Derived.Lib.SlTrimSet
import Derived.Test.YtajkekhnfobgiaaGreatDoorMgRb
/- The deck: a program, first half: sizes and data. -/
namespace Go.Proofs.YtajkekhnfobgiaaGreatDoor
set_option maxRecDepth 20000
open Go.RowKit
theorem ovXPg50_ {G H : Prop} (k : H) (s : H → G := by intro k; (with_reducible refine toL hm ?_); first | exact oneV hs gw_ rfl rfl (by intro w hm; (first | exact kvR_ | exact ksl_)) k | exact oneN hs rfl rfl rfl rfl rfl rfl rfl k | exact oneU hs rfl rfl rfl rfl rfl rfl k) : G := s k

/-- an own row of words -/
structure WS where
  A : Option Nat
  c : Nat
  cs : List Value
  xs : List Int
def WS.v (r : WS) : Value := slv r.A r.xs.length r.c
def WS.hp (r : WS) : Hp := ⟨r.A, 74, r.cs⟩
def WS.ok (r : WS) : Prop := Row r.A r.xs.length r.c 1 (wds r.xs) r.cs
theorem ws_perm {S : Nat → Prop} {w0 w : World} {L : List Hp} {rs : List WS} {r : WS} (hm : Mm S w0 (r.hp :: (L ++ rs.map WS.hp)) w) : Mm S w0 (L ++ (rs ++ [r]).map WS.hp) w := by
  refine hm.perm ?_
  rw [List.map_append, ← List.append_assoc]
  exact List.perm_append_comm (l₁ := L ++ rs.map WS.hp) (l₂ := [r.hp])
/-- words fit into their regions -/
def FitW (ws : List WS) (ss : List Int) : Prop := ∀ k (h1 : k < ws.length) (h2 : k < ss.length), ((ws[k]).xs.length : Int) ≤ ss[k]
/-- a program in memory -/
structure PgX where
  code : List In
  cA : Nat
  cc : Nat
  ss : List Int
  gs : Nat
  sc : Nat
  ws : List WS
  dA : Option Nat
  dc : Nat
def PgX.v (p : PgX) : Value := .agg #[slv (some p.cA) p.code.length p.cc, .slice (some ⟨p.gs, 0, none⟩) p.ss.length p.sc, slv p.dA p.ws.length p.dc]
def PgX.rows (p : PgX) : List (Option Nat × List Value) := (some p.cA, p.code.flatMap inV) :: (some p.gs, ints p.ss) :: (p.dA, p.ws.map WS.v) :: p.ws.map fun r => (r.A, wds r.xs)
structure PgV (p : PgX) : Prop where
  sz : SzOk p.ss
  wl : p.ws.length = p.ss.length
  bd : ∀ r ∈ p.ws, ∀ y ∈ r.xs, 0 ≤ y ∧ y ≤ 65535
  fit : FitW p.ws p.ss
  c1 : 1 ≤ p.code.length
  c2 : p.code.length ≤ 64
  inv : ∀ i ∈ p.code, InV i (p.ss.length : Int)
  ju : ∀ i ∈ p.code, jumpB i.op = true → i.m < (p.code.length : Int)
  dle : p.ws.length ≤ p.dc
def RwsOk (rs : List (Option Nat × List Value)) (w : World) : Prop := ∀ r ∈ rs, Rd w w.heap.size (r.1.map fun g => ⟨g, 0, none⟩) r.2
def RwsGe (rs : List (Option Nat × List Value)) (b : Nat) : Prop := ∀ r ∈ rs, ∀ g, r.1 = some g → b ≤ g
theorem Mm.newer {h0 h1 : Hp} {M : List Hp} {w0 w : World} (hm : Mm (own [h0]) w0 (h1 :: M) w) (hg : h1.g = h0.g) : ∀ x ∈ M, ∀ g, x.g = some g → w0.heap.size ≤ g := fun x hx g e => by
  rcases hm.ow x (List.mem_cons_of_mem _ hx) g e with h1 | ⟨z, hz, e2⟩
  · exact h1
  · rcases List.mem_singleton.1 hz with rfl
    exact (hm.dj.1 x hx g (hg.trans e2) e).elim
theorem in_zero {i : In} {ns : Int} (h : InV i ns) (hj : jumpB i.op = true) : InV ⟨i.op, i.a, i.b, i.c, 0⟩ ns := by
  have h1 : 18 ≤ i.op ∧ i.op ≤ 21 := of_decide_eq_true hj
  exact ⟨h.op, h.a, h.b, h.c, ⟨by dsimp only; omega, by dsimp only; omega, fun _ => rfl⟩, fun e => by dsimp only at e; omega, fun e => by dsimp only at e; omega⟩
theorem ju_set {l : List In} {k N : Nat} {x y : In} (hN : (1 : Int) ≤ (N : Int)) (hx : l[k]? = some x) (hy : y.m = 0) (hju : ∀ j i, j < k → l[j]? = some i → jumpB i.op = true → i.m < (N : Int)) : ∀ j i, j < k + 1 → (l.set k y)[j]? = some i → jumpB i.op = true → i.m < (N : Int) := fun j i hj hi hb => by
  by_cases e : j = k
  · subst e
    have hlt : j < l.length := by
      rcases Nat.lt_or_ge j l.length with h | h
      · exact h
      · rw [List.getElem?_eq_none h] at hx; cases hx
    rw [List.getElem?_set_self hlt] at hi
    cases hi
    omega
  · rw [List.getElem?_set_ne (fun h => e h.symm)] at hi
    exact hju j i (by omega) hi hb
theorem ju_next {l : List In} {k N : Nat} {x : In} (hx : l[k]? = some x) (hm : jumpB x.op = true → x.m < (N : Int)) (hju : ∀ j i, j < k → l[j]? = some i → jumpB i.op = true → i.m < (N : Int)) : ∀ j i, j < k + 1 → l[j]? = some i → jumpB i.op = true → i.m < (N : Int) := fun j i hj hi hb => by
  by_cases e : j = k
  · subst e
    rw [hx] at hi
    cases hi
    exact hm hb
  · exact hju j i (by omega) hi hb
theorem in_jmp {ns : Int} (m : Int) (h2 : 0 ≤ m ∧ m ≤ 65535) : InV ⟨18, 0, 0, 0, m⟩ ns := by
  refine ⟨by dsimp only; omega, ⟨by dsimp only; omega, by dsimp only; omega, fun _ => rfl⟩, ⟨by dsimp only; omega, by dsimp only; omega, fun _ => rfl⟩, ⟨by dsimp only; omega, by dsimp only; omega, fun _ => rfl⟩, ⟨by dsimp only; omega, by dsimp only; omega, fun e => ?_⟩, fun e => ?_, fun e => ?_⟩
  · dsimp only at e; exact absurd e (by decide)
  · dsimp only at e; omega
  · dsimp only at e; omega
theorem in_rti {ns : Int} : InV ⟨24, 0, 0, 0, 0⟩ ns := by
  refine ⟨by dsimp only; omega, ⟨by dsimp only; omega, by dsimp only; omega, fun _ => rfl⟩, ⟨by dsimp only; omega, by dsimp only; omega, fun _ => rfl⟩, ⟨by dsimp only; omega, by dsimp only; omega, fun _ => rfl⟩, ⟨by dsimp only; omega, by dsimp only; omega, fun _ => rfl⟩, fun e => ?_, fun e => ?_⟩
  · dsimp only at e; omega
  · dsimp only at e; omega
theorem inV_one (l : List In) : (l.flatMap inV).all (·.oneCell') = true := by
  rw [List.all_eq_true]
  intro v hv
  obtain ⟨x, _, hx⟩ := List.mem_flatMap.1 hv
  unfold inV at hx
  simp only [List.mem_cons, List.not_mem_nil, or_false] at hx
  rcases hx with rfl | rfl | rfl | rfl | rfl <;> rfl
theorem in_tail (l : List In) (r : Int) : l.flatMap inV ++ [.int .i64 1, .int .i64 0, .int .i64 0, .int .i64 0, .int .i64 r, .int .i64 23, .int .i64 0, .int .i64 0, .int .i64 0, .int .i64 0] = (l ++ ([⟨1, 0, 0, 0, r⟩, ⟨23, 0, 0, 0, 0⟩] : List In)).flatMap inV := by
  rw [List.flatMap_append]; rfl
theorem Row.cut {A : Option Nat} {n c : Nat} {l : List In} {cs : List Value} (h : Row A n c 5 (l.flatMap inV) cs) {m : Nat} (hm : m ≤ n) (hl : l.length = n) (hA : A ≠ none) : Row A m c 5 ((l.take m).flatMap inV) cs := by
  have h1 : ((l.take m).flatMap inV) = (l.flatMap inV).take (m * 5) := by
    have := List.take_append_drop m l
    have h2 : l.flatMap inV = (l.take m).flatMap inV ++ (l.drop m).flatMap inV := by rw [← List.flatMap_append, this]
    rw [h2, List.take_left' (by rw [flat_len inV 5 inV_len, List.length_take]; congr 1; omega)]
  refine ⟨fun e => (hA e).elim, by have := h.le; omega, h.cm, h.len, by rw [flat_len inV 5 inV_len, List.length_take, hl]; congr 1; omega, ?_⟩
  rw [h1, ← h.pre, List.take_take]
  congr 1; omega
structure JuX where
  k : Nat
  l : List In
  ccs : List Value
structure DaX where
  at_ : Nat
  ws : List WS
  dA : Option Nat
  dc : Nat
  dcs : List Value
structure CoX where
  m : Nat
  at_ : Nat
  is : List In
  cA : Option Nat
  cc : Nat
  ccs : List Value

set_option maxHeartbeats 32000000 in
theorem prg_c (gd : Nat) (A : Option Addr) (n c at_ : Nat) (xs : List Int) (wB : World) (h : Dk gd A n c at_ xs wB) :
    Ret Tryz.prog 11 [.pointer (some ⟨gd, 0, none⟩)] wB (fun u w' => ∃ p : PgX, u = p.v ∧ PgV p ∧ RwsOk p.rows w' ∧ RwsGe p.rows wB.heap.size ∧ DkR gd A n c xs wB w') := by
  refine enterR Tryz.func11 rfl rfl rfl fun a hs hm => ?_
  clear hm
  have hm := h.in_
  repeat (first | (refine ovXPg50_ ?_; clear hs a; intro a hs) | ((with_reducible apply lCons); first | (refine dv hs gw_ rfl rfl da_ ?_; clear hs hm a; rintro _ w ⟨g, rfl, -, hm⟩ a hs) | (refine stn hs rfl rfl ds_ ?_; clear hs hm a; rintro - w hm a hs)) | refine sc_ ?_)
  obtain ⟨g2, en_⟩ := hs.pt 2 (by exact rfl); subst en_
  have hszB := hm.fr.size
  refine st hs rfl rfl rfl (d_call hs rfl rfl rfl (pl 25 rfl) ((siz_c gd A n c at_ xs _ (h.now hm mem_)))) ?_; clear hs a; rintro _ wS ⟨gs, m, sc, ss, rfl, hsl, hss, hsr, hsg, a1, k1, hf⟩ a hs
  have hg2 : g2 < gs := Nat.lt_of_lt_of_le (Hp.lt (hm.me _ (List.mem_cons_self ..)) rfl) hsg
  have hgd : gd < gs := Nat.lt_of_lt_of_le (Hp.lt (h.now hm mem_).sat rfl) hsg
  replace hm := hm.dkt rep_ k1 hf
  clear hf
  have hmB := hm
  clear hm
  have hm := hmB.rebase
  obtain ⟨b1, o1, he1, hb1, r1⟩ := hsr.ro (by rw [ints_len]; have := hss.one; omega)
  cases he1
  have hno : ¬ own [⟨some g2, 26, [.slice none 0 0, .slice none 0 0, .slice none 0 0]⟩, dk gd A n c a1] gs := by
    rintro ⟨z, hz, e⟩
    rcases List.mem_cons.1 hz with rfl | hz
    · cases e; omega
    · rcases List.mem_singleton.1 hz with rfl; cases e; omega
  repeat (first | (refine ovXPg50_ ?_; clear hs a; intro a hs) | ((with_reducible apply lCons); first | (refine dv hs gw_ rfl rfl da_ ?_; clear hs hm a; rintro _ w ⟨g, rfl, -, hm⟩ a hs) | (refine stn hs rfl rfl ds_ ?_; clear hs hm a; rintro - w hm a hs)) | refine sc_ ?_)
  obtain ⟨g3, en_⟩ := hs.pt 3 (by exact rfl); subst en_
  have hg3 : ∀ (z : Nat), True := fun _ => trivial
  clear hg3
  obtain ⟨Lb, hLb⟩ : ∃ Lb : List Hp, Lb = [⟨some g2, 26, [.slice none 0 0, .slice none 0 0, .slice none 0 0]⟩, dk gd A n c a1] := ⟨_, rfl⟩
  change Mm (own [⟨some g2, 26, [.slice none 0 0, .slice none 0 0, .slice none 0 0]⟩, dk gd A n c a1]) wS [⟨some g3, 26, [.slice none 0 0, .slice (some ⟨gs, 0, none⟩) m sc, .slice none 0 0]⟩, ⟨some g2, 26, [.slice none 0 0, .slice none 0 0, .slice none 0 0]⟩, dk gd A n c a1] _ at hm
  change Mm (own [dk gd A n c at_]) wB [⟨some g2, 26, [.slice none 0 0, .slice none 0 0, .slice none 0 0]⟩, dk gd A n c a1] wS at hmB
  rw [← hLb] at hmB hno
  replace hm : Mm (own Lb) wS [⟨some g3, 26, [.slice none 0 0, .slice (some ⟨gs, 0, none⟩) m sc, .slice none 0 0]⟩, ⟨some g2, 26, [.slice none 0 0, .slice none 0 0, .slice none 0 0]⟩, dk gd A n c a1] w := by rw [hLb]; exact hm
  have hg32 : g3 ≠ gs := fun e => by
    rcases hm.ow _ (List.mem_cons_self ..) g3 rfl with h1 | h1
    · omega
    · rw [e] at h1; exact hno h1
  replace hm := hm.zero 56
  have hsm := hss.four
  rw [hsl] at hsm
  refine cLoop (X := DaX) (fun X a w' => Sl Tryz.f11.ntmps [(0, .pointer (some ⟨gd, 0, none⟩)), (2, .pointer (some ⟨g2, 0, none⟩)), (3, .pointer (some ⟨g3, 0, none⟩)), (13, .slice (some ⟨gs, 0, none⟩) m sc), (14, .int .i64 (m : Int)), (15, .int .i64 (X.ws.length : Int))] a ∧ Mm (own Lb) wS ([⟨some g3, 26, [.slice none 0 0, .slice (some ⟨gs, 0, none⟩) m sc, slv X.dA X.ws.length X.dc]⟩, ⟨X.dA, 56, X.dcs⟩, ⟨some g2, 26, [.slice none 0 0, .slice none 0 0, .slice none 0 0]⟩, dk gd A n c X.at_] ++ X.ws.map WS.hp) w' ∧ X.ws.length ≤ m ∧ Row X.dA X.ws.length X.dc 1 (X.ws.map WS.v) X.dcs ∧ (∀ r ∈ X.ws, r.ok ∧ ∀ y ∈ r.xs, 0 ≤ y ∧ y ≤ 65535) ∧ FitW X.ws ss) (fun X => m - X.ws.length) ⟨a1, [], none, 0, []⟩ ⟨hs.sub (Has.all ⟨rfl, rfl, rfl, rfl, rfl, rfl, trivial⟩), hm.sel [1, 0, 2, 3] (by decide) rfl, Nat.zero_le _, (Row.empty 1 : Row none 0 0 1 [] []), fun r hr => absurd hr List.not_mem_nil, fun k h1 => absurd h1 (Nat.not_lt_zero _)⟩ ?_
  clear hs hm a
  rintro ⟨at1, ws, dA, dc, dcs⟩ a w' ⟨hs, hm, hwm, hrow, hws, hfit⟩
  dsimp only at *
  by_cases hlt : ws.length < m
  · have e1 := ints_some (xs := ss) (k := ws.length) (by omega)
    have hb2 := hss.bd ss[ws.length] (List.getElem_mem _)
    obtain ⟨kk, hkk⟩ : ∃ kk : Nat, (kk : Int) = ss[ws.length] := ⟨ss[ws.length].toNat, by omega⟩
    rw [← hkk] at e1 hb2
    repeat (first | (refine ovXPg50_ ?_; clear hs a; intro a hs) | ((with_reducible apply lCons); first | (refine dv hs gw_ rfl rfl da_ ?_; clear hs hm a; rintro _ w ⟨g, rfl, -, hm⟩ a hs) | (refine stn hs rfl rfl ds_ ?_; clear hs hm a; rintro - w hm a hs)) | refine sc_ ?_)
    refine cMid (fun a w => ∃ (r : WS) (a2 : Nat) (dA2 : Option Nat) (dc2 : Nat) (dcs2 : List Value), r.ok ∧ r.xs.length ≤ kk ∧ (∀ y ∈ r.xs, 0 ≤ y ∧ y ≤ 65535) ∧ Row dA2 (ws.length + 1) dc2 1 (ws.map WS.v ++ [r.v]) dcs2 ∧ Sl Tryz.f11.ntmps [(0, .pointer (some ⟨gd, 0, none⟩)), (2, .pointer (some ⟨g2, 0, none⟩)), (3, .pointer (some ⟨g3, 0, none⟩)), (13, .slice (some ⟨gs, 0, none⟩) m sc), (14, .int .i64 (m : Int)), (15, .int .i64 (ws.length : Int))] a ∧ Mm (own Lb) wS (r.hp :: ([⟨some g3, 26, [.slice none 0 0, .slice (some ⟨gs, 0, none⟩) m sc, slv dA2 (ws.length + 1) dc2]⟩, ⟨dA2, 56, dcs2⟩, ⟨some g2, 26, [.slice none 0 0, .slice none 0 0, .slice none 0 0]⟩, dk gd A n c a2] ++ ws.map WS.hp)) w) ?_ ?_
    · skip
      refine cDraw (n := 9) [] hm rfl rfl ?_
      clear hm
      intro w2 hm
      refine hV_ 0 ?_; clear hs a; intro a hs
      refine hV_ 2 ?_; clear hs a; intro a hs
      refine hV_ 3 ?_; clear hs a; intro a hs
      refine hEach [1, 4] (by kernel_rfl) (eDo hs rfl (Wnt.none rfl) rfl rfl (RunV.does kvR_) ?_ (eDo hs rfl (Wnt.none rfl) rfl rfl (by exact d_call hs rfl rfl rfl (pl 26 rfl) ((wds_c gd A n c _ xs kk _ (h.now (hmB.trans hm) (by repeat (first | exact mH | apply mT))) (by omega)))) ?_ eNil))
      · skip
        clear hs a
        rintro _ _ ⟨rfl, rfl⟩ a hs
        refine ⟨hm.sub sub_, ?_⟩
        refine hEach [4] (by kernel_rfl) (eDo hs rfl (Wnt.none rfl) rfl rfl (by exact d_call hs rfl rfl rfl (pl 26 rfl) ((wds_c gd A n c _ xs kk _ (h.now (hmB.trans hm) (by repeat (first | exact mH | apply mT))) (by omega)))) ?_ eNil)
        clear hs
        rintro _ w1 ⟨a2, wA, wc, wcs, ys, rfl, hwr, hwl, hwb, hk2⟩ a hs
        replace hm := hm.deck (R := [⟨wA, 74, wcs⟩]) hk2 rfl rep_
        clear hk2
        refine ⟨hm.sub sub_, ?_⟩
        refine hEach [5] (by kernel_rfl) (eDo hs rfl (Wnt.none rfl) rfl rfl (by exact d_buildSlice hs rfl tab rfl rfl rfl rfl rfl rfl rfl rfl rfl hm) ?_ eNil)
        clear hs hm a
        rintro _ w25 ⟨g24, rfl, -, hm⟩ a hs
        refine ⟨hm.sub sub_, ?_⟩
        refine hEach [6] (by kernel_rfl) (eDo hs rfl (Wnt.none rfl) rfl rfl (d_append (A := dA) (n := ws.length) (c := dc) (news := [slv wA ys.length wc]) hs rfl rfl rfl rfl rfl tab rfl rfl rfl rfl rfl hm mem_ hrow rfl (hm.ro (n := 1) mem_ (cutF_ok rfl)) rfl (by show (ws.length + 1) * 24 ≤ _; omega) (by omega)) ?_ eNil)
        clear hs
        rintro _ w1 ⟨dA2, dc2, dcs2, rfl, hrr, hM⟩ a hs
        replace hm := hM _ rep_
        clear hM
        refine ⟨hm.sub sub_, ?_⟩
        refine hV_ 7 ?_; clear hs a; intro a hs
        refine hEach [8] (by kernel_rfl) (eDoN hs rfl (Wnt.none rfl) rfl ds_ ?_ eNil)
        clear hs hm
        rintro - w28 hm a hs
        refine ⟨hm.sub sub_, ?_⟩
        refine hDone (by kernel_rfl) ?_
        exact And.intro rfl ⟨⟨wA, wc, wcs, ys⟩, a2, dA2, dc2, dcs2, hwr, hwl, hwb, hrr, hs.sub (Has.all ⟨rfl, rfl, rfl, rfl, rfl, rfl, trivial⟩), hm.sub sub_⟩
      · skip
        clear hs
        rintro _ w1 ⟨a2, wA, wc, wcs, ys, rfl, hwr, hwl, hwb, hk2⟩ a hs
        replace hm := hm.deck (R := [⟨wA, 74, wcs⟩]) hk2 rfl rep_
        clear hk2
        refine ⟨hm.sub sub_, ?_⟩
        refine hEach [1, 5] (by kernel_rfl) (eDo hs rfl (Wnt.none rfl) rfl rfl (RunV.does kvR_) ?_ (eDo hs rfl (Wnt.none rfl) rfl rfl (by exact d_buildSlice hs rfl tab rfl rfl rfl rfl rfl rfl rfl rfl rfl hm) ?_ eNil))
        · skip
          clear hs a
          rintro _ _ ⟨rfl, rfl⟩ a hs
          refine ⟨hm.sub sub_, ?_⟩
          refine hEach [5] (by kernel_rfl) (eDo hs rfl (Wnt.none rfl) rfl rfl (by exact d_buildSlice hs rfl tab rfl rfl rfl rfl rfl rfl rfl rfl rfl hm) ?_ eNil)
          clear hs hm a
          rintro _ w25 ⟨g24, rfl, -, hm⟩ a hs
          refine ⟨hm.sub sub_, ?_⟩
          refine hEach [6] (by kernel_rfl) (eDo hs rfl (Wnt.none rfl) rfl rfl (d_append (A := dA) (n := ws.length) (c := dc) (news := [slv wA ys.length wc]) hs rfl rfl rfl rfl rfl tab rfl rfl rfl rfl rfl hm mem_ hrow rfl (hm.ro (n := 1) mem_ (cutF_ok rfl)) rfl (by show (ws.length + 1) * 24 ≤ _; omega) (by omega)) ?_ eNil)
          clear hs
          rintro _ w1 ⟨dA2, dc2, dcs2, rfl, hrr, hM⟩ a hs
          replace hm := hM _ rep_
          clear hM
          refine ⟨hm.sub sub_, ?_⟩
          refine hV_ 7 ?_; clear hs a; intro a hs
          refine hEach [8] (by kernel_rfl) (eDoN hs rfl (Wnt.none rfl) rfl ds_ ?_ eNil)
          clear hs hm
          rintro - w28 hm a hs
          refine ⟨hm.sub sub_, ?_⟩
          refine hDone (by kernel_rfl) ?_
          exact And.intro rfl ⟨⟨wA, wc, wcs, ys⟩, a2, dA2, dc2, dcs2, hwr, hwl, hwb, hrr, hs.sub (Has.all ⟨rfl, rfl, rfl, rfl, rfl, rfl, trivial⟩), hm.sub sub_⟩
        · skip
          clear hs hm a
          rintro _ w25 ⟨g24, rfl, -, hm⟩ a hs
          refine ⟨hm.sub sub_, ?_⟩
          refine hEach [1] (by kernel_rfl) (eDo hs rfl (Wnt.none rfl) rfl rfl (RunV.does kvR_) ?_ eNil)
          clear hs a
          rintro _ _ ⟨rfl, rfl⟩ a hs
          refine ⟨hm.sub sub_, ?_⟩
          refine hEach [6] (by kernel_rfl) (eDo hs rfl (Wnt.none rfl) rfl rfl (d_append (A := dA) (n := ws.length) (c := dc) (news := [slv wA ys.length wc]) hs rfl rfl rfl rfl rfl tab rfl rfl rfl rfl rfl hm mem_ hrow rfl (hm.ro (n := 1) mem_ (cutF_ok rfl)) rfl (by show (ws.length + 1) * 24 ≤ _; omega) (by omega)) ?_ eNil)
          clear hs
          rintro _ w1 ⟨dA2, dc2, dcs2, rfl, hrr, hM⟩ a hs
          replace hm := hM _ rep_
          clear hM
          refine ⟨hm.sub sub_, ?_⟩
          refine hV_ 7 ?_; clear hs a; intro a hs
          refine hEach [8] (by kernel_rfl) (eDoN hs rfl (Wnt.none rfl) rfl ds_ ?_ eNil)
          clear hs hm
          rintro - w28 hm a hs
          refine ⟨hm.sub sub_, ?_⟩
          refine hDone (by kernel_rfl) ?_
          exact And.intro rfl ⟨⟨wA, wc, wcs, ys⟩, a2, dA2, dc2, dcs2, hwr, hwl, hwb, hrr, hs.sub (Has.all ⟨rfl, rfl, rfl, rfl, rfl, rfl, trivial⟩), hm.sub sub_⟩
    clear hs hm a hrow
    rintro a w2 ⟨r, a2, dA2, dc2, dcs2, hro, hrl, hrb, hrow, hs, hm⟩
    replace hm := ws_perm hm
    repeat (first | (refine ovXPg50_ ?_; clear hs a; intro a hs) | ((with_reducible apply lCons); first | (refine dv hs gw_ rfl rfl da_ ?_; clear hs hm a; rintro _ w ⟨g, rfl, -, hm⟩ a hs) | (refine stn hs rfl rfl ds_ ?_; clear hs hm a; rintro - w hm a hs)) | refine sc_ ?_)
    refine ⟨⟨a2, ws ++ [r], dA2, dc2, dcs2⟩, by dsimp only; rw [List.length_append, List.length_singleton]; omega, ?_⟩
    dsimp only
    rw [List.length_append, List.length_singleton]
    refine ⟨hs.sub (Has.all ⟨rfl, rfl, rfl, rfl, rfl, rfl, trivial⟩), hm, by omega, by rw [List.map_append]; exact hrow, fun z hz => ?_, fun k h1 h2 => ?_⟩
    · rcases List.mem_append.1 hz with hz | hz
      · exact hws z hz
      · rcases List.mem_singleton.1 hz with rfl; exact ⟨hro, hrb⟩
    · by_cases hk : k < ws.length
      · rw [List.getElem_append_left hk]; exact hfit k hk h2
      · have hkw : k = ws.length := by rw [List.length_append, List.length_singleton] at h1; omega
        subst hkw
        rw [List.getElem_append_right (Nat.le_refl _)]
        simp only [Nat.sub_self, List.getElem_cons_zero]
        rw [← hkk]
        omega
  · have hwl : ws.length = m := by omega
    have hn2 : ¬ own [dk gd A n c at1] gs := by
      rintro ⟨z, hz, e⟩
      rcases List.mem_singleton.1 hz with rfl
      cases e; omega
    replace hm := hm.perm (M' := ⟨some g3, 26, [.slice none 0 0, .slice (some ⟨gs, 0, none⟩) m sc, slv dA ws.length dc]⟩ :: dk gd A n c at1 :: (⟨dA, 56, dcs⟩ :: ⟨some g2, 26, [.slice none 0 0, .slice none 0 0, .slice none 0 0]⟩ :: ws.map WS.hp)) (List.Perm.cons _ (List.perm_middle (l₁ := ([⟨dA, 56, dcs⟩, ⟨some g2, 26, [.slice none 0 0, .slice none 0 0, .slice none 0 0]⟩] : List Hp))).symm)
    obtain ⟨R, hR⟩ : ∃ R : List Hp, R = ⟨dA, 56, dcs⟩ :: ⟨some g2, 26, [.slice none 0 0, .slice none 0 0, .slice none 0 0]⟩ :: ws.map WS.hp := ⟨_, rfl⟩
    obtain ⟨dV, hdV⟩ : ∃ dV : Value, dV = slv dA ws.length dc := ⟨_, rfl⟩
    rw [← hR, ← hdV] at hm
    repeat (first | (refine ovXPg50_ ?_; clear hs a; intro a hs) | ((with_reducible apply lCons); first | (refine dv hs gw_ rfl rfl da_ ?_; clear hs hm a; rintro _ w ⟨g, rfl, -, hm⟩ a hs) | (refine stn hs rfl rfl ds_ ?_; clear hs hm a; rintro - w hm a hs)) | refine sc_ ?_)
    refine st hs rfl rfl rfl (d_call hs rfl rfl rfl (pl 27 rfl) ((nxt_c gd A n c _ xs 12 _ (h.now (hmB.trans hm) mem_) (by omega) (by omega)))) ?_; clear hs a; rintro _ w1 ⟨r3, rfl, b3, a3, k3, hf⟩ a hs
    replace hm := hm.dkt rep_ k3 hf
    clear hf
    repeat (first | (refine ovXPg50_ ?_; clear hs a; intro a hs) | ((with_reducible apply lCons); first | (refine dv hs gw_ rfl rfl da_ ?_; clear hs hm a; rintro _ w ⟨g, rfl, -, hm⟩ a hs) | (refine stn hs rfl rfl ds_ ?_; clear hs hm a; rintro - w hm a hs)) | refine sc_ ?_)
    replace hm := hm.zero 54
    refine cLoop (X := CoX) (fun X a w' => Sl Tryz.f11.ntmps [(0, .pointer (some ⟨gd, 0, none⟩)), (2, .pointer (some ⟨g2, 0, none⟩)), (3, .pointer (some ⟨g3, 0, none⟩)), (6, .int .i64 (X.m : Int))] a ∧ Mm (own Lb) wS (⟨X.cA, 54, X.ccs⟩ :: ⟨some g3, 26, [slv X.cA X.is.length X.cc, .slice (some ⟨gs, 0, none⟩) m sc, dV]⟩ :: dk gd A n c X.at_ :: R) w' ∧ Row X.cA X.is.length X.cc 5 (X.is.flatMap inV) X.ccs ∧ X.is.length ≤ 62 ∧ (∀ i ∈ X.is, InV i (m : Int)) ∧ X.m ≤ 12) (fun X => X.m) ⟨1 + r3, a3, [], none, 0, []⟩ ⟨hs.sub (Has.all ⟨rfl, rfl, rfl, by dsimp only; rw [Int.natCast_add]; rfl, trivial⟩), hm, (Row.empty 5 : Row none 0 0 5 [] []), by dsimp only; rw [List.length_nil]; omega, fun i hi => absurd hi List.not_mem_nil, by dsimp only; omega⟩ ?_
    clear hs hm a
    rintro ⟨mm, at2, is, cA, cc, ccs⟩ a w' ⟨hs, hm, hrw, h62, hiv, hmm⟩
    dsimp only at *
    by_cases hm0 : 0 < mm
    · obtain ⟨mm, rfl⟩ : ∃ k, mm = k + 1 := ⟨mm - 1, by omega⟩
      have hn3 : ¬ own [dk gd A n c at2] gs := by
        rintro ⟨z, hz, e⟩
        rcases List.mem_singleton.1 hz with rfl
        cases e; omega
      repeat (first | (refine ovXPg50_ ?_; clear hs a; intro a hs) | ((with_reducible apply lCons); first | (refine dv hs gw_ rfl rfl da_ ?_; clear hs hm a; rintro _ w ⟨g, rfl, -, hm⟩ a hs) | (refine stn hs rfl rfl ds_ ?_; clear hs hm a; rintro - w hm a hs)) | refine sc_ ?_)
      refine st hs rfl rfl rfl (d_call hs rfl rfl rfl (pl 28 rfl) ((part_c gd A n c _ xs gs 0 m sc ss _ _ _ (h.now (hmB.trans hm) mem_) hsl (r1.ro hm hno) hn3 hss (by omega) (by omega)))) ?_; clear hs a; rintro _ w2 ⟨a4, pA, pc, pcs, l, rfl, hpr, hl1, hl6, hli, hk2⟩ a hs
      replace hm := hm.deck (R := [⟨pA, 54, pcs⟩]) hk2 rfl rep_
      clear hk2
      obtain ⟨gp, rfl⟩ := hpr.some_ (by omega)
      by_cases hle : is.length + l.length ≤ 62
      · repeat (first | (refine ovXPg50_ ?_; clear hs a; intro a hs) | ((with_reducible apply lCons); first | (refine dv hs gw_ rfl rfl da_ ?_; clear hs hm a; rintro _ w ⟨g, rfl, -, hm⟩ a hs) | (refine stn hs rfl rfl ds_ ?_; clear hs hm a; rintro - w hm a hs)) | refine sc_ ?_)
        have hpo : Ro w2 gp 0 (l.flatMap inV) := by
          obtain ⟨b9, o9, e9, _, r9⟩ := (hm.rd_row (A := some gp) mem_ hpr).ro (by rw [flat_len inV 5 inV_len]; omega)
          cases e9
          exact r9
        refine dv hs (Wnt.none rfl) rfl rfl (d_append (A := cA) (n := is.length) (c := cc) (news := l.flatMap inV) (m := l.length) hs rfl rfl rfl rfl rfl tab rfl rfl rfl rfl rfl hm mem_ hrw (by rw [flat_len inV 5 inV_len]) hpo (inV_one l) (by show (is.length + l.length) * 40 ≤ _; omega) (by omega)) ?_
        clear hs
        rintro _ w3 ⟨cA2, cc2, ccs2, rfl, hr2, hM⟩ a hs
        replace hm := hM _ rep_
        clear hM
        repeat (first | (refine ovXPg50_ ?_; clear hs a; intro a hs) | ((with_reducible apply lCons); first | (refine dv hs gw_ rfl rfl da_ ?_; clear hs hm a; rintro _ w ⟨g, rfl, -, hm⟩ a hs) | (refine stn hs rfl rfl ds_ ?_; clear hs hm a; rintro - w hm a hs)) | refine sc_ ?_)
        refine ⟨⟨mm, a4, is ++ l, cA2, cc2, ccs2⟩, by dsimp only; omega, ?_⟩
        dsimp only
        rw [List.length_append, List.flatMap_append]
        refine ⟨hs.sub (Has.all ⟨rfl, rfl, rfl, rfl, trivial⟩), hm.sub (List.sublist_cons_self _ _), hr2, hle, fun z hz => ?_, by omega⟩
        rcases List.mem_append.1 hz with hz | hz
        · exact hiv z hz
        · exact hli z hz
      · repeat (first | (refine ovXPg50_ ?_; clear hs a; intro a hs) | ((with_reducible apply lCons); first | (refine dv hs gw_ rfl rfl da_ ?_; clear hs hm a; rintro _ w ⟨g, rfl, -, hm⟩ a hs) | (refine stn hs rfl rfl ds_ ?_; clear hs hm a; rintro - w hm a hs)) | refine sc_ ?_)
        exact ⟨⟨mm, a4, is, cA, cc, ccs⟩, by dsimp only; omega, hs.sub (Has.all ⟨rfl, rfl, rfl, rfl, trivial⟩), hm.sub (List.sublist_cons_self _ _), hrw, h62, hiv, by dsimp only; omega⟩
    · repeat (first | (refine ovXPg50_ ?_; clear hs a; intro a hs) | ((with_reducible apply lCons); first | (refine dv hs gw_ rfl rfl da_ ?_; clear hs hm a; rintro _ w ⟨g, rfl, -, hm⟩ a hs) | (refine stn hs rfl rfl ds_ ?_; clear hs hm a; rintro - w hm a hs)) | refine sc_ ?_)
      refine st hs rfl rfl rfl (d_call hs rfl rfl rfl (pl 27 rfl) ((nxt_c gd A n c _ xs 4 _ (h.now (hmB.trans hm) mem_) (by omega) (by omega)))) ?_; clear hs a; rintro _ w1 ⟨r4, rfl, b4, a4, k4, hf⟩ a hs
      replace hm := hm.dkt rep_ k4 hf
      clear hf
      refine cMid (fun a w => ∃ (at4 : Nat) (is2 : List In) (cA2 : Option Nat) (cc2 : Nat) (ccs2 : List Value), Row cA2 is2.length cc2 5 (is2.flatMap inV) ccs2 ∧ is2.length ≤ 63 ∧ (∀ i ∈ is2, InV i (m : Int)) ∧ Sl Tryz.f11.ntmps [(0, .pointer (some ⟨gd, 0, none⟩)), (2, .pointer (some ⟨g2, 0, none⟩)), (3, .pointer (some ⟨g3, 0, none⟩))] a ∧ Mm (own Lb) wS (⟨cA2, 54, ccs2⟩ :: ⟨some g3, 26, [slv cA2 is2.length cc2, .slice (some ⟨gs, 0, none⟩) m sc, dV]⟩ :: dk gd A n c at4 :: R) w) ?_ ?_
      · by_cases q0 : (r4 : Int) = 0
        · repeat (first | (refine ovXPg50_ ?_; clear hs a; intro a hs) | ((with_reducible apply lCons); first | (refine dv hs gw_ rfl rfl da_ ?_; clear hs hm a; rintro _ w ⟨g, rfl, -, hm⟩ a hs) | (refine stn hs rfl rfl ds_ ?_; clear hs hm a; rintro - w hm a hs)) | refine sc_ ?_)
          refine cMid (fun a w => ∃ (r5 at5 : Nat) (cA2 : Option Nat) (cc2 : Nat) (ccs2 : List Value), (r5 : Int) ≤ 70 ∧ Row cA2 (is.length + 1) cc2 5 (is.flatMap inV ++ [.int .i64 18, .int .i64 0, .int .i64 0, .int .i64 0, .int .i64 (r5 : Int)]) ccs2 ∧ Sl Tryz.f11.ntmps [(0, .pointer (some ⟨gd, 0, none⟩)), (2, .pointer (some ⟨g2, 0, none⟩)), (3, .pointer (some ⟨g3, 0, none⟩))] a ∧ Mm (own Lb) wS (⟨cA2, 54, ccs2⟩ :: ⟨some g3, 26, [slv cA2 (is.length + 1) cc2, .slice (some ⟨gs, 0, none⟩) m sc, dV]⟩ :: dk gd A n c at5 :: R) w) ?_ ?_
          · skip
            refine cDraw (n := 13) [] hm rfl rfl ?_
            clear hm
            intro w2 hm
            refine hV_ 0 ?_; clear hs a; intro a hs
            refine hV_ 2 ?_; clear hs a; intro a hs
            refine hV_ 3 ?_; clear hs a; intro a hs
            refine hEach [1, 4] (by kernel_rfl) (eDo hs rfl (Wnt.none rfl) rfl rfl (RunV.does kvR_) ?_ (eDo hs rfl (Wnt.none rfl) rfl rfl (RunV.does kvR_) ?_ eNil))
            · skip
              clear hs a
              rintro _ _ ⟨rfl, rfl⟩ a hs
              refine ⟨hm.sub sub_, ?_⟩
              refine hEach [4] (by kernel_rfl) (eDo hs rfl (Wnt.none rfl) rfl rfl (RunV.does kvR_) ?_ eNil)
              clear hs a
              rintro _ _ ⟨rfl, rfl⟩ a hs
              refine ⟨hm.sub sub_, ?_⟩
              refine hTake 5 hs rfl (by kernel_rfl) (Wnt.none rfl) rfl rfl (by intro w hm; replace hm : Mm _ _ _ w := hm; (first | exact r_val hs tab rfl | exact r_bi hs rfl | exact r_pick hs rfl rfl rfl rfl)) (hm.sub (List.nil_sublist _)) ?_; clear hs a; intro a hs
              refine hTake 6 hs rfl (by kernel_rfl) (Wnt.none rfl) rfl rfl (by intro w hm; replace hm : Mm _ _ _ w := hm; (first | exact r_arH hs rfl (by assumption) (by omega) | exact r_pred hs rfl rfl rfl (by omega) | exact r_ar hs rfl (by omega) | exact r_bi hs rfl)) (hm.sub (List.nil_sublist _)) ?_; clear hs a; intro a hs
              refine hEach [7] (by kernel_rfl) (eDo hs rfl (Wnt.none rfl) rfl rfl (by exact d_call hs rfl rfl rfl (pl 27 rfl) ((nxt_c gd A n c _ xs ((is.length : Int) + 1) _ (h.now (hmB.trans hm) (by repeat (first | exact mH | apply mT))) (by omega) (by omega)))) ?_ eNil)
              clear hs
              rintro _ w1 ⟨r5, rfl, b5, a5, k5, hf⟩ a hs
              replace hm := hm.dkt rep_ k5 hf
              clear hf
              refine ⟨hm.sub sub_, ?_⟩
              refine hV_ 8 ?_; clear hs a; intro a hs
              refine hEach [9] (by kernel_rfl) (eDo hs rfl (Wnt.none rfl) rfl rfl (by exact d_buildSlice hs rfl tab rfl rfl rfl rfl rfl rfl rfl rfl rfl hm) ?_ eNil)
              clear hs hm a
              rintro _ w29 ⟨g71, rfl, -, hm⟩ a hs
              refine ⟨hm.sub sub_, ?_⟩
              refine hEach [10] (by kernel_rfl) (eDo hs rfl (Wnt.none rfl) rfl rfl (d_append (A := cA) (n := is.length) (c := cc) hs rfl rfl rfl rfl rfl tab rfl rfl rfl rfl rfl hm mem_ hrw rfl (hm.ro (n := 5) mem_ (cutF_ok rfl)) rfl (by show (is.length + 1) * 40 ≤ _; omega) (by omega)) ?_ eNil)
              clear hs
              rintro _ w1 ⟨cA2, cc2, ccs2, rfl, hrr, hM⟩ a hs
              replace hm := hM _ rep_
              clear hM
              refine ⟨hm.sub sub_, ?_⟩
              refine hV_ 11 ?_; clear hs a; intro a hs
              refine hEach [12] (by kernel_rfl) (eDoN hs rfl (Wnt.none rfl) rfl ds_ ?_ eNil)
              clear hs hm
              rintro - w32 hm a hs
              refine ⟨hm.sub sub_, ?_⟩
              refine hDone (by kernel_rfl) ?_
              exact And.intro rfl ⟨r5, a5, cA2, cc2, ccs2, by omega, hrr, hs.sub (Has.all ⟨rfl, rfl, rfl, trivial⟩), hm.sub (List.sublist_cons_self _ _)⟩
            · skip
              clear hs a
              rintro _ _ ⟨rfl, rfl⟩ a hs
              refine ⟨hm.sub sub_, ?_⟩
              refine hTake 5 hs rfl (by kernel_rfl) (Wnt.none rfl) rfl rfl (by intro w hm; replace hm : Mm _ _ _ w := hm; (first | exact r_val hs tab rfl | exact r_bi hs rfl | exact r_pick hs rfl rfl rfl rfl)) (hm.sub (List.nil_sublist _)) ?_; clear hs a; intro a hs
              refine hTake 6 hs rfl (by kernel_rfl) (Wnt.none rfl) rfl rfl (by intro w hm; replace hm : Mm _ _ _ w := hm; (first | exact r_arH hs rfl (by assumption) (by omega) | exact r_pred hs rfl rfl rfl (by omega) | exact r_ar hs rfl (by omega) | exact r_bi hs rfl)) (hm.sub (List.nil_sublist _)) ?_; clear hs a; intro a hs
              refine hEach [1, 7] (by kernel_rfl) (eDo hs rfl (Wnt.none rfl) rfl rfl (RunV.does kvR_) ?_ (eDo hs rfl (Wnt.none rfl) rfl rfl (by exact d_call hs rfl rfl rfl (pl 27 rfl) ((nxt_c gd A n c _ xs ((is.length : Int) + 1) _ (h.now (hmB.trans hm) (by repeat (first | exact mH | apply mT))) (by omega) (by omega)))) ?_ eNil))
              · skip
                clear hs a
                rintro _ _ ⟨rfl, rfl⟩ a hs
                refine ⟨hm.sub sub_, ?_⟩
                refine hEach [7] (by kernel_rfl) (eDo hs rfl (Wnt.none rfl) rfl rfl (by exact d_call hs rfl rfl rfl (pl 27 rfl) ((nxt_c gd A n c _ xs ((is.length : Int) + 1) _ (h.now (hmB.trans hm) (by repeat (first | exact mH | apply mT))) (by omega) (by omega)))) ?_ eNil)
                clear hs
                rintro _ w1 ⟨r5, rfl, b5, a5, k5, hf⟩ a hs
                replace hm := hm.dkt rep_ k5 hf
                clear hf
                refine ⟨hm.sub sub_, ?_⟩
                refine hV_ 8 ?_; clear hs a; intro a hs
                refine hEach [9] (by kernel_rfl) (eDo hs rfl (Wnt.none rfl) rfl rfl (by exact d_buildSlice hs rfl tab rfl rfl rfl rfl rfl rfl rfl rfl rfl hm) ?_ eNil)
                clear hs hm a
                rintro _ w29 ⟨g71, rfl, -, hm⟩ a hs
                refine ⟨hm.sub sub_, ?_⟩
                refine hEach [10] (by kernel_rfl) (eDo hs rfl (Wnt.none rfl) rfl rfl (d_append (A := cA) (n := is.length) (c := cc) hs rfl rfl rfl rfl rfl tab rfl rfl rfl rfl rfl hm mem_ hrw rfl (hm.ro (n := 5) mem_ (cutF_ok rfl)) rfl (by show (is.length + 1) * 40 ≤ _; omega) (by omega)) ?_ eNil)
                clear hs
                rintro _ w1 ⟨cA2, cc2, ccs2, rfl, hrr, hM⟩ a hs
                replace hm := hM _ rep_
                clear hM
                refine ⟨hm.sub sub_, ?_⟩
                refine hV_ 11 ?_; clear hs a; intro a hs
                refine hEach [12] (by kernel_rfl) (eDoN hs rfl (Wnt.none rfl) rfl ds_ ?_ eNil)
                clear hs hm
                rintro - w32 hm a hs
                refine ⟨hm.sub sub_, ?_⟩
                refine hDone (by kernel_rfl) ?_
                exact And.intro rfl ⟨r5, a5, cA2, cc2, ccs2, by omega, hrr, hs.sub (Has.all ⟨rfl, rfl, rfl, trivial⟩), hm.sub (List.sublist_cons_self _ _)⟩
              · skip
                clear hs
                rintro _ w1 ⟨r5, rfl, b5, a5, k5, hf⟩ a hs
                replace hm := hm.dkt rep_ k5 hf
                clear hf
                refine ⟨hm.sub sub_, ?_⟩
                refine hV_ 8 ?_; clear hs a; intro a hs
                refine hEach [1, 9] (by kernel_rfl) (eDo hs rfl (Wnt.none rfl) rfl rfl (RunV.does kvR_) ?_ (eDo hs rfl (Wnt.none rfl) rfl rfl (by exact d_buildSlice hs rfl tab rfl rfl rfl rfl rfl rfl rfl rfl rfl hm) ?_ eNil))
                · skip
                  clear hs a
                  rintro _ _ ⟨rfl, rfl⟩ a hs
                  refine ⟨hm.sub sub_, ?_⟩
                  refine hEach [9] (by kernel_rfl) (eDo hs rfl (Wnt.none rfl) rfl rfl (by exact d_buildSlice hs rfl tab rfl rfl rfl rfl rfl rfl rfl rfl rfl hm) ?_ eNil)
                  clear hs hm a
                  rintro _ w29 ⟨g71, rfl, -, hm⟩ a hs
                  refine ⟨hm.sub sub_, ?_⟩
                  refine hEach [10] (by kernel_rfl) (eDo hs rfl (Wnt.none rfl) rfl rfl (d_append (A := cA) (n := is.length) (c := cc) hs rfl rfl rfl rfl rfl tab rfl rfl rfl rfl rfl hm mem_ hrw rfl (hm.ro (n := 5) mem_ (cutF_ok rfl)) rfl (by show (is.length + 1) * 40 ≤ _; omega) (by omega)) ?_ eNil)
                  clear hs
                  rintro _ w1 ⟨cA2, cc2, ccs2, rfl, hrr, hM⟩ a hs
                  replace hm := hM _ rep_
                  clear hM
                  refine ⟨hm.sub sub_, ?_⟩
                  refine hV_ 11 ?_; clear hs a; intro a hs
                  refine hEach [12] (by kernel_rfl) (eDoN hs rfl (Wnt.none rfl) rfl ds_ ?_ eNil)
                  clear hs hm
                  rintro - w32 hm a hs
                  refine ⟨hm.sub sub_, ?_⟩
                  refine hDone (by kernel_rfl) ?_
                  exact And.intro rfl ⟨r5, a5, cA2, cc2, ccs2, by omega, hrr, hs.sub (Has.all ⟨rfl, rfl, rfl, trivial⟩), hm.sub (List.sublist_cons_self _ _)⟩
                · skip
                  clear hs hm a
                  rintro _ w29 ⟨g71, rfl, -, hm⟩ a hs
                  refine ⟨hm.sub sub_, ?_⟩
                  refine hEach [1] (by kernel_rfl) (eDo hs rfl (Wnt.none rfl) rfl rfl (RunV.does kvR_) ?_ eNil)
                  clear hs a
                  rintro _ _ ⟨rfl, rfl⟩ a hs
                  refine ⟨hm.sub sub_, ?_⟩
                  refine hEach [10] (by kernel_rfl) (eDo hs rfl (Wnt.none rfl) rfl rfl (d_append (A := cA) (n := is.length) (c := cc) hs rfl rfl rfl rfl rfl tab rfl rfl rfl rfl rfl hm mem_ hrw rfl (hm.ro (n := 5) mem_ (cutF_ok rfl)) rfl (by show (is.length + 1) * 40 ≤ _; omega) (by omega)) ?_ eNil)
                  clear hs
                  rintro _ w1 ⟨cA2, cc2, ccs2, rfl, hrr, hM⟩ a hs
                  replace hm := hM _ rep_
                  clear hM
                  refine ⟨hm.sub sub_, ?_⟩
                  refine hV_ 11 ?_; clear hs a; intro a hs
                  refine hEach [12] (by kernel_rfl) (eDoN hs rfl (Wnt.none rfl) rfl ds_ ?_ eNil)
                  clear hs hm
                  rintro - w32 hm a hs
                  refine ⟨hm.sub sub_, ?_⟩
                  refine hDone (by kernel_rfl) ?_
                  exact And.intro rfl ⟨r5, a5, cA2, cc2, ccs2, by omega, hrr, hs.sub (Has.all ⟨rfl, rfl, rfl, trivial⟩), hm.sub (List.sublist_cons_self _ _)⟩
          clear hs hm a
          rintro a w5 ⟨r5, at5, cA2, cc2, ccs2, h70, hrr, hs, hm⟩
          repeat (first | (refine ovXPg50_ ?_; clear hs a; intro a hs) | ((with_reducible apply lCons); first | (refine dv hs gw_ rfl rfl da_ ?_; clear hs hm a; rintro _ w ⟨g, rfl, -, hm⟩ a hs) | (refine stn hs rfl rfl ds_ ?_; clear hs hm a; rintro - w hm a hs)) | refine sc_ ?_)
          refine And.intro rfl ⟨at5, is ++ [⟨18, 0, 0, 0, (r5 : Int)⟩], cA2, cc2, ccs2, ?_⟩
          rw [List.length_append, List.length_singleton, List.flatMap_append]
          refine ⟨hrr, by omega, fun z hz => ?_, hs.sub (Has.all ⟨rfl, rfl, rfl, trivial⟩), hm⟩
          rcases List.mem_append.1 hz with hz | hz
          · exact hiv z hz
          · rcases List.mem_singleton.1 hz with rfl; exact in_jmp _ (by omega)
        by_cases q1 : (r4 : Int) = 1
        · repeat (first | (refine ovXPg50_ ?_; clear hs a; intro a hs) | ((with_reducible apply lCons); first | (refine dv hs gw_ rfl rfl da_ ?_; clear hs hm a; rintro _ w ⟨g, rfl, -, hm⟩ a hs) | (refine stn hs rfl rfl ds_ ?_; clear hs hm a; rintro - w hm a hs)) | refine sc_ ?_)
          refine dv hs (Wnt.none rfl) rfl rfl (d_append (A := cA) (n := is.length) (c := cc) hs rfl rfl rfl rfl rfl tab rfl rfl rfl rfl rfl hm mem_ hrw rfl (hm.ro (n := 5) mem_ (cutF_ok rfl)) rfl (by show (is.length + 1) * 40 ≤ _; omega) (by omega)) ?_
          clear hs
          rintro _ w3 ⟨cA2, cc2, ccs2, rfl, hrr, hM⟩ a hs
          replace hm := hM _ rep_
          clear hM
          repeat (first | (refine ovXPg50_ ?_; clear hs a; intro a hs) | ((with_reducible apply lCons); first | (refine dv hs gw_ rfl rfl da_ ?_; clear hs hm a; rintro _ w ⟨g, rfl, -, hm⟩ a hs) | (refine stn hs rfl rfl ds_ ?_; clear hs hm a; rintro - w hm a hs)) | refine sc_ ?_)
          refine And.intro rfl ⟨a4, is ++ [⟨24, 0, 0, 0, 0⟩], cA2, cc2, ccs2, ?_⟩
          rw [List.length_append, List.length_singleton, List.flatMap_append]
          refine ⟨hrr, by omega, fun z hz => ?_, hs.sub (Has.all ⟨rfl, rfl, rfl, trivial⟩), hm.sub (List.sublist_cons_self _ _)⟩
          rcases List.mem_append.1 hz with hz | hz
          · exact hiv z hz
          · rcases List.mem_singleton.1 hz with rfl; exact in_rti
        · repeat (first | (refine ovXPg50_ ?_; clear hs a; intro a hs) | ((with_reducible apply lCons); first | (refine dv hs gw_ rfl rfl da_ ?_; clear hs hm a; rintro _ w ⟨g, rfl, -, hm⟩ a hs) | (refine stn hs rfl rfl ds_ ?_; clear hs hm a; rintro - w hm a hs)) | refine sc_ ?_)
          exact And.intro rfl ⟨a4, is, cA, cc, ccs, hrw, by omega, hiv, hs.sub (Has.all ⟨rfl, rfl, rfl, trivial⟩), hm⟩
      clear hs hm a
      rintro a w4 ⟨at4, is2, cA2, cc2, ccs2, hrw2, h63, hiv2, hs, hm⟩
      repeat (first | (refine ovXPg50_ ?_; clear hs a; intro a hs) | ((with_reducible apply lCons); first | (refine dv hs gw_ rfl rfl da_ ?_; clear hs hm a; rintro _ w ⟨g, rfl, -, hm⟩ a hs) | (refine stn hs rfl rfl ds_ ?_; clear hs hm a; rintro - w hm a hs)) | refine sc_ ?_)
      refine cMid (fun a w => ∃ (r6 at5 : Nat) (cA3 : Option Nat) (cc3 : Nat) (ccs3 : List Value), (r6 : Int) < 9 ∧ Row cA3 (is2.length + 2) cc3 5 (is2.flatMap inV ++ [.int .i64 1, .int .i64 0, .int .i64 0, .int .i64 0, .int .i64 (r6 : Int), .int .i64 23, .int .i64 0, .int .i64 0, .int .i64 0, .int .i64 0]) ccs3 ∧ Sl Tryz.f11.ntmps [(0, .pointer (some ⟨gd, 0, none⟩)), (2, .pointer (some ⟨g2, 0, none⟩)), (3, .pointer (some ⟨g3, 0, none⟩))] a ∧ Mm (own Lb) wS (⟨cA3, 54, ccs3⟩ :: ⟨some g3, 26, [slv cA3 (is2.length + 2) cc3, .slice (some ⟨gs, 0, none⟩) m sc, dV]⟩ :: dk gd A n c at5 :: R) w) ?_ ?_
      · skip
        refine cDraw (n := 10) [] hm rfl rfl ?_
        clear hm
        intro w2 hm
        refine hV_ 0 ?_; clear hs a; intro a hs
        refine hV_ 2 ?_; clear hs a; intro a hs
        refine hEach [1, 3] (by kernel_rfl) (eDo hs rfl (Wnt.none rfl) rfl rfl (RunV.does kvR_) ?_ (eDo hs rfl (Wnt.none rfl) rfl rfl (by exact d_call hs rfl rfl rfl (pl 27 rfl) ((nxt_c gd A n c _ xs 9 _ (h.now (hmB.trans hm) (by repeat (first | exact mH | apply mT))) (by omega) (by omega)))) ?_ eNil))
        · skip
          clear hs a
          rintro _ _ ⟨rfl, rfl⟩ a hs
          refine ⟨hm.sub sub_, ?_⟩
          refine hEach [3] (by kernel_rfl) (eDo hs rfl (Wnt.none rfl) rfl rfl (by exact d_call hs rfl rfl rfl (pl 27 rfl) ((nxt_c gd A n c _ xs 9 _ (h.now (hmB.trans hm) (by repeat (first | exact mH | apply mT))) (by omega) (by omega)))) ?_ eNil)
          clear hs
          rintro _ w1 ⟨r6, rfl, b6, a6, k6, hf⟩ a hs
          replace hm := hm.dkt rep_ k6 hf
          clear hf
          refine ⟨hm.sub sub_, ?_⟩
          refine hEach [4] (by kernel_rfl) (eDo hs rfl (Wnt.none rfl) rfl rfl (by exact d_call hs rfl rfl rfl (pl 29 rfl) ((li_c 0 (r6 : Int) _))) ?_ eNil)
          clear hs
          rintro _ w1 ⟨rfl, hf⟩ a hs
          replace hm := hm.pu hf
          clear hf
          refine ⟨hm.sub sub_, ?_⟩
          refine hEach [5] (by kernel_rfl) (eDo hs rfl (Wnt.none rfl) rfl rfl (by exact d_call hs rfl rfl rfl (pl 30 rfl) ((sys_c 0 _))) ?_ eNil)
          clear hs
          rintro _ w1 ⟨rfl, hf⟩ a hs
          replace hm := hm.pu hf
          clear hf
          refine ⟨hm.sub sub_, ?_⟩
          refine hEach [6] (by kernel_rfl) (eDo hs rfl (Wnt.none rfl) rfl rfl (by exact d_buildSlice hs rfl tab rfl rfl rfl rfl rfl rfl rfl rfl rfl hm) ?_ eNil)
          clear hs hm a
          rintro _ w26 ⟨g88, rfl, -, hm⟩ a hs
          refine ⟨hm.sub sub_, ?_⟩
          refine hEach [7] (by kernel_rfl) (eDo hs rfl (Wnt.none rfl) rfl rfl (d_append (A := cA2) (n := is2.length) (c := cc2) hs rfl rfl rfl rfl rfl tab rfl rfl rfl rfl rfl hm mem_ hrw2 rfl (hm.ro (n := 10) mem_ (cutF_ok rfl)) rfl (by show (is2.length + 2) * 40 ≤ _; omega) (by omega)) ?_ eNil)
          clear hs
          rintro _ w1 ⟨cA3, cc3, ccs3, rfl, hrr, hM⟩ a hs
          replace hm := hM _ rep_
          clear hM
          refine ⟨hm.sub sub_, ?_⟩
          refine hV_ 8 ?_; clear hs a; intro a hs
          refine hEach [9] (by kernel_rfl) (eDoN hs rfl (Wnt.none rfl) rfl ds_ ?_ eNil)
          clear hs hm
          rintro - w29 hm a hs
          refine ⟨hm.sub sub_, ?_⟩
          refine hDone (by kernel_rfl) ?_
          exact And.intro rfl ⟨r6, a6, cA3, cc3, ccs3, by omega, hrr, hs.sub (Has.all ⟨rfl, rfl, rfl, trivial⟩), hm.sub (List.sublist_cons_self _ _)⟩
        · skip
          clear hs
          rintro _ w1 ⟨r6, rfl, b6, a6, k6, hf⟩ a hs
          replace hm := hm.dkt rep_ k6 hf
          clear hf
          refine ⟨hm.sub sub_, ?_⟩
          refine hEach [1, 4] (by kernel_rfl) (eDo hs rfl (Wnt.none rfl) rfl rfl (RunV.does kvR_) ?_ (eDo hs rfl (Wnt.none rfl) rfl rfl (by exact d_call hs rfl rfl rfl (pl 29 rfl) ((li_c 0 (r6 : Int) _))) ?_ eNil))
          · skip
            clear hs a
            rintro _ _ ⟨rfl, rfl⟩ a hs
            refine ⟨hm.sub sub_, ?_⟩
            refine hEach [4] (by kernel_rfl) (eDo hs rfl (Wnt.none rfl) rfl rfl (by exact d_call hs rfl rfl rfl (pl 29 rfl) ((li_c 0 (r6 : Int) _))) ?_ eNil)
            clear hs
            rintro _ w1 ⟨rfl, hf⟩ a hs
            replace hm := hm.pu hf
            clear hf
            refine ⟨hm.sub sub_, ?_⟩
            refine hEach [5] (by kernel_rfl) (eDo hs rfl (Wnt.none rfl) rfl rfl (by exact d_call hs rfl rfl rfl (pl 30 rfl) ((sys_c 0 _))) ?_ eNil)
            clear hs
            rintro _ w1 ⟨rfl, hf⟩ a hs
            replace hm := hm.pu hf
            clear hf
            refine ⟨hm.sub sub_, ?_⟩
            refine hEach [6] (by kernel_rfl) (eDo hs rfl (Wnt.none rfl) rfl rfl (by exact d_buildSlice hs rfl tab rfl rfl rfl rfl rfl rfl rfl rfl rfl hm) ?_ eNil)
            clear hs hm a
            rintro _ w26 ⟨g88, rfl, -, hm⟩ a hs
            refine ⟨hm.sub sub_, ?_⟩
            refine hEach [7] (by kernel_rfl) (eDo hs rfl (Wnt.none rfl) rfl rfl (d_append (A := cA2) (n := is2.length) (c := cc2) hs rfl rfl rfl rfl rfl tab rfl rfl rfl rfl rfl hm mem_ hrw2 rfl (hm.ro (n := 10) mem_ (cutF_ok rfl)) rfl (by show (is2.length + 2) * 40 ≤ _; omega) (by omega)) ?_ eNil)
            clear hs
            rintro _ w1 ⟨cA3, cc3, ccs3, rfl, hrr, hM⟩ a hs
            replace hm := hM _ rep_
            clear hM
            refine ⟨hm.sub sub_, ?_⟩
            refine hV_ 8 ?_; clear hs a; intro a hs
            refine hEach [9] (by kernel_rfl) (eDoN hs rfl (Wnt.none rfl) rfl ds_ ?_ eNil)
            clear hs hm
            rintro - w29 hm a hs
            refine ⟨hm.sub sub_, ?_⟩
            refine hDone (by kernel_rfl) ?_
            exact And.intro rfl ⟨r6, a6, cA3, cc3, ccs3, by omega, hrr, hs.sub (Has.all ⟨rfl, rfl, rfl, trivial⟩), hm.sub (List.sublist_cons_self _ _)⟩
          · skip
            clear hs
            rintro _ w1 ⟨rfl, hf⟩ a hs
            replace hm := hm.pu hf
            clear hf
            refine ⟨hm.sub sub_, ?_⟩
            refine hEach [1, 5] (by kernel_rfl) (eDo hs rfl (Wnt.none rfl) rfl rfl (RunV.does kvR_) ?_ (eDo hs rfl (Wnt.none rfl) rfl rfl (by exact d_call hs rfl rfl rfl (pl 30 rfl) ((sys_c 0 _))) ?_ eNil))
            · skip
              clear hs a
              rintro _ _ ⟨rfl, rfl⟩ a hs
              refine ⟨hm.sub sub_, ?_⟩
              refine hEach [5] (by kernel_rfl) (eDo hs rfl (Wnt.none rfl) rfl rfl (by exact d_call hs rfl rfl rfl (pl 30 rfl) ((sys_c 0 _))) ?_ eNil)
              clear hs
              rintro _ w1 ⟨rfl, hf⟩ a hs
              replace hm := hm.pu hf
              clear hf
              refine ⟨hm.sub sub_, ?_⟩
              refine hEach [6] (by kernel_rfl) (eDo hs rfl (Wnt.none rfl) rfl rfl (by exact d_buildSlice hs rfl tab rfl rfl rfl rfl rfl rfl rfl rfl rfl hm) ?_ eNil)
              clear hs hm a
              rintro _ w26 ⟨g88, rfl, -, hm⟩ a hs
              refine ⟨hm.sub sub_, ?_⟩
              refine hEach [7] (by kernel_rfl) (eDo hs rfl (Wnt.none rfl) rfl rfl (d_append (A := cA2) (n := is2.length) (c := cc2) hs rfl rfl rfl rfl rfl tab rfl rfl rfl rfl rfl hm mem_ hrw2 rfl (hm.ro (n := 10) mem_ (cutF_ok rfl)) rfl (by show (is2.length + 2) * 40 ≤ _; omega) (by omega)) ?_ eNil)
              clear hs
              rintro _ w1 ⟨cA3, cc3, ccs3, rfl, hrr, hM⟩ a hs
              replace hm := hM _ rep_
              clear hM
              refine ⟨hm.sub sub_, ?_⟩
              refine hV_ 8 ?_; clear hs a; intro a hs
              refine hEach [9] (by kernel_rfl) (eDoN hs rfl (Wnt.none rfl) rfl ds_ ?_ eNil)
              clear hs hm
              rintro - w29 hm a hs
              refine ⟨hm.sub sub_, ?_⟩
              refine hDone (by kernel_rfl) ?_
              exact And.intro rfl ⟨r6, a6, cA3, cc3, ccs3, by omega, hrr, hs.sub (Has.all ⟨rfl, rfl, rfl, trivial⟩), hm.sub (List.sublist_cons_self _ _)⟩
            · skip
              clear hs
              rintro _ w1 ⟨rfl, hf⟩ a hs
              replace hm := hm.pu hf
              clear hf
              refine ⟨hm.sub sub_, ?_⟩
              refine hEach [1, 6] (by kernel_rfl) (eDo hs rfl (Wnt.none rfl) rfl rfl (RunV.does kvR_) ?_ (eDo hs rfl (Wnt.none rfl) rfl rfl (by exact d_buildSlice hs rfl tab rfl rfl rfl rfl rfl rfl rfl rfl rfl hm) ?_ eNil))
              · skip
                clear hs a
                rintro _ _ ⟨rfl, rfl⟩ a hs
                refine ⟨hm.sub sub_, ?_⟩
                refine hEach [6] (by kernel_rfl) (eDo hs rfl (Wnt.none rfl) rfl rfl (by exact d_buildSlice hs rfl tab rfl rfl rfl rfl rfl rfl rfl rfl rfl hm) ?_ eNil)
                clear hs hm a
                rintro _ w26 ⟨g88, rfl, -, hm⟩ a hs
                refine ⟨hm.sub sub_, ?_⟩
                refine hEach [7] (by kernel_rfl) (eDo hs rfl (Wnt.none rfl) rfl rfl (d_append (A := cA2) (n := is2.length) (c := cc2) hs rfl rfl rfl rfl rfl tab rfl rfl rfl rfl rfl hm mem_ hrw2 rfl (hm.ro (n := 10) mem_ (cutF_ok rfl)) rfl (by show (is2.length + 2) * 40 ≤ _; omega) (by omega)) ?_ eNil)
                clear hs
                rintro _ w1 ⟨cA3, cc3, ccs3, rfl, hrr, hM⟩ a hs
                replace hm := hM _ rep_
                clear hM
                refine ⟨hm.sub sub_, ?_⟩
                refine hV_ 8 ?_; clear hs a; intro a hs
                refine hEach [9] (by kernel_rfl) (eDoN hs rfl (Wnt.none rfl) rfl ds_ ?_ eNil)
                clear hs hm
                rintro - w29 hm a hs
                refine ⟨hm.sub sub_, ?_⟩
                refine hDone (by kernel_rfl) ?_
                exact And.intro rfl ⟨r6, a6, cA3, cc3, ccs3, by omega, hrr, hs.sub (Has.all ⟨rfl, rfl, rfl, trivial⟩), hm.sub (List.sublist_cons_self _ _)⟩
              · skip
                clear hs hm a
                rintro _ w26 ⟨g88, rfl, -, hm⟩ a hs
                refine ⟨hm.sub sub_, ?_⟩
                refine hEach [1] (by kernel_rfl) (eDo hs rfl (Wnt.none rfl) rfl rfl (RunV.does kvR_) ?_ eNil)
                clear hs a
                rintro _ _ ⟨rfl, rfl⟩ a hs
                refine ⟨hm.sub sub_, ?_⟩
                refine hEach [7] (by kernel_rfl) (eDo hs rfl (Wnt.none rfl) rfl rfl (d_append (A := cA2) (n := is2.length) (c := cc2) hs rfl rfl rfl rfl rfl tab rfl rfl rfl rfl rfl hm mem_ hrw2 rfl (hm.ro (n := 10) mem_ (cutF_ok rfl)) rfl (by show (is2.length + 2) * 40 ≤ _; omega) (by omega)) ?_ eNil)
                clear hs
                rintro _ w1 ⟨cA3, cc3, ccs3, rfl, hrr, hM⟩ a hs
                replace hm := hM _ rep_
                clear hM
                refine ⟨hm.sub sub_, ?_⟩
                refine hV_ 8 ?_; clear hs a; intro a hs
                refine hEach [9] (by kernel_rfl) (eDoN hs rfl (Wnt.none rfl) rfl ds_ ?_ eNil)
                clear hs hm
                rintro - w29 hm a hs
                refine ⟨hm.sub sub_, ?_⟩
                refine hDone (by kernel_rfl) ?_
                exact And.intro rfl ⟨r6, a6, cA3, cc3, ccs3, by omega, hrr, hs.sub (Has.all ⟨rfl, rfl, rfl, trivial⟩), hm.sub (List.sublist_cons_self _ _)⟩
      clear hs hm a hrw2
      rintro a w5 ⟨r6, at5, cA3, cc3, ccs3, h69, hrw2, hs, hm⟩
      rw [in_tail] at hrw2
      obtain ⟨gc, rfl⟩ := hrw2.some_ (by omega)
      have hiv3 : ∀ i ∈ is2 ++ ([⟨1, 0, 0, 0, (r6 : Int)⟩, ⟨23, 0, 0, 0, 0⟩] : List In), InV i (m : Int) := fun z hz => by
        rcases List.mem_append.1 hz with hz | hz
        · exact hiv2 z hz
        · simp only [List.mem_cons, List.not_mem_nil, or_false] at hz
          rcases hz with rfl | rfl
          · exact in_li _ _ (by omega) (by omega)
          · exact in_sys _ (by omega)
      have hl3 : (is2 ++ ([⟨1, 0, 0, 0, (r6 : Int)⟩, ⟨23, 0, 0, 0, 0⟩] : List In)).length = is2.length + 2 := by rw [List.length_append]; rfl
      rw [← hl3] at hrw2 hm
      obtain ⟨l3, hl3e⟩ : ∃ l3, l3 = is2 ++ ([⟨1, 0, 0, 0, (r6 : Int)⟩, ⟨23, 0, 0, 0, 0⟩] : List In) := ⟨_, rfl⟩
      rw [← hl3e] at hrw2 hm hl3 hiv3
      repeat (first | (refine ovXPg50_ ?_; clear hs a; intro a hs) | ((with_reducible apply lCons); first | (refine dv hs gw_ rfl rfl da_ ?_; clear hs hm a; rintro _ w ⟨g, rfl, -, hm⟩ a hs) | (refine stn hs rfl rfl ds_ ?_; clear hs hm a; rintro - w hm a hs)) | refine sc_ ?_)
      refine cMid (fun a w => ∃ l4 : List In, 1 ≤ l4.length ∧ l4.length ≤ 64 ∧ (∀ i ∈ l4, InV i (m : Int)) ∧ Row (some gc) l4.length cc3 5 (l4.flatMap inV) ccs3 ∧ Sl Tryz.f11.ntmps [(0, .pointer (some ⟨gd, 0, none⟩)), (2, .pointer (some ⟨g2, 0, none⟩)), (3, .pointer (some ⟨g3, 0, none⟩))] a ∧ Mm (own Lb) wS (⟨some gc, 54, ccs3⟩ :: ⟨some g3, 26, [slv (some gc) l4.length cc3, .slice (some ⟨gs, 0, none⟩) m sc, dV]⟩ :: dk gd A n c at5 :: R) w) ?_ ?_
      · by_cases q64 : 64 < l3.length
        · repeat (first | (refine ovXPg50_ ?_; clear hs a; intro a hs) | ((with_reducible apply lCons); first | (refine dv hs gw_ rfl rfl da_ ?_; clear hs hm a; rintro _ w ⟨g, rfl, -, hm⟩ a hs) | (refine stn hs rfl rfl ds_ ?_; clear hs hm a; rintro - w hm a hs)) | refine sc_ ?_)
          refine toL hm (oneV hs (Wnt.none rfl) rfl rfl (by intro w hm; exact r_sliceTo hs rfl rfl rfl tab rfl rfl rfl (by omega) (by have := hrw2.le; omega)) ?_)
          clear hs a
          intro a hs
          repeat (first | (refine ovXPg50_ ?_; clear hs a; intro a hs) | ((with_reducible apply lCons); first | (refine dv hs gw_ rfl rfl da_ ?_; clear hs hm a; rintro _ w ⟨g, rfl, -, hm⟩ a hs) | (refine stn hs rfl rfl ds_ ?_; clear hs hm a; rintro - w hm a hs)) | refine sc_ ?_)
          have h64 : (l3.take 64).length = 64 := by rw [List.length_take]; omega
          refine And.intro rfl ⟨l3.take 64, by omega, by omega, fun i hi => hiv3 i (List.mem_of_mem_take hi), ?_⟩
          rw [h64]
          exact ⟨hrw2.cut (by omega) rfl (fun e => by cases e), hs.sub (Has.all ⟨rfl, rfl, rfl, trivial⟩), hm⟩
        · repeat (first | (refine ovXPg50_ ?_; clear hs a; intro a hs) | ((with_reducible apply lCons); first | (refine dv hs gw_ rfl rfl da_ ?_; clear hs hm a; rintro _ w ⟨g, rfl, -, hm⟩ a hs) | (refine stn hs rfl rfl ds_ ?_; clear hs hm a; rintro - w hm a hs)) | refine sc_ ?_)
          exact And.intro rfl ⟨l3, by omega, by omega, hiv3, hrw2, hs.sub (Has.all ⟨rfl, rfl, rfl, trivial⟩), hm⟩
      clear hs hm a hrw2 hiv3
      rintro a w6 ⟨l4, h41, h464, hiv4, hrw4, hs, hm⟩
      obtain ⟨N, hN⟩ : ∃ N, N = l4.length := ⟨_, rfl⟩
      rw [← hN] at hm hrw4 h41 h464
      repeat (first | (refine ovXPg50_ ?_; clear hs a; intro a hs) | ((with_reducible apply lCons); first | (refine dv hs gw_ rfl rfl da_ ?_; clear hs hm a; rintro _ w ⟨g, rfl, -, hm⟩ a hs) | (refine stn hs rfl rfl ds_ ?_; clear hs hm a; rintro - w hm a hs)) | refine sc_ ?_)
      refine cLoop (X := JuX) (fun X a w' => Sl Tryz.f11.ntmps [(0, .pointer (some ⟨gd, 0, none⟩)), (2, .pointer (some ⟨g2, 0, none⟩)), (3, .pointer (some ⟨g3, 0, none⟩)), (101, .int .i64 (N : Int)), (102, .int .i64 (X.k : Int))] a ∧ Mm (own Lb) wS (⟨some gc, 54, X.ccs⟩ :: ⟨some g3, 26, [slv (some gc) N cc3, .slice (some ⟨gs, 0, none⟩) m sc, dV]⟩ :: dk gd A n c at5 :: R) w' ∧ X.k ≤ N ∧ X.l.length = N ∧ Row (some gc) N cc3 5 (X.l.flatMap inV) X.ccs ∧ (∀ i ∈ X.l, InV i (m : Int)) ∧ (∀ j i, j < X.k → X.l[j]? = some i → jumpB i.op = true → i.m < (N : Int))) (fun X => N - X.k) ⟨0, l4, ccs3⟩ ⟨hs.sub (Has.all ⟨rfl, rfl, rfl, rfl, rfl, trivial⟩), hm, Nat.zero_le _, hN.symm, hrw4, hiv4, fun j i hj => absurd hj (Nat.not_lt_zero _)⟩ ?_
      clear hs hm a hrw4 hiv4
      rintro ⟨k, l, ccs5⟩ a w7 ⟨hs, hm, hkN, hlN, hrw, hiv, hju⟩
      dsimp only at *
      by_cases hlt : k < N
      · obtain ⟨x, hx⟩ : ∃ x, l[k]? = some x := ⟨l[k], List.getElem?_eq_getElem (by omega)⟩
        have hxk : l[k] = x := by rw [List.getElem?_eq_getElem (by omega)] at hx; exact Option.some.inj hx
        have hcl : ∀ j, j < 5 → ∀ v, (inV x)[j]? = some v → ccs5[k * 5 + j]? = some v := fun j hj v hv => hrw.get (by rw [flat_get inV 5 inV_len l k j (by omega) hj, hxk]; exact hv)
        have hc0 := hcl 0 (by omega) _ rfl
        have hc4 := hcl 4 (by omega) _ rfl
        have hix := hiv x (List.mem_of_getElem? hx)
        have hjm := fun w => jump_c x.op w
        obtain ⟨jb, hjb⟩ : ∃ b, jumpB x.op = b := ⟨_, rfl⟩
        rw [hjb] at hjm
        have hio := hix.op
        have him := hix.m
        have hrl := hrw.len
        have hrc := hrw.le
        obtain ⟨bb, hbb⟩ : ∃ bb, bb = (jb && decide ((N : Int) ≤ x.m)) := ⟨_, rfl⟩
        repeat (first | (refine ovXPg50_ ?_; clear hs a; intro a hs) | ((with_reducible apply lCons); first | (refine dv hs gw_ rfl rfl da_ ?_; clear hs hm a; rintro _ w ⟨g, rfl, -, hm⟩ a hs) | (refine stn hs rfl rfl ds_ ?_; clear hs hm a; rintro - w hm a hs)) | refine sc_ ?_)
        refine cMid (fun a w => Sl Tryz.f11.ntmps [(0, .pointer (some ⟨gd, 0, none⟩)), (2, .pointer (some ⟨g2, 0, none⟩)), (3, .pointer (some ⟨g3, 0, none⟩)), (101, .int .i64 (N : Int)), (102, .int .i64 (k : Int)), (8, .int .i64 (k : Int)), (123, .bool bb)] a ∧ Mm (own Lb) wS (⟨some gc, 54, ccs5⟩ :: ⟨some g3, 26, [slv (some gc) N cc3, .slice (some ⟨gs, 0, none⟩) m sc, dV]⟩ :: dk gd A n c at5 :: R) w) ?_ ?_
        · cases jb
          · have e : bb = false := hbb
            rw [e]
            clear hbb
            refine cDraw (n := 19) [⟨some gc, 54, ccs5⟩, ⟨some g3, 26, [slv (some gc) N cc3, .slice (some ⟨gs, 0, none⟩) m sc, dV]⟩] hm rfl rfl ?_
            clear hm
            intro w2 hm
            refine hV_ 0 ?_; clear hs a; intro a hs
            refine hTake 1 hs rfl (by kernel_rfl) (Wnt.none rfl) rfl rfl (by intro w hm; replace hm : Mm _ _ _ w := hm; exact klR_) (hm.sub sub_) ?_; clear hs a; intro a hs
            refine hV_ 2 ?_; clear hs a; intro a hs
            refine hTake 3 hs rfl (by kernel_rfl) (Wnt.none rfl) rfl rfl (by intro w hm; replace hm : Mm _ _ _ w := hm; (first | exact r_iz hs tab rfl rfl (by omega) | exact r_iy hs tab rfl rfl (by omega))) (hm.sub sub_) ?_; clear hs a; intro a hs
            refine hV_ 4 ?_; clear hs a; intro a hs
            refine hTake 5 hs rfl (by kernel_rfl) (Wnt.none rfl) rfl rfl (by intro w hm; replace hm : Mm _ _ _ w := hm; exact klR_) (hm.sub sub_) ?_; clear hs a; intro a hs
            refine hEach [6] (by kernel_rfl) (eDo hs rfl (Wnt.none rfl) rfl rfl (by exact d_call hs rfl rfl rfl (pl 31 rfl) ((hjm _))) ?_ eNil)
            clear hs
            rintro _ w1 ⟨rfl, hf⟩ a hs
            replace hm := hm.pu hf
            clear hf
            refine ⟨hm.sub sub_, ?_⟩
            refine hV_ 7 ?_; clear hs a; intro a hs
            (first | refine hTake 8 hs rfl (by kernel_rfl) (Wnt.some rfl rfl rfl rfl) rfl rfl (by intro w hm; replace hm : Mm _ _ _ w := hm; exact r_val hs tab rfl) (hm.sub sub_) ?_ | refine hTakeN 8 hs rfl (by kernel_rfl) rfl rfl rfl rfl rfl rfl rfl (hm.sub sub_) ?_ | refine hTakeU 8 hs rfl (by kernel_rfl) rfl rfl rfl rfl rfl rfl (hm.sub sub_) ?_); clear hs a; intro a hs
            (first | refine hTake 9 hs rfl (by kernel_rfl) (Wnt.some rfl rfl rfl rfl) rfl rfl (by intro w hm; replace hm : Mm _ _ _ w := hm; exact klR_) (hm.sub sub_) ?_ | refine hTakeN 9 hs rfl (by kernel_rfl) rfl rfl rfl rfl rfl rfl rfl (hm.sub sub_) ?_ | refine hTakeU 9 hs rfl (by kernel_rfl) rfl rfl rfl rfl rfl rfl (hm.sub sub_) ?_); clear hs a; intro a hs
            (first | refine hTake 10 hs rfl (by kernel_rfl) (Wnt.some rfl rfl rfl rfl) rfl rfl (by intro w hm; replace hm : Mm _ _ _ w := hm; exact r_val hs tab rfl) (hm.sub sub_) ?_ | refine hTakeN 10 hs rfl (by kernel_rfl) rfl rfl rfl rfl rfl rfl rfl (hm.sub sub_) ?_ | refine hTakeU 10 hs rfl (by kernel_rfl) rfl rfl rfl rfl rfl rfl (hm.sub sub_) ?_); clear hs a; intro a hs
            (first | refine hTake 11 hs rfl (by kernel_rfl) (Wnt.some rfl rfl rfl rfl) rfl rfl (by intro w hm; replace hm : Mm _ _ _ w := hm; (first | exact r_iz hs tab rfl rfl (by omega) | exact r_iy hs tab rfl rfl (by omega))) (hm.sub sub_) ?_ | refine hTakeN 11 hs rfl (by kernel_rfl) rfl rfl rfl rfl rfl rfl rfl (hm.sub sub_) ?_ | refine hTakeU 11 hs rfl (by kernel_rfl) rfl rfl rfl rfl rfl rfl (hm.sub sub_) ?_); clear hs a; intro a hs
            (first | refine hTake 12 hs rfl (by kernel_rfl) (Wnt.some rfl rfl rfl rfl) rfl rfl (by intro w hm; replace hm : Mm _ _ _ w := hm; exact r_val hs tab rfl) (hm.sub sub_) ?_ | refine hTakeN 12 hs rfl (by kernel_rfl) rfl rfl rfl rfl rfl rfl rfl (hm.sub sub_) ?_ | refine hTakeU 12 hs rfl (by kernel_rfl) rfl rfl rfl rfl rfl rfl (hm.sub sub_) ?_); clear hs a; intro a hs
            (first | refine hTake 13 hs rfl (by kernel_rfl) (Wnt.some rfl rfl rfl rfl) rfl rfl (by intro w hm; replace hm : Mm _ _ _ w := hm; exact klR_) (hm.sub sub_) ?_ | refine hTakeN 13 hs rfl (by kernel_rfl) rfl rfl rfl rfl rfl rfl rfl (hm.sub sub_) ?_ | refine hTakeU 13 hs rfl (by kernel_rfl) rfl rfl rfl rfl rfl rfl (hm.sub sub_) ?_); clear hs a; intro a hs
            (first | refine hTake 14 hs rfl (by kernel_rfl) (Wnt.some rfl rfl rfl rfl) rfl rfl (by intro w hm; replace hm : Mm _ _ _ w := hm; exact r_val hs tab rfl) (hm.sub sub_) ?_ | refine hTakeN 14 hs rfl (by kernel_rfl) rfl rfl rfl rfl rfl rfl rfl (hm.sub sub_) ?_ | refine hTakeU 14 hs rfl (by kernel_rfl) rfl rfl rfl rfl rfl rfl (hm.sub sub_) ?_); clear hs a; intro a hs
            (first | refine hTake 15 hs rfl (by kernel_rfl) (Wnt.some rfl rfl rfl rfl) rfl rfl (by intro w hm; replace hm : Mm _ _ _ w := hm; exact klR_) (hm.sub sub_) ?_ | refine hTakeN 15 hs rfl (by kernel_rfl) rfl rfl rfl rfl rfl rfl rfl (hm.sub sub_) ?_ | refine hTakeU 15 hs rfl (by kernel_rfl) rfl rfl rfl rfl rfl rfl (hm.sub sub_) ?_); clear hs a; intro a hs
            (first | refine hTake 16 hs rfl (by kernel_rfl) (Wnt.some rfl rfl rfl rfl) rfl rfl (by intro w hm; replace hm : Mm _ _ _ w := hm; (first | exact r_val hs tab rfl | exact r_bi hs rfl | exact r_pick hs rfl rfl rfl rfl)) (hm.sub sub_) ?_ | refine hTakeN 16 hs rfl (by kernel_rfl) rfl rfl rfl rfl rfl rfl rfl (hm.sub sub_) ?_ | refine hTakeU 16 hs rfl (by kernel_rfl) rfl rfl rfl rfl rfl rfl (hm.sub sub_) ?_); clear hs a; intro a hs
            (first | refine hTake 17 hs rfl (by kernel_rfl) (Wnt.some rfl rfl rfl rfl) rfl rfl (by intro w hm; replace hm : Mm _ _ _ w := hm; (first | exact r_cT hs rfl (by omega) | exact r_cF hs rfl (by omega) | exact r_bi hs rfl)) (hm.sub sub_) ?_ | refine hTakeN 17 hs rfl (by kernel_rfl) rfl rfl rfl rfl rfl rfl rfl (hm.sub sub_) ?_ | refine hTakeU 17 hs rfl (by kernel_rfl) rfl rfl rfl rfl rfl rfl (hm.sub sub_) ?_); clear hs a; intro a hs
            refine hTake 18 hs rfl (by kernel_rfl) (Wnt.none rfl) rfl rfl (by intro w hm; replace hm : Mm _ _ _ w := hm; (first | exact r_val hs tab rfl | exact r_bi hs rfl | exact r_pick hs rfl rfl rfl rfl)) (hm.sub sub_) ?_; clear hs a; intro a hs
            refine hDone (by kernel_rfl) ?_
            exact And.intro rfl ⟨hs.sub (Has.all ⟨rfl, rfl, rfl, rfl, rfl, rfl, rfl, trivial⟩), hm⟩
          by_cases hge : (N : Int) ≤ x.m
          · have e : bb = true := by rw [hbb, decide_eq_true hge]; rfl
            rw [e]
            clear hbb
            refine cDraw (n := 19) [⟨some gc, 54, ccs5⟩, ⟨some g3, 26, [slv (some gc) N cc3, .slice (some ⟨gs, 0, none⟩) m sc, dV]⟩] hm rfl rfl ?_
            clear hm
            intro w2 hm
            refine hV_ 0 ?_; clear hs a; intro a hs
            refine hTake 1 hs rfl (by kernel_rfl) (Wnt.none rfl) rfl rfl (by intro w hm; replace hm : Mm _ _ _ w := hm; exact klR_) (hm.sub sub_) ?_; clear hs a; intro a hs
            refine hV_ 2 ?_; clear hs a; intro a hs
            refine hTake 3 hs rfl (by kernel_rfl) (Wnt.none rfl) rfl rfl (by intro w hm; replace hm : Mm _ _ _ w := hm; (first | exact r_iz hs tab rfl rfl (by omega) | exact r_iy hs tab rfl rfl (by omega))) (hm.sub sub_) ?_; clear hs a; intro a hs
            refine hV_ 4 ?_; clear hs a; intro a hs
            refine hTake 5 hs rfl (by kernel_rfl) (Wnt.none rfl) rfl rfl (by intro w hm; replace hm : Mm _ _ _ w := hm; exact klR_) (hm.sub sub_) ?_; clear hs a; intro a hs
            refine hEach [6] (by kernel_rfl) (eDo hs rfl (Wnt.none rfl) rfl rfl (by exact d_call hs rfl rfl rfl (pl 31 rfl) ((hjm _))) ?_ eNil)
            clear hs
            rintro _ w1 ⟨rfl, hf⟩ a hs
            replace hm := hm.pu hf
            clear hf
            refine ⟨hm.sub sub_, ?_⟩
            refine hV_ 7 ?_; clear hs a; intro a hs
            (first | refine hTake 8 hs rfl (by kernel_rfl) (Wnt.some rfl rfl rfl rfl) rfl rfl (by intro w hm; replace hm : Mm _ _ _ w := hm; exact r_val hs tab rfl) (hm.sub sub_) ?_ | refine hTakeN 8 hs rfl (by kernel_rfl) rfl rfl rfl rfl rfl rfl rfl (hm.sub sub_) ?_ | refine hTakeU 8 hs rfl (by kernel_rfl) rfl rfl rfl rfl rfl rfl (hm.sub sub_) ?_); clear hs a; intro a hs
            (first | refine hTake 9 hs rfl (by kernel_rfl) (Wnt.some rfl rfl rfl rfl) rfl rfl (by intro w hm; replace hm : Mm _ _ _ w := hm; exact klR_) (hm.sub sub_) ?_ | refine hTakeN 9 hs rfl (by kernel_rfl) rfl rfl rfl rfl rfl rfl rfl (hm.sub sub_) ?_ | refine hTakeU 9 hs rfl (by kernel_rfl) rfl rfl rfl rfl rfl rfl (hm.sub sub_) ?_); clear hs a; intro a hs
            (first | refine hTake 10 hs rfl (by kernel_rfl) (Wnt.some rfl rfl rfl rfl) rfl rfl (by intro w hm; replace hm : Mm _ _ _ w := hm; exact r_val hs tab rfl) (hm.sub sub_) ?_ | refine hTakeN 10 hs rfl (by kernel_rfl) rfl rfl rfl rfl rfl rfl rfl (hm.sub sub_) ?_ | refine hTakeU 10 hs rfl (by kernel_rfl) rfl rfl rfl rfl rfl rfl (hm.sub sub_) ?_); clear hs a; intro a hs
            (first | refine hTake 11 hs rfl (by kernel_rfl) (Wnt.some rfl rfl rfl rfl) rfl rfl (by intro w hm; replace hm : Mm _ _ _ w := hm; (first | exact r_iz hs tab rfl rfl (by omega) | exact r_iy hs tab rfl rfl (by omega))) (hm.sub sub_) ?_ | refine hTakeN 11 hs rfl (by kernel_rfl) rfl rfl rfl rfl rfl rfl rfl (hm.sub sub_) ?_ | refine hTakeU 11 hs rfl (by kernel_rfl) rfl rfl rfl rfl rfl rfl (hm.sub sub_) ?_); clear hs a; intro a hs
            (first | refine hTake 12 hs rfl (by kernel_rfl) (Wnt.some rfl rfl rfl rfl) rfl rfl (by intro w hm; replace hm : Mm _ _ _ w := hm; exact r_val hs tab rfl) (hm.sub sub_) ?_ | refine hTakeN 12 hs rfl (by kernel_rfl) rfl rfl rfl rfl rfl rfl rfl (hm.sub sub_) ?_ | refine hTakeU 12 hs rfl (by kernel_rfl) rfl rfl rfl rfl rfl rfl (hm.sub sub_) ?_); clear hs a; intro a hs
            (first | refine hTake 13 hs rfl (by kernel_rfl) (Wnt.some rfl rfl rfl rfl) rfl rfl (by intro w hm; replace hm : Mm _ _ _ w := hm; exact klR_) (hm.sub sub_) ?_ | refine hTakeN 13 hs rfl (by kernel_rfl) rfl rfl rfl rfl rfl rfl rfl (hm.sub sub_) ?_ | refine hTakeU 13 hs rfl (by kernel_rfl) rfl rfl rfl rfl rfl rfl (hm.sub sub_) ?_); clear hs a; intro a hs
            (first | refine hTake 14 hs rfl (by kernel_rfl) (Wnt.some rfl rfl rfl rfl) rfl rfl (by intro w hm; replace hm : Mm _ _ _ w := hm; exact r_val hs tab rfl) (hm.sub sub_) ?_ | refine hTakeN 14 hs rfl (by kernel_rfl) rfl rfl rfl rfl rfl rfl rfl (hm.sub sub_) ?_ | refine hTakeU 14 hs rfl (by kernel_rfl) rfl rfl rfl rfl rfl rfl (hm.sub sub_) ?_); clear hs a; intro a hs
            (first | refine hTake 15 hs rfl (by kernel_rfl) (Wnt.some rfl rfl rfl rfl) rfl rfl (by intro w hm; replace hm : Mm _ _ _ w := hm; exact klR_) (hm.sub sub_) ?_ | refine hTakeN 15 hs rfl (by kernel_rfl) rfl rfl rfl rfl rfl rfl rfl (hm.sub sub_) ?_ | refine hTakeU 15 hs rfl (by kernel_rfl) rfl rfl rfl rfl rfl rfl (hm.sub sub_) ?_); clear hs a; intro a hs
            (first | refine hTake 16 hs rfl (by kernel_rfl) (Wnt.some rfl rfl rfl rfl) rfl rfl (by intro w hm; replace hm : Mm _ _ _ w := hm; (first | exact r_val hs tab rfl | exact r_bi hs rfl | exact r_pick hs rfl rfl rfl rfl)) (hm.sub sub_) ?_ | refine hTakeN 16 hs rfl (by kernel_rfl) rfl rfl rfl rfl rfl rfl rfl (hm.sub sub_) ?_ | refine hTakeU 16 hs rfl (by kernel_rfl) rfl rfl rfl rfl rfl rfl (hm.sub sub_) ?_); clear hs a; intro a hs
            (first | refine hTake 17 hs rfl (by kernel_rfl) (Wnt.some rfl rfl rfl rfl) rfl rfl (by intro w hm; replace hm : Mm _ _ _ w := hm; (first | exact r_cT hs rfl (by omega) | exact r_cF hs rfl (by omega) | exact r_bi hs rfl)) (hm.sub sub_) ?_ | refine hTakeN 17 hs rfl (by kernel_rfl) rfl rfl rfl rfl rfl rfl rfl (hm.sub sub_) ?_ | refine hTakeU 17 hs rfl (by kernel_rfl) rfl rfl rfl rfl rfl rfl (hm.sub sub_) ?_); clear hs a; intro a hs
            refine hTake 18 hs rfl (by kernel_rfl) (Wnt.none rfl) rfl rfl (by intro w hm; replace hm : Mm _ _ _ w := hm; (first | exact r_val hs tab rfl | exact r_bi hs rfl | exact r_pick hs rfl rfl rfl rfl)) (hm.sub sub_) ?_; clear hs a; intro a hs
            refine hDone (by kernel_rfl) ?_
            exact And.intro rfl ⟨hs.sub (Has.all ⟨rfl, rfl, rfl, rfl, rfl, rfl, rfl, trivial⟩), hm⟩
          · have e : bb = false := by rw [hbb, decide_eq_false hge]; rfl
            rw [e]
            clear hbb
            refine cDraw (n := 19) [⟨some gc, 54, ccs5⟩, ⟨some g3, 26, [slv (some gc) N cc3, .slice (some ⟨gs, 0, none⟩) m sc, dV]⟩] hm rfl rfl ?_
            clear hm
            intro w2 hm
            refine hV_ 0 ?_; clear hs a; intro a hs
            refine hTake 1 hs rfl (by kernel_rfl) (Wnt.none rfl) rfl rfl (by intro w hm; replace hm : Mm _ _ _ w := hm; exact klR_) (hm.sub sub_) ?_; clear hs a; intro a hs
            refine hV_ 2 ?_; clear hs a; intro a hs
            refine hTake 3 hs rfl (by kernel_rfl) (Wnt.none rfl) rfl rfl (by intro w hm; replace hm : Mm _ _ _ w := hm; (first | exact r_iz hs tab rfl rfl (by omega) | exact r_iy hs tab rfl rfl (by omega))) (hm.sub sub_) ?_; clear hs a; intro a hs
            refine hV_ 4 ?_; clear hs a; intro a hs
            refine hTake 5 hs rfl (by kernel_rfl) (Wnt.none rfl) rfl rfl (by intro w hm; replace hm : Mm _ _ _ w := hm; exact klR_) (hm.sub sub_) ?_; clear hs a; intro a hs
            refine hEach [6] (by kernel_rfl) (eDo hs rfl (Wnt.none rfl) rfl rfl (by exact d_call hs rfl rfl rfl (pl 31 rfl) ((hjm _))) ?_ eNil)
            clear hs
            rintro _ w1 ⟨rfl, hf⟩ a hs
            replace hm := hm.pu hf
            clear hf
            refine ⟨hm.sub sub_, ?_⟩
            refine hV_ 7 ?_; clear hs a; intro a hs
            (first | refine hTake 8 hs rfl (by kernel_rfl) (Wnt.some rfl rfl rfl rfl) rfl rfl (by intro w hm; replace hm : Mm _ _ _ w := hm; exact r_val hs tab rfl) (hm.sub sub_) ?_ | refine hTakeN 8 hs rfl (by kernel_rfl) rfl rfl rfl rfl rfl rfl rfl (hm.sub sub_) ?_ | refine hTakeU 8 hs rfl (by kernel_rfl) rfl rfl rfl rfl rfl rfl (hm.sub sub_) ?_); clear hs a; intro a hs
            (first | refine hTake 9 hs rfl (by kernel_rfl) (Wnt.some rfl rfl rfl rfl) rfl rfl (by intro w hm; replace hm : Mm _ _ _ w := hm; exact klR_) (hm.sub sub_) ?_ | refine hTakeN 9 hs rfl (by kernel_rfl) rfl rfl rfl rfl rfl rfl rfl (hm.sub sub_) ?_ | refine hTakeU 9 hs rfl (by kernel_rfl) rfl rfl rfl rfl rfl rfl (hm.sub sub_) ?_); clear hs a; intro a hs
            (first | refine hTake 10 hs rfl (by kernel_rfl) (Wnt.some rfl rfl rfl rfl) rfl rfl (by intro w hm; replace hm : Mm _ _ _ w := hm; exact r_val hs tab rfl) (hm.sub sub_) ?_ | refine hTakeN 10 hs rfl (by kernel_rfl) rfl rfl rfl rfl rfl rfl rfl (hm.sub sub_) ?_ | refine hTakeU 10 hs rfl (by kernel_rfl) rfl rfl rfl rfl rfl rfl (hm.sub sub_) ?_); clear hs a; intro a hs
            (first | refine hTake 11 hs rfl (by kernel_rfl) (Wnt.some rfl rfl rfl rfl) rfl rfl (by intro w hm; replace hm : Mm _ _ _ w := hm; (first | exact r_iz hs tab rfl rfl (by omega) | exact r_iy hs tab rfl rfl (by omega))) (hm.sub sub_) ?_ | refine hTakeN 11 hs rfl (by kernel_rfl) rfl rfl rfl rfl rfl rfl rfl (hm.sub sub_) ?_ | refine hTakeU 11 hs rfl (by kernel_rfl) rfl rfl rfl rfl rfl rfl (hm.sub sub_) ?_); clear hs a; intro a hs
            (first | refine hTake 12 hs rfl (by kernel_rfl) (Wnt.some rfl rfl rfl rfl) rfl rfl (by intro w hm; replace hm : Mm _ _ _ w := hm; exact r_val hs tab rfl) (hm.sub sub_) ?_ | refine hTakeN 12 hs rfl (by kernel_rfl) rfl rfl rfl rfl rfl rfl rfl (hm.sub sub_) ?_ | refine hTakeU 12 hs rfl (by kernel_rfl) rfl rfl rfl rfl rfl rfl (hm.sub sub_) ?_); clear hs a; intro a hs
            (first | refine hTake 13 hs rfl (by kernel_rfl) (Wnt.some rfl rfl rfl rfl) rfl rfl (by intro w hm; replace hm : Mm _ _ _ w := hm; exact klR_) (hm.sub sub_) ?_ | refine hTakeN 13 hs rfl (by kernel_rfl) rfl rfl rfl rfl rfl rfl rfl (hm.sub sub_) ?_ | refine hTakeU 13 hs rfl (by kernel_rfl) rfl rfl rfl rfl rfl rfl (hm.sub sub_) ?_); clear hs a; intro a hs
            (first | refine hTake 14 hs rfl (by kernel_rfl) (Wnt.some rfl rfl rfl rfl) rfl rfl (by intro w hm; replace hm : Mm _ _ _ w := hm; exact r_val hs tab rfl) (hm.sub sub_) ?_ | refine hTakeN 14 hs rfl (by kernel_rfl) rfl rfl rfl rfl rfl rfl rfl (hm.sub sub_) ?_ | refine hTakeU 14 hs rfl (by kernel_rfl) rfl rfl rfl rfl rfl rfl (hm.sub sub_) ?_); clear hs a; intro a hs
            (first | refine hTake 15 hs rfl (by kernel_rfl) (Wnt.some rfl rfl rfl rfl) rfl rfl (by intro w hm; replace hm : Mm _ _ _ w := hm; exact klR_) (hm.sub sub_) ?_ | refine hTakeN 15 hs rfl (by kernel_rfl) rfl rfl rfl rfl rfl rfl rfl (hm.sub sub_) ?_ | refine hTakeU 15 hs rfl (by kernel_rfl) rfl rfl rfl rfl rfl rfl (hm.sub sub_) ?_); clear hs a; intro a hs
            (first | refine hTake 16 hs rfl (by kernel_rfl) (Wnt.some rfl rfl rfl rfl) rfl rfl (by intro w hm; replace hm : Mm _ _ _ w := hm; (first | exact r_val hs tab rfl | exact r_bi hs rfl | exact r_pick hs rfl rfl rfl rfl)) (hm.sub sub_) ?_ | refine hTakeN 16 hs rfl (by kernel_rfl) rfl rfl rfl rfl rfl rfl rfl (hm.sub sub_) ?_ | refine hTakeU 16 hs rfl (by kernel_rfl) rfl rfl rfl rfl rfl rfl (hm.sub sub_) ?_); clear hs a; intro a hs
            (first | refine hTake 17 hs rfl (by kernel_rfl) (Wnt.some rfl rfl rfl rfl) rfl rfl (by intro w hm; replace hm : Mm _ _ _ w := hm; (first | exact r_cT hs rfl (by omega) | exact r_cF hs rfl (by omega) | exact r_bi hs rfl)) (hm.sub sub_) ?_ | refine hTakeN 17 hs rfl (by kernel_rfl) rfl rfl rfl rfl rfl rfl rfl (hm.sub sub_) ?_ | refine hTakeU 17 hs rfl (by kernel_rfl) rfl rfl rfl rfl rfl rfl (hm.sub sub_) ?_); clear hs a; intro a hs
            refine hTake 18 hs rfl (by kernel_rfl) (Wnt.none rfl) rfl rfl (by intro w hm; replace hm : Mm _ _ _ w := hm; (first | exact r_val hs tab rfl | exact r_bi hs rfl | exact r_pick hs rfl rfl rfl rfl)) (hm.sub sub_) ?_; clear hs a; intro a hs
            refine hDone (by kernel_rfl) ?_
            exact And.intro rfl ⟨hs.sub (Has.all ⟨rfl, rfl, rfl, rfl, rfl, rfl, rfl, trivial⟩), hm⟩
        clear hs hm a
        rintro a w8 ⟨hs, hm⟩
        cases bb
        · repeat (first | (refine ovXPg50_ ?_; clear hs a; intro a hs) | ((with_reducible apply lCons); first | (refine dv hs gw_ rfl rfl da_ ?_; clear hs hm a; rintro _ w ⟨g, rfl, -, hm⟩ a hs) | (refine stn hs rfl rfl ds_ ?_; clear hs hm a; rintro - w hm a hs)) | refine sc_ ?_)
          refine ⟨⟨k + 1, l, ccs5⟩, by dsimp only; omega, ?_⟩
          refine ⟨hs.sub (Has.all ⟨rfl, rfl, rfl, rfl, rfl, trivial⟩), hm, hlt, hlN, hrw, hiv, ju_next hx (fun e => ?_) hju⟩
          rw [hjb] at e
          rw [e] at hbb
          have := of_decide_eq_false hbb.symm
          omega
        · have hbj : jumpB x.op = true ∧ (N : Int) ≤ x.m := by
            cases jb
            · cases hbb
            · exact ⟨hjb, of_decide_eq_true hbb.symm⟩
          repeat (first | (refine ovXPg50_ ?_; clear hs a; intro a hs) | ((with_reducible apply lCons); first | (refine dv hs gw_ rfl rfl da_ ?_; clear hs hm a; rintro _ w ⟨g, rfl, -, hm⟩ a hs) | (refine stn hs rfl rfl ds_ ?_; clear hs hm a; rintro - w hm a hs)) | refine sc_ ?_)
          refine ⟨⟨k + 1, l.set k ⟨x.op, x.a, x.b, x.c, 0⟩, ccs5.set (k * 5 + 4) (.int .i64 0)⟩, by dsimp only; omega, ?_⟩
          refine ⟨hs.sub (Has.all ⟨rfl, rfl, rfl, rfl, rfl, trivial⟩), hm, hlt, by rw [List.length_set]; exact hlN, ?_, fun i hi => ?_, ju_set (by omega) hx rfl hju⟩
          · rw [← flat_set inV 5 inV_len l k 4 x (.int .i64 0) hx (by omega) ⟨x.op, x.a, x.b, x.c, 0⟩ rfl]
            exact hrw.set _ _
          · rcases List.mem_or_eq_of_mem_set hi with hi | rfl
            · exact hiv i hi
            · exact in_zero hix hbj.1
      · have hkN2 : k = N := by omega
        subst hkN2
        rw [hR, hdV] at hm
        repeat (first | (refine ovXPg50_ ?_; clear hs a; intro a hs) | ((with_reducible apply lCons); first | (refine dv hs gw_ rfl rfl da_ ?_; clear hs hm a; rintro _ w ⟨g, rfl, -, hm⟩ a hs) | (refine stn hs rfl rfl ds_ ?_; clear hs hm a; rintro - w hm a hs)) | refine sc_ ?_)
        have hmT := hmB.trans hm
        refine gRetN tab hs rfl (.cons (.cells rfl rfl rfl rfl (hm.ro (k := 0) (n := 3) (g := g2) mem_ (cutF_ok rfl))) .nil) ⟨⟨l, gc, cc3, ss, gs, sc, ws, dA, dc⟩, ?_, ⟨hss, by rw [hwl]; exact hsl.symm, fun r hr => (hws r hr).2, hfit, by dsimp only; omega, by dsimp only; omega, by dsimp only; rw [hsl]; exact hiv, fun i hi hb => ?_, hrow.le⟩, ?_, ?_, ?_⟩
        · show _ = Value.agg #[slv (some gc) l.length cc3, .slice (some ⟨gs, 0, none⟩) ss.length sc, slv dA ws.length dc]
          rw [hsl, hlN]
          rfl
        · obtain ⟨j, hj, e⟩ := List.getElem_of_mem hi
          dsimp only at hj
          have h1 := hju j i (by omega) (by rw [List.getElem?_eq_getElem hj, e]) hb
          dsimp only
          rw [hlN]
          exact h1
        · intro r hr
          change r ∈ (some gc, l.flatMap inV) :: (some gs, ints ss) :: (dA, ws.map WS.v) :: ws.map (fun r => (r.A, wds r.xs)) at hr
          rcases List.mem_cons.1 hr with rfl | hr
          · exact hm.rd_row mem_ hrw
          rcases List.mem_cons.1 hr with rfl | hr
          · exact rdD hm.fr hsr (fun g o e => by cases e; exact hno)
          rcases List.mem_cons.1 hr with rfl | hr
          · exact hm.rd_row mem_ hrow
          obtain ⟨r0, h0, rfl⟩ := List.mem_map.1 hr
          exact hm.rd_row (t := 74) (List.mem_cons_of_mem _ (List.mem_cons_of_mem _ (List.mem_cons_of_mem _ (List.mem_cons_of_mem _ (List.mem_cons_of_mem _ (List.mem_map_of_mem h0)))))) (hws r0 h0).1
        · have hmU := hmT.perm (List.perm_middle (l₁ := ([⟨some gc, 54, ccs5⟩, ⟨some g3, 26, [slv (some gc) k cc3, .slice (some ⟨gs, 0, none⟩) m sc, slv dA ws.length dc]⟩] : List Hp))).symm
          have key := Mm.newer hmU rfl
          intro r hr g e
          change r ∈ (some gc, l.flatMap inV) :: (some gs, ints ss) :: (dA, ws.map WS.v) :: ws.map (fun r => (r.A, wds r.xs)) at hr
          rcases List.mem_cons.1 hr with rfl | hr
          · exact key ⟨some gc, 54, ccs5⟩ mem_ g e
          rcases List.mem_cons.1 hr with rfl | hr
          · cases e; omega
          rcases List.mem_cons.1 hr with rfl | hr
          · exact key ⟨dA, 56, dcs⟩ mem_ g e
          obtain ⟨r0, h0, rfl⟩ := List.mem_map.1 hr
          exact key r0.hp (List.mem_cons_of_mem _ (List.mem_cons_of_mem _ (List.mem_cons_of_mem _ (List.mem_cons_of_mem _ (List.mem_map_of_mem h0))))) g e
        · exact ⟨_, h.now hmT mem_, Dk.out hmT⟩
end Go.Proofs.YtajkekhnfobgiaaGreatDoor

/- The assembler: names of operations, fields, valid instructions, sizes. -/
namespace Go.Proofs.YtajkekhnfobgiaaGreatDoor
set_option maxRecDepth 20000
open Go.RowKit

def nmS : List UInt8 := [110, 111, 112, 32, 108, 105, 32, 109, 111, 118, 32, 97, 100, 100, 32, 115, 117, 98, 32, 109, 117, 108, 32, 100, 105, 118, 32, 114, 101, 109, 32, 97, 110, 100, 32, 111, 114, 32, 120, 111, 114, 32, 115, 104, 108, 32, 115, 104, 114, 32, 108, 116, 32, 101, 113, 32, 108, 101, 97, 32, 108, 100, 32, 115, 116, 32, 106, 109, 112, 32, 106, 122, 32, 106, 110, 122, 32, 106, 97, 108, 32, 106, 114, 32, 115, 121, 115, 32, 114, 116, 105]
def nmL : List (List UInt8) := [[110, 111, 112], [108, 105], [109, 111, 118], [97, 100, 100], [115, 117, 98], [109, 117, 108], [100, 105, 118], [114, 101, 109], [97, 110, 100], [111, 114], [120, 111, 114], [115, 104, 108], [115, 104, 114], [108, 116], [101, 113], [108, 101, 97], [108, 100], [115, 116], [106, 109, 112], [106, 122], [106, 110, 122], [106, 97, 108], [106, 114], [115, 121, 115], [114, 116, 105]]
theorem nm_fields : Lib.fields nmS = nmL := by kernel_rfl
theorem nm_spl : spl 32 nmS = nmL := by kernel_rfl
theorem nm_ascii : ∀ b ∈ nmS, b.toNat < 128 := by decide
/-- the name of an operation -/
def nameL (op : Int) : List UInt8 := if 0 ≤ op then (nmL[op.toNat]?).getD [] else []
theorem nameL_nat (k : Nat) (hk : k < 25) : nmL[k]? = some (nameL (k : Int)) := by
  unfold nameL
  rw [if_pos (by omega), Int.toNat_natCast]
  cases h : nmL[k]? with
  | none => rw [List.getElem?_eq_none_iff] at h; exact absurd h (by show ¬ 25 ≤ k; omega)
  | some x => rfl
theorem nameL_off {op : Int} (h : op < 0 ∨ 25 ≤ op) : nameL op = [] := by
  unfold nameL
  split
  · rw [List.getElem?_eq_none (by show 25 ≤ _; omega)]; rfl
  · rfl

set_option maxHeartbeats 4000000 in
theorem name_c (op : Int) (wB : World) (ht : TW wB) : Ret Tryz.prog 15 [.int .i64 op] wB (fun u w' => u = txv (nameL op) ∧ Pu wB w') := by
  refine enterR Tryz.func15 rfl rfl rfl fun a hs hm => ?_
  repeat (first | (refine ovR_ ?_; clear hs a; intro a hs) | ((with_reducible apply lCons); first | (refine dv hs gw_ rfl rfl da_ ?_; clear hs hm a; rintro _ w ⟨g, rfl, -, hm⟩ a hs) | (refine stn hs rfl rfl ds_ ?_; clear hs hm a; rintro - w hm a hs)) | refine sc_ ?_)
  refine st hs rfl rfl rfl (d_call hs rfl rfl rfl (pl 41 rfl) ((fields_c nmS _ (by decide) nm_ascii (ht.pu hm.fr)))) ?_; clear hs a; rintro _ w1 ⟨⟨A, c, ys⟩, rfl, hr, hx, hf⟩ a hs
  replace hm := hm.pu hf
  clear hf
  dsimp only at hx
  rw [nm_fields] at hx
  subst hx
  unfold SS.v at hs
  dsimp only at hs
  obtain ⟨b, o, rfl, hb, hro⟩ := hr.2.ro (by show 0 < 25; omega)
  dsimp only at *
  have hF := hm.fr
  clear hm
  have hm := Mm.nil (fun _ => False) w1
  change Sl _ ((_, .slice (some ⟨b, o, none⟩) 25 c) :: _) _ at hs
  by_cases h0 : op < 0
  · rw [nameL_off (.inl h0)]
    repeat (first | (refine ovR_ ?_; clear hs a; intro a hs) | ((with_reducible apply lCons); first | (refine dv hs gw_ rfl rfl da_ ?_; clear hs hm a; rintro _ w ⟨g, rfl, -, hm⟩ a hs) | (refine stn hs rfl rfl ds_ ?_; clear hs hm a; rintro - w hm a hs)) | refine sc_ ?_)
    exact gRet1 hs rfl rfl ⟨rfl, hF.pu hm.fr⟩
  by_cases h1 : 25 ≤ op
  · rw [nameL_off (.inr h1)]
    repeat (first | (refine ovR_ ?_; clear hs a; intro a hs) | ((with_reducible apply lCons); first | (refine dv hs gw_ rfl rfl da_ ?_; clear hs hm a; rintro _ w ⟨g, rfl, -, hm⟩ a hs) | (refine stn hs rfl rfl ds_ ?_; clear hs hm a; rintro - w hm a hs)) | refine sc_ ?_)
    exact gRet1 hs rfl rfl ⟨rfl, hF.pu hm.fr⟩
  · obtain ⟨k, rfl⟩ : ∃ k : Nat, op = (k : Int) := ⟨op.toNat, by omega⟩
    have e1 : (nmL.map txv)[k]? = some (txv (nameL (k : Int))) := by rw [List.getElem?_map, nameL_nat k (by omega)]; rfl
    repeat (first | (refine ovR_ ?_; clear hs a; intro a hs) | ((with_reducible apply lCons); first | (refine dv hs gw_ rfl rfl da_ ?_; clear hs hm a; rintro _ w ⟨g, rfl, -, hm⟩ a hs) | (refine stn hs rfl rfl ds_ ?_; clear hs hm a; rintro - w hm a hs)) | refine sc_ ?_)
    exact gRet1 hs rfl rfl ⟨rfl, hF.pu hm.fr⟩
end Go.Proofs.YtajkekhnfobgiaaGreatDoor

/- The assembler: fields, valid instructions, sizes. -/
namespace Go.Proofs.YtajkekhnfobgiaaGreatDoor
set_option maxRecDepth 20000
open Go.RowKit


set_option maxHeartbeats 4000000 in
theorem rname_c (op : Int) (wB : World) (ht : TW wB) : Ret Tryz.prog 16 [.int .i64 op] wB (fun u w' => u = txv (nameL op) ∧ Pu wB w') := by
  refine enterR Tryz.func16 rfl rfl rfl fun a hs hm => ?_
  repeat (first | (refine ovR_ ?_; clear hs a; intro a hs) | ((with_reducible apply lCons); first | (refine dv hs gw_ rfl rfl da_ ?_; clear hs hm a; rintro _ w ⟨g, rfl, -, hm⟩ a hs) | (refine stn hs rfl rfl ds_ ?_; clear hs hm a; rintro - w hm a hs)) | refine sc_ ?_)
  refine st hs rfl rfl rfl (d_call hs rfl rfl rfl (pl 18 rfl) ((split_c 32 nmS _ (by decide) (ht.pu hm.fr)))) ?_; clear hs a; rintro _ w1 ⟨⟨A, c, ys⟩, rfl, hr, hx, hf⟩ a hs
  replace hm := hm.pu hf
  clear hf
  dsimp only at hx
  rw [nm_spl] at hx
  subst hx
  unfold SS.v at hs
  dsimp only at hs
  obtain ⟨b, o, rfl, hb, hro⟩ := hr.2.ro (by show 0 < 25; omega)
  dsimp only at *
  have hF := hm.fr
  clear hm
  have hm := Mm.nil (fun _ => False) w1
  change Sl _ ((_, .slice (some ⟨b, o, none⟩) 25 c) :: _) _ at hs
  by_cases h0 : op < 0
  · rw [nameL_off (.inl h0)]
    repeat (first | (refine ovR_ ?_; clear hs a; intro a hs) | ((with_reducible apply lCons); first | (refine dv hs gw_ rfl rfl da_ ?_; clear hs hm a; rintro _ w ⟨g, rfl, -, hm⟩ a hs) | (refine stn hs rfl rfl ds_ ?_; clear hs hm a; rintro - w hm a hs)) | refine sc_ ?_)
    exact gRet1 hs rfl rfl ⟨rfl, hF.pu hm.fr⟩
  by_cases h1 : 25 ≤ op
  · rw [nameL_off (.inr h1)]
    repeat (first | (refine ovR_ ?_; clear hs a; intro a hs) | ((with_reducible apply lCons); first | (refine dv hs gw_ rfl rfl da_ ?_; clear hs hm a; rintro _ w ⟨g, rfl, -, hm⟩ a hs) | (refine stn hs rfl rfl ds_ ?_; clear hs hm a; rintro - w hm a hs)) | refine sc_ ?_)
    exact gRet1 hs rfl rfl ⟨rfl, hF.pu hm.fr⟩
  · obtain ⟨k, rfl⟩ : ∃ k : Nat, op = (k : Int) := ⟨op.toNat, by omega⟩
    have e1 : (nmL.map txv)[k]? = some (txv (nameL (k : Int))) := by rw [List.getElem?_map, nameL_nat k (by omega)]; rfl
    repeat (first | (refine ovR_ ?_; clear hs a; intro a hs) | ((with_reducible apply lCons); first | (refine dv hs gw_ rfl rfl da_ ?_; clear hs hm a; rintro _ w ⟨g, rfl, -, hm⟩ a hs) | (refine stn hs rfl rfl ds_ ?_; clear hs hm a; rintro - w hm a hs)) | refine sc_ ?_)
    exact gRet1 hs rfl rfl ⟨rfl, hF.pu hm.fr⟩
set_option maxHeartbeats 4000000 in
theorem flds_c (op : Int) (wB : World) : Ret Tryz.prog 58 [.int .i64 op] wB (fun u w' => u = u4V (usesF op) ∧ Pu wB w') := by
  by_cases h1 : op = 1
  · subst h1
    refine enterR Tryz.func58 rfl rfl rfl fun a hs hm => ?_
    repeat (first | (refine ovR_ ?_; clear hs a; intro a hs) | ((with_reducible apply lCons); first | (refine dv hs gw_ rfl rfl da_ ?_; clear hs hm a; rintro _ w ⟨g, rfl, -, hm⟩ a hs) | (refine stn hs rfl rfl ds_ ?_; clear hs hm a; rintro - w hm a hs)) | refine sc_ ?_)
    exact gRetN tab hs rfl (.cons (.cells rfl rfl rfl rfl (hm.ro (k := 0) (n := 4) mem_ (cutF_ok rfl))) .nil) ⟨rfl, hm.fr⟩
  by_cases h15 : op = 15
  · subst h15
    refine enterR Tryz.func58 rfl rfl rfl fun a hs hm => ?_
    repeat (first | (refine ovR_ ?_; clear hs a; intro a hs) | ((with_reducible apply lCons); first | (refine dv hs gw_ rfl rfl da_ ?_; clear hs hm a; rintro _ w ⟨g, rfl, -, hm⟩ a hs) | (refine stn hs rfl rfl ds_ ?_; clear hs hm a; rintro - w hm a hs)) | refine sc_ ?_)
    exact gRetN tab hs rfl (.cons (.cells rfl rfl rfl rfl (hm.ro (k := 0) (n := 4) mem_ (cutF_ok rfl))) .nil) ⟨rfl, hm.fr⟩
  by_cases h19 : op = 19
  · subst h19
    refine enterR Tryz.func58 rfl rfl rfl fun a hs hm => ?_
    repeat (first | (refine ovR_ ?_; clear hs a; intro a hs) | ((with_reducible apply lCons); first | (refine dv hs gw_ rfl rfl da_ ?_; clear hs hm a; rintro _ w ⟨g, rfl, -, hm⟩ a hs) | (refine stn hs rfl rfl ds_ ?_; clear hs hm a; rintro - w hm a hs)) | refine sc_ ?_)
    exact gRetN tab hs rfl (.cons (.cells rfl rfl rfl rfl (hm.ro (k := 0) (n := 4) mem_ (cutF_ok rfl))) .nil) ⟨rfl, hm.fr⟩
  by_cases h20 : op = 20
  · subst h20
    refine enterR Tryz.func58 rfl rfl rfl fun a hs hm => ?_
    repeat (first | (refine ovR_ ?_; clear hs a; intro a hs) | ((with_reducible apply lCons); first | (refine dv hs gw_ rfl rfl da_ ?_; clear hs hm a; rintro _ w ⟨g, rfl, -, hm⟩ a hs) | (refine stn hs rfl rfl ds_ ?_; clear hs hm a; rintro - w hm a hs)) | refine sc_ ?_)
    exact gRetN tab hs rfl (.cons (.cells rfl rfl rfl rfl (hm.ro (k := 0) (n := 4) mem_ (cutF_ok rfl))) .nil) ⟨rfl, hm.fr⟩
  by_cases h21 : op = 21
  · subst h21
    refine enterR Tryz.func58 rfl rfl rfl fun a hs hm => ?_
    repeat (first | (refine ovR_ ?_; clear hs a; intro a hs) | ((with_reducible apply lCons); first | (refine dv hs gw_ rfl rfl da_ ?_; clear hs hm a; rintro _ w ⟨g, rfl, -, hm⟩ a hs) | (refine stn hs rfl rfl ds_ ?_; clear hs hm a; rintro - w hm a hs)) | refine sc_ ?_)
    exact gRetN tab hs rfl (.cons (.cells rfl rfl rfl rfl (hm.ro (k := 0) (n := 4) mem_ (cutF_ok rfl))) .nil) ⟨rfl, hm.fr⟩
  by_cases h2 : op = 2
  · subst h2
    refine enterR Tryz.func58 rfl rfl rfl fun a hs hm => ?_
    repeat (first | (refine ovR_ ?_; clear hs a; intro a hs) | ((with_reducible apply lCons); first | (refine dv hs gw_ rfl rfl da_ ?_; clear hs hm a; rintro _ w ⟨g, rfl, -, hm⟩ a hs) | (refine stn hs rfl rfl ds_ ?_; clear hs hm a; rintro - w hm a hs)) | refine sc_ ?_)
    exact gRetN tab hs rfl (.cons (.cells rfl rfl rfl rfl (hm.ro (k := 0) (n := 4) mem_ (cutF_ok rfl))) .nil) ⟨rfl, hm.fr⟩
  by_cases h16 : op = 16
  · subst h16
    refine enterR Tryz.func58 rfl rfl rfl fun a hs hm => ?_
    repeat (first | (refine ovR_ ?_; clear hs a; intro a hs) | ((with_reducible apply lCons); first | (refine dv hs gw_ rfl rfl da_ ?_; clear hs hm a; rintro _ w ⟨g, rfl, -, hm⟩ a hs) | (refine stn hs rfl rfl ds_ ?_; clear hs hm a; rintro - w hm a hs)) | refine sc_ ?_)
    exact gRetN tab hs rfl (.cons (.cells rfl rfl rfl rfl (hm.ro (k := 0) (n := 4) mem_ (cutF_ok rfl))) .nil) ⟨rfl, hm.fr⟩
  by_cases h17 : op = 17
  · subst h17
    refine enterR Tryz.func58 rfl rfl rfl fun a hs hm => ?_
    repeat (first | (refine ovR_ ?_; clear hs a; intro a hs) | ((with_reducible apply lCons); first | (refine dv hs gw_ rfl rfl da_ ?_; clear hs hm a; rintro _ w ⟨g, rfl, -, hm⟩ a hs) | (refine stn hs rfl rfl ds_ ?_; clear hs hm a; rintro - w hm a hs)) | refine sc_ ?_)
    exact gRetN tab hs rfl (.cons (.cells rfl rfl rfl rfl (hm.ro (k := 0) (n := 4) mem_ (cutF_ok rfl))) .nil) ⟨rfl, hm.fr⟩
  by_cases h18 : op = 18
  · subst h18
    refine enterR Tryz.func58 rfl rfl rfl fun a hs hm => ?_
    repeat (first | (refine ovR_ ?_; clear hs a; intro a hs) | ((with_reducible apply lCons); first | (refine dv hs gw_ rfl rfl da_ ?_; clear hs hm a; rintro _ w ⟨g, rfl, -, hm⟩ a hs) | (refine stn hs rfl rfl ds_ ?_; clear hs hm a; rintro - w hm a hs)) | refine sc_ ?_)
    exact gRetN tab hs rfl (.cons (.cells rfl rfl rfl rfl (hm.ro (k := 0) (n := 4) mem_ (cutF_ok rfl))) .nil) ⟨rfl, hm.fr⟩
  by_cases h23 : op = 23
  · subst h23
    refine enterR Tryz.func58 rfl rfl rfl fun a hs hm => ?_
    repeat (first | (refine ovR_ ?_; clear hs a; intro a hs) | ((with_reducible apply lCons); first | (refine dv hs gw_ rfl rfl da_ ?_; clear hs hm a; rintro _ w ⟨g, rfl, -, hm⟩ a hs) | (refine stn hs rfl rfl ds_ ?_; clear hs hm a; rintro - w hm a hs)) | refine sc_ ?_)
    exact gRetN tab hs rfl (.cons (.cells rfl rfl rfl rfl (hm.ro (k := 0) (n := 4) mem_ (cutF_ok rfl))) .nil) ⟨rfl, hm.fr⟩
  by_cases h22 : op = 22
  · subst h22
    refine enterR Tryz.func58 rfl rfl rfl fun a hs hm => ?_
    repeat (first | (refine ovR_ ?_; clear hs a; intro a hs) | ((with_reducible apply lCons); first | (refine dv hs gw_ rfl rfl da_ ?_; clear hs hm a; rintro _ w ⟨g, rfl, -, hm⟩ a hs) | (refine stn hs rfl rfl ds_ ?_; clear hs hm a; rintro - w hm a hs)) | refine sc_ ?_)
    exact gRetN tab hs rfl (.cons (.cells rfl rfl rfl rfl (hm.ro (k := 0) (n := 4) mem_ (cutF_ok rfl))) .nil) ⟨rfl, hm.fr⟩
  by_cases h0 : op = 0
  · subst h0
    refine enterR Tryz.func58 rfl rfl rfl fun a hs hm => ?_
    repeat (first | (refine ovR_ ?_; clear hs a; intro a hs) | ((with_reducible apply lCons); first | (refine dv hs gw_ rfl rfl da_ ?_; clear hs hm a; rintro _ w ⟨g, rfl, -, hm⟩ a hs) | (refine stn hs rfl rfl ds_ ?_; clear hs hm a; rintro - w hm a hs)) | refine sc_ ?_)
    exact gRetN tab hs rfl (.cons (.cells rfl rfl rfl rfl (hm.ro (k := 0) (n := 4) mem_ (cutF_ok rfl))) .nil) ⟨rfl, hm.fr⟩
  by_cases h24 : op = 24
  · subst h24
    refine enterR Tryz.func58 rfl rfl rfl fun a hs hm => ?_
    repeat (first | (refine ovR_ ?_; clear hs a; intro a hs) | ((with_reducible apply lCons); first | (refine dv hs gw_ rfl rfl da_ ?_; clear hs hm a; rintro _ w ⟨g, rfl, -, hm⟩ a hs) | (refine stn hs rfl rfl ds_ ?_; clear hs hm a; rintro - w hm a hs)) | refine sc_ ?_)
    exact gRetN tab hs rfl (.cons (.cells rfl rfl rfl rfl (hm.ro (k := 0) (n := 4) mem_ (cutF_ok rfl))) .nil) ⟨rfl, hm.fr⟩
  · have hu : usesF op = (true, true, true, false) := by unfold usesF; rw [if_neg (by omega), if_neg (by omega), if_neg (by omega), if_neg (by omega), if_neg (by omega), if_neg (by omega)]
    rw [hu]
    refine enterR Tryz.func58 rfl rfl rfl fun a hs hm => ?_
    repeat (first | (refine ovR_ ?_; clear hs a; intro a hs) | ((with_reducible apply lCons); first | (refine dv hs gw_ rfl rfl da_ ?_; clear hs hm a; rintro _ w ⟨g, rfl, -, hm⟩ a hs) | (refine stn hs rfl rfl ds_ ?_; clear hs hm a; rintro - w hm a hs)) | refine sc_ ?_)
    exact gRetN tab hs rfl (.cons (.cells rfl rfl rfl rfl (hm.ro (k := 0) (n := 4) mem_ (cutF_ok rfl))) .nil) ⟨rfl, hm.fr⟩
theorem jmps_c (op : Int) (wB : World) : Ret Tryz.prog 35 [.int .i64 op] wB (fun u w' => u = .bool (jumpB op) ∧ Pu wB w') := by
  by_cases h18 : op = 18
  · rw [show jumpB op = true from decide_eq_true (by omega)]
    refine enterR Tryz.func35 rfl rfl rfl fun a hs hm => ?_
    repeat (first | (refine ovR_ ?_; clear hs a; intro a hs) | ((with_reducible apply lCons); first | (refine dv hs gw_ rfl rfl da_ ?_; clear hs hm a; rintro _ w ⟨g, rfl, -, hm⟩ a hs) | (refine stn hs rfl rfl ds_ ?_; clear hs hm a; rintro - w hm a hs)) | refine sc_ ?_)
    exact gRet1 hs rfl rfl ⟨rfl, hm.fr⟩
  by_cases h19 : op = 19
  · rw [show jumpB op = true from decide_eq_true (by omega)]
    refine enterR Tryz.func35 rfl rfl rfl fun a hs hm => ?_
    repeat (first | (refine ovR_ ?_; clear hs a; intro a hs) | ((with_reducible apply lCons); first | (refine dv hs gw_ rfl rfl da_ ?_; clear hs hm a; rintro _ w ⟨g, rfl, -, hm⟩ a hs) | (refine stn hs rfl rfl ds_ ?_; clear hs hm a; rintro - w hm a hs)) | refine sc_ ?_)
    exact gRet1 hs rfl rfl ⟨rfl, hm.fr⟩
  by_cases h20 : op = 20
  · rw [show jumpB op = true from decide_eq_true (by omega)]
    refine enterR Tryz.func35 rfl rfl rfl fun a hs hm => ?_
    repeat (first | (refine ovR_ ?_; clear hs a; intro a hs) | ((with_reducible apply lCons); first | (refine dv hs gw_ rfl rfl da_ ?_; clear hs hm a; rintro _ w ⟨g, rfl, -, hm⟩ a hs) | (refine stn hs rfl rfl ds_ ?_; clear hs hm a; rintro - w hm a hs)) | refine sc_ ?_)
    exact gRet1 hs rfl rfl ⟨rfl, hm.fr⟩
  by_cases h21 : op = 21
  · rw [show jumpB op = true from decide_eq_true (by omega)]
    refine enterR Tryz.func35 rfl rfl rfl fun a hs hm => ?_
    repeat (first | (refine ovR_ ?_; clear hs a; intro a hs) | ((with_reducible apply lCons); first | (refine dv hs gw_ rfl rfl da_ ?_; clear hs hm a; rintro _ w ⟨g, rfl, -, hm⟩ a hs) | (refine stn hs rfl rfl ds_ ?_; clear hs hm a; rintro - w hm a hs)) | refine sc_ ?_)
    exact gRet1 hs rfl rfl ⟨rfl, hm.fr⟩
  · rw [show jumpB op = false from decide_eq_false (by omega)]
    refine enterR Tryz.func35 rfl rfl rfl fun a hs hm => ?_
    repeat (first | (refine ovR_ ?_; clear hs a; intro a hs) | ((with_reducible apply lCons); first | (refine dv hs gw_ rfl rfl da_ ?_; clear hs hm a; rintro _ w ⟨g, rfl, -, hm⟩ a hs) | (refine stn hs rfl rfl ds_ ?_; clear hs hm a; rintro - w hm a hs)) | refine sc_ ?_)
    exact gRet1 hs rfl rfl ⟨rfl, hm.fr⟩
def imB (op : Int) : Int := if jumpB op then 63 else if op = 15 then 3 else if op = 23 then 15 else 65535
theorem most_c (op : Int) (wB : World) : Ret Tryz.prog 75 [.int .i64 op] wB (fun u w' => u = .int .i64 (imB op) ∧ Pu wB w') := by
  have hj := fun w => jmps_c op w
  unfold imB
  cases h : jumpB op
  · rw [h] at hj
    rw [if_neg (by decide)]
    by_cases h15 : op = 15
    · rw [if_pos h15]
      refine enterR Tryz.func75 rfl rfl rfl fun a hs hm => ?_
      repeat (first | (refine ovR_ ?_; clear hs a; intro a hs) | ((with_reducible apply lCons); first | (refine dv hs gw_ rfl rfl da_ ?_; clear hs hm a; rintro _ w ⟨g, rfl, -, hm⟩ a hs) | (refine stn hs rfl rfl ds_ ?_; clear hs hm a; rintro - w hm a hs) | (refine dvc hs hm gw_ rfl rfl rfl rfl rfl (pl 35 rfl) (hj _) ?_; clear hs hm a; intro w hm a hs)) | refine sc_ ?_)
      exact gRet1 hs rfl rfl ⟨rfl, hm.fr⟩
    rw [if_neg h15]
    by_cases h23 : op = 23
    · rw [if_pos h23]
      refine enterR Tryz.func75 rfl rfl rfl fun a hs hm => ?_
      repeat (first | (refine ovR_ ?_; clear hs a; intro a hs) | ((with_reducible apply lCons); first | (refine dv hs gw_ rfl rfl da_ ?_; clear hs hm a; rintro _ w ⟨g, rfl, -, hm⟩ a hs) | (refine stn hs rfl rfl ds_ ?_; clear hs hm a; rintro - w hm a hs) | (refine dvc hs hm gw_ rfl rfl rfl rfl rfl (pl 35 rfl) (hj _) ?_; clear hs hm a; intro w hm a hs)) | refine sc_ ?_)
      exact gRet1 hs rfl rfl ⟨rfl, hm.fr⟩
    · rw [if_neg h23]
      refine enterR Tryz.func75 rfl rfl rfl fun a hs hm => ?_
      repeat (first | (refine ovR_ ?_; clear hs a; intro a hs) | ((with_reducible apply lCons); first | (refine dv hs gw_ rfl rfl da_ ?_; clear hs hm a; rintro _ w ⟨g, rfl, -, hm⟩ a hs) | (refine stn hs rfl rfl ds_ ?_; clear hs hm a; rintro - w hm a hs) | (refine dvc hs hm gw_ rfl rfl rfl rfl rfl (pl 35 rfl) (hj _) ?_; clear hs hm a; intro w hm a hs)) | refine sc_ ?_)
      exact gRet1 hs rfl rfl ⟨rfl, hm.fr⟩
  · rw [h] at hj
    rw [if_pos rfl]
    refine enterR Tryz.func75 rfl rfl rfl fun a hs hm => ?_
    repeat (first | (refine ovR_ ?_; clear hs a; intro a hs) | ((with_reducible apply lCons); first | (refine dv hs gw_ rfl rfl da_ ?_; clear hs hm a; rintro _ w ⟨g, rfl, -, hm⟩ a hs) | (refine stn hs rfl rfl ds_ ?_; clear hs hm a; rintro - w hm a hs) | (refine dvc hs hm gw_ rfl rfl rfl rfl rfl (pl 35 rfl) (hj _) ?_; clear hs hm a; intro w hm a hs)) | refine sc_ ?_)
    exact gRet1 hs rfl rfl ⟨rfl, hm.fr⟩
def fdB (u : Bool) (v m : Int) : Bool := decide (v = 0 ∨ (u = true ∧ 0 < v ∧ v ≤ m))
theorem fld_c (u : Bool) (v m : Int) (wB : World) : Ret Tryz.prog 74 [.bool u, .int .i64 v, .int .i64 m] wB (fun r w' => r = .bool (fdB u v m) ∧ Pu wB w') := by
  by_cases h0 : v = 0
  · rw [show fdB u v m = true from decide_eq_true (.inl h0)]
    refine enterR Tryz.func74 rfl rfl rfl fun a hs hm => ?_
    repeat (first | (refine ovR_ ?_; clear hs a; intro a hs) | ((with_reducible apply lCons); first | (refine dv hs gw_ rfl rfl da_ ?_; clear hs hm a; rintro _ w ⟨g, rfl, -, hm⟩ a hs) | (refine stn hs rfl rfl ds_ ?_; clear hs hm a; rintro - w hm a hs)) | refine sc_ ?_)
    exact gRet1 hs rfl rfl ⟨rfl, hm.fr⟩
  cases u
  · rw [show fdB false v m = false from decide_eq_false (fun h => by rcases h with h | h; exact h0 h; cases h.1)]
    refine enterR Tryz.func74 rfl rfl rfl fun a hs hm => ?_
    repeat (first | (refine ovR_ ?_; clear hs a; intro a hs) | ((with_reducible apply lCons); first | (refine dv hs gw_ rfl rfl da_ ?_; clear hs hm a; rintro _ w ⟨g, rfl, -, hm⟩ a hs) | (refine stn hs rfl rfl ds_ ?_; clear hs hm a; rintro - w hm a hs)) | refine sc_ ?_)
    exact gRet1 hs rfl rfl ⟨rfl, hm.fr⟩
  by_cases h1 : 0 < v
  · by_cases h2 : v ≤ m
    · rw [show fdB true v m = true from decide_eq_true (.inr ⟨rfl, h1, h2⟩)]
      refine enterR Tryz.func74 rfl rfl rfl fun a hs hm => ?_
      repeat (first | (refine ovR_ ?_; clear hs a; intro a hs) | ((with_reducible apply lCons); first | (refine dv hs gw_ rfl rfl da_ ?_; clear hs hm a; rintro _ w ⟨g, rfl, -, hm⟩ a hs) | (refine stn hs rfl rfl ds_ ?_; clear hs hm a; rintro - w hm a hs)) | refine sc_ ?_)
      exact gRet1 hs rfl rfl ⟨rfl, hm.fr⟩
    · rw [show fdB true v m = false from decide_eq_false (by omega)]
      refine enterR Tryz.func74 rfl rfl rfl fun a hs hm => ?_
      repeat (first | (refine ovR_ ?_; clear hs a; intro a hs) | ((with_reducible apply lCons); first | (refine dv hs gw_ rfl rfl da_ ?_; clear hs hm a; rintro _ w ⟨g, rfl, -, hm⟩ a hs) | (refine stn hs rfl rfl ds_ ?_; clear hs hm a; rintro - w hm a hs)) | refine sc_ ?_)
      exact gRet1 hs rfl rfl ⟨rfl, hm.fr⟩
  · rw [show fdB true v m = false from decide_eq_false (by omega)]
    refine enterR Tryz.func74 rfl rfl rfl fun a hs hm => ?_
    repeat (first | (refine ovR_ ?_; clear hs a; intro a hs) | ((with_reducible apply lCons); first | (refine dv hs gw_ rfl rfl da_ ?_; clear hs hm a; rintro _ w ⟨g, rfl, -, hm⟩ a hs) | (refine stn hs rfl rfl ds_ ?_; clear hs hm a; rintro - w hm a hs)) | refine sc_ ?_)
    exact gRet1 hs rfl rfl ⟨rfl, hm.fr⟩
theorem fd_of {u : Bool} {v m : Int} (h : 0 ≤ v ∧ v < m + 1 ∧ (u = false → v = 0)) : v = 0 ∨ u = true ∧ 0 < v ∧ v ≤ m := by
  cases u
  · exact .inl (h.2.2 rfl)
  · by_cases e : v = 0
    · exact .inl e
    · exact .inr ⟨rfl, by omega, by omega⟩
/-- a valid instruction, whatever the program -/
def VlP (i : In) : Prop := InV i 4 ∧ (jumpB i.op = true → i.m < 64)
theorem jumpB_iff (op : Int) : jumpB op = true ↔ 18 ≤ op ∧ op ≤ 21 := by unfold jumpB; exact decide_eq_true_iff
theorem VlP.iff (i : In) : VlP i ↔ (0 ≤ i.op ∧ i.op ≤ 24) ∧ fdB (usesF i.op).1 i.a 7 = true ∧ fdB (usesF i.op).2.1 i.b 7 = true ∧ fdB (usesF i.op).2.2.1 i.c 7 = true ∧ fdB (usesF i.op).2.2.2 i.m (imB i.op) = true := by
  have hj := jumpB_iff i.op
  have hu := uses_imm (op := i.op)
  unfold fdB imB
  simp only [decide_eq_true_iff]
  obtain ⟨u, hu0⟩ : ∃ u, usesF i.op = u := ⟨_, rfl⟩
  obtain ⟨u1, u2, u3, u4⟩ := u
  constructor
  · rintro ⟨⟨h1, h2, h3, h4, h5, h6, h7⟩, h8⟩
    rw [hu0] at h2 h3 h4 h5 ⊢
    dsimp only at *
    refine ⟨h1, ?_, ?_, ?_, ?_⟩
    · exact fd_of h2
    · exact fd_of h3
    · exact fd_of h4
    · cases u4
      · exact .inl (h5.2.2 rfl)
      · by_cases e : i.m = 0
        · exact .inl e
        · refine .inr ⟨rfl, by omega, ?_⟩
          split
          · rename_i hb; have := h8 hb; omega
          · split
            · rename_i h; have := h6 h; omega
            · split
              · rename_i h; exact h7 h
              · exact h5.2.1
  · rintro ⟨h1, h2, h3, h4, h5⟩
    rw [hu0] at h2 h3 h4 h5
    rw [hu0] at hu
    dsimp only at h2 h3 h4 h5 hu
    have hm : i.m = 0 ∨ 0 < i.m ∧ i.m ≤ 65535 ∧ (jumpB i.op = true → i.m < 64) ∧ (i.op = 15 → i.m < 4) ∧ (i.op = 23 → i.m ≤ 15) := by
      rcases h5 with h5 | ⟨_, h5, h6⟩
      · exact .inl h5
      · right
        by_cases hb : jumpB i.op = true
        · rw [if_pos hb] at h6
          have := hj.1 hb
          exact ⟨h5, by omega, fun _ => by omega, fun e => by omega, fun e => by omega⟩
        · rw [if_neg hb] at h6
          by_cases h15 : i.op = 15
          · rw [if_pos h15] at h6
            exact ⟨h5, by omega, fun e => absurd e hb, fun e => by omega, fun e => by omega⟩
          · rw [if_neg h15] at h6
            by_cases h23 : i.op = 23
            · rw [if_pos h23] at h6
              exact ⟨h5, by omega, fun e => absurd e hb, fun e => by omega, fun e => by omega⟩
            · rw [if_neg h23] at h6
              exact ⟨h5, by omega, fun e => absurd e hb, fun e => absurd e h15, fun e => absurd e h23⟩
    have key : ∀ (u : Bool) (v m : Int), 0 ≤ m → (v = 0 ∨ u = true ∧ 0 < v ∧ v ≤ m) → 0 ≤ v ∧ v < m + 1 ∧ (u = false → v = 0) := fun u v m h0 h => by
      rcases h with h | ⟨h, h', h''⟩
      · exact ⟨by omega, by omega, fun _ => h⟩
      · exact ⟨by omega, by omega, fun e => by rw [e] at h; cases h⟩
    refine ⟨⟨h1, ?_, ?_, ?_, ?_, ?_, ?_⟩, ?_⟩
    · rw [hu0]; exact key u1 _ 7 (by omega) h2
    · rw [hu0]; exact key u2 _ 7 (by omega) h3
    · rw [hu0]; exact key u3 _ 7 (by omega) h4
    · rw [hu0]
      refine ⟨by omega, by omega, fun e => ?_⟩
      dsimp only at e
      rcases h5 with h5 | ⟨h5, _⟩
      · exact h5
      · rw [e] at h5; cases h5
    · intro e
      rcases hm with h | ⟨_, _, _, h, _⟩
      · omega
      · exact h e
    · intro e
      rcases hm with h | ⟨_, _, _, _, h⟩
      · omega
      · exact h e
    · intro e
      rcases hm with h | ⟨_, _, h, _⟩
      · omega
      · exact h e
set_option maxHeartbeats 8000000 in
theorem vali_c (i : In) (wB : World) : Ret Tryz.prog 55 [inA i] wB (fun r w' => ∃ b : Bool, r = .bool b ∧ (b = true ↔ VlP i) ∧ Pu wB w') := by
  have h1 := fun w => flds_c i.op w
  have h2 := fun w => fld_c (usesF i.op).1 i.a 7 w
  have h3 := fun w => fld_c (usesF i.op).2.1 i.b 7 w
  have h4 := fun w => fld_c (usesF i.op).2.2.1 i.c 7 w
  have h5 := fun w => fld_c (usesF i.op).2.2.2 i.m (imB i.op) w
  have h6 := fun w => most_c i.op w
  by_cases r1 : i.op < 0
  · refine enterR Tryz.func55 rfl rfl rfl fun a hs hm => ?_
    unfold inA at hs
    repeat (first | (refine ovR_ ?_; clear hs a; intro a hs) | ((with_reducible apply lCons); first | (refine dv hs gw_ rfl rfl da_ ?_; clear hs hm a; rintro _ w ⟨g, rfl, -, hm⟩ a hs) | (refine stn hs rfl rfl ds_ ?_; clear hs hm a; rintro - w hm a hs)) | refine sc_ ?_)
    exact gRet1 hs rfl rfl ⟨_, rfl, ⟨(fun e => by cases e), (fun e => by have := e.1.op; omega)⟩, hm.fr⟩
  by_cases r2 : 24 < i.op
  · refine enterR Tryz.func55 rfl rfl rfl fun a hs hm => ?_
    unfold inA at hs
    repeat (first | (refine ovR_ ?_; clear hs a; intro a hs) | ((with_reducible apply lCons); first | (refine dv hs gw_ rfl rfl da_ ?_; clear hs hm a; rintro _ w ⟨g, rfl, -, hm⟩ a hs) | (refine stn hs rfl rfl ds_ ?_; clear hs hm a; rintro - w hm a hs)) | refine sc_ ?_)
    exact gRet1 hs rfl rfl ⟨_, rfl, ⟨(fun e => by cases e), (fun e => by have := e.1.op; omega)⟩, hm.fr⟩
  have hv := VlP.iff i
  unfold u4V at h1
  generalize (usesF i.op).1 = u1 at *
  generalize (usesF i.op).2.1 = u2 at *
  generalize (usesF i.op).2.2.1 = u3 at *
  generalize (usesF i.op).2.2.2 = u4 at *
  generalize imB i.op = im at *
  generalize fdB u1 i.a 7 = b1 at *
  generalize fdB u2 i.b 7 = b2 at *
  generalize fdB u3 i.c 7 = b3 at *
  generalize fdB u4 i.m im = b4 at *
  cases b1
  · refine enterR Tryz.func55 rfl rfl rfl fun a hs hm => ?_
    unfold inA at hs
    repeat (first | (refine oqR_ ?_; clear hs a; intro a hs) | ((with_reducible apply lCons); first | (refine dv hs gw_ rfl rfl da_ ?_; clear hs hm a; rintro _ w ⟨g, rfl, -, hm⟩ a hs) | (refine stn hs rfl rfl ds_ ?_; clear hs hm a; rintro - w hm a hs) | (refine dvc hs hm gw_ rfl rfl rfl rfl rfl (pl 58 rfl) (h1 _) ?_; clear hs hm a; intro w hm a hs) | (refine dv hs gw_ rfl rfl (d_callC hs rfl rfl rfl (pl 74 rfl) (h2 _)) ?_; clear hs a; rintro _ w ⟨rfl, hf⟩ a hs; replace hm := hm.pu hf; clear hf)) | ((with_reducible apply qCons); first | (refine qwc hs gw_ rfl rfl rfl rfl rfl (pl 58 rfl) (fun w hm => h1 _) ?_; clear hs a; intro a hs) | (refine qwcall hs gw_ rfl rfl rfl rfl rfl (pl 74 rfl) (by intro w hm; exact Ret.mono (h2 _) (fun _ _ ⟨h1, h2⟩ => ⟨h1, hm.pu h2⟩)) ?_; clear hs a; intro a hs)) | ((with_reducible apply qNil); clear hm; intro w hm) | refine cQ_ ?_ | refine sc_ ?_)
    exact gRet1 hs rfl rfl ⟨_, rfl, ⟨(fun e => by cases e), (fun e => absurd (hv.1 e).2.1 (by decide))⟩, hm.fr⟩
  cases b2
  · refine enterR Tryz.func55 rfl rfl rfl fun a hs hm => ?_
    unfold inA at hs
    repeat (first | (refine oqR_ ?_; clear hs a; intro a hs) | ((with_reducible apply lCons); first | (refine dv hs gw_ rfl rfl da_ ?_; clear hs hm a; rintro _ w ⟨g, rfl, -, hm⟩ a hs) | (refine stn hs rfl rfl ds_ ?_; clear hs hm a; rintro - w hm a hs) | (refine dvc hs hm gw_ rfl rfl rfl rfl rfl (pl 58 rfl) (h1 _) ?_; clear hs hm a; intro w hm a hs) | (refine dv hs gw_ rfl rfl (d_callC hs rfl rfl rfl (pl 74 rfl) (h2 _)) ?_; clear hs a; rintro _ w ⟨rfl, hf⟩ a hs; replace hm := hm.pu hf; clear hf) | (refine dv hs gw_ rfl rfl (d_callC hs rfl rfl rfl (pl 74 rfl) (h3 _)) ?_; clear hs a; rintro _ w ⟨rfl, hf⟩ a hs; replace hm := hm.pu hf; clear hf)) | ((with_reducible apply qCons); first | (refine qwc hs gw_ rfl rfl rfl rfl rfl (pl 58 rfl) (fun w hm => h1 _) ?_; clear hs a; intro a hs) | (refine qwcall hs gw_ rfl rfl rfl rfl rfl (pl 74 rfl) (by intro w hm; exact Ret.mono (h2 _) (fun _ _ ⟨h1, h2⟩ => ⟨h1, hm.pu h2⟩)) ?_; clear hs a; intro a hs) | (refine qwcall hs gw_ rfl rfl rfl rfl rfl (pl 74 rfl) (by intro w hm; exact Ret.mono (h3 _) (fun _ _ ⟨h1, h2⟩ => ⟨h1, hm.pu h2⟩)) ?_; clear hs a; intro a hs)) | ((with_reducible apply qNil); clear hm; intro w hm) | refine cQ_ ?_ | refine sc_ ?_)
    exact gRet1 hs rfl rfl ⟨_, rfl, ⟨(fun e => by cases e), (fun e => absurd (hv.1 e).2.2.1 (by decide))⟩, hm.fr⟩
  cases b3
  · refine enterR Tryz.func55 rfl rfl rfl fun a hs hm => ?_
    unfold inA at hs
    repeat (first | (refine oqR_ ?_; clear hs a; intro a hs) | ((with_reducible apply lCons); first | (refine dv hs gw_ rfl rfl da_ ?_; clear hs hm a; rintro _ w ⟨g, rfl, -, hm⟩ a hs) | (refine stn hs rfl rfl ds_ ?_; clear hs hm a; rintro - w hm a hs) | (refine dvc hs hm gw_ rfl rfl rfl rfl rfl (pl 58 rfl) (h1 _) ?_; clear hs hm a; intro w hm a hs) | (refine dv hs gw_ rfl rfl (d_callC hs rfl rfl rfl (pl 74 rfl) (h2 _)) ?_; clear hs a; rintro _ w ⟨rfl, hf⟩ a hs; replace hm := hm.pu hf; clear hf) | (refine dv hs gw_ rfl rfl (d_callC hs rfl rfl rfl (pl 74 rfl) (h3 _)) ?_; clear hs a; rintro _ w ⟨rfl, hf⟩ a hs; replace hm := hm.pu hf; clear hf) | (refine dv hs gw_ rfl rfl (d_callC hs rfl rfl rfl (pl 74 rfl) (h4 _)) ?_; clear hs a; rintro _ w ⟨rfl, hf⟩ a hs; replace hm := hm.pu hf; clear hf)) | ((with_reducible apply qCons); first | (refine qwc hs gw_ rfl rfl rfl rfl rfl (pl 58 rfl) (fun w hm => h1 _) ?_; clear hs a; intro a hs) | (refine qwcall hs gw_ rfl rfl rfl rfl rfl (pl 74 rfl) (by intro w hm; exact Ret.mono (h2 _) (fun _ _ ⟨h1, h2⟩ => ⟨h1, hm.pu h2⟩)) ?_; clear hs a; intro a hs) | (refine qwcall hs gw_ rfl rfl rfl rfl rfl (pl 74 rfl) (by intro w hm; exact Ret.mono (h3 _) (fun _ _ ⟨h1, h2⟩ => ⟨h1, hm.pu h2⟩)) ?_; clear hs a; intro a hs) | (refine qwcall hs gw_ rfl rfl rfl rfl rfl (pl 74 rfl) (by intro w hm; exact Ret.mono (h4 _) (fun _ _ ⟨h1, h2⟩ => ⟨h1, hm.pu h2⟩)) ?_; clear hs a; intro a hs)) | ((with_reducible apply qNil); clear hm; intro w hm) | refine cQ_ ?_ | refine sc_ ?_)
    exact gRet1 hs rfl rfl ⟨_, rfl, ⟨(fun e => by cases e), (fun e => absurd (hv.1 e).2.2.2.1 (by decide))⟩, hm.fr⟩
  cases b4
  · refine enterR Tryz.func55 rfl rfl rfl fun a hs hm => ?_
    unfold inA at hs
    repeat (first | (refine oqR_ ?_; clear hs a; intro a hs) | ((with_reducible apply lCons); first | (refine dv hs gw_ rfl rfl da_ ?_; clear hs hm a; rintro _ w ⟨g, rfl, -, hm⟩ a hs) | (refine stn hs rfl rfl ds_ ?_; clear hs hm a; rintro - w hm a hs) | (refine dvc hs hm gw_ rfl rfl rfl rfl rfl (pl 58 rfl) (h1 _) ?_; clear hs hm a; intro w hm a hs) | (refine dv hs gw_ rfl rfl (d_callC hs rfl rfl rfl (pl 74 rfl) (h2 _)) ?_; clear hs a; rintro _ w ⟨rfl, hf⟩ a hs; replace hm := hm.pu hf; clear hf) | (refine dv hs gw_ rfl rfl (d_callC hs rfl rfl rfl (pl 74 rfl) (h3 _)) ?_; clear hs a; rintro _ w ⟨rfl, hf⟩ a hs; replace hm := hm.pu hf; clear hf) | (refine dv hs gw_ rfl rfl (d_callC hs rfl rfl rfl (pl 74 rfl) (h4 _)) ?_; clear hs a; rintro _ w ⟨rfl, hf⟩ a hs; replace hm := hm.pu hf; clear hf) | (refine dv hs gw_ rfl rfl (d_callC hs rfl rfl rfl (pl 74 rfl) (h5 _)) ?_; clear hs a; rintro _ w ⟨rfl, hf⟩ a hs; replace hm := hm.pu hf; clear hf) | (refine dvc hs hm gw_ rfl rfl rfl rfl rfl (pl 75 rfl) (h6 _) ?_; clear hs hm a; intro w hm a hs)) | ((with_reducible apply qCons); first | (refine qwc hs gw_ rfl rfl rfl rfl rfl (pl 58 rfl) (fun w hm => h1 _) ?_; clear hs a; intro a hs) | (refine qwcall hs gw_ rfl rfl rfl rfl rfl (pl 74 rfl) (by intro w hm; exact Ret.mono (h2 _) (fun _ _ ⟨h1, h2⟩ => ⟨h1, hm.pu h2⟩)) ?_; clear hs a; intro a hs) | (refine qwcall hs gw_ rfl rfl rfl rfl rfl (pl 74 rfl) (by intro w hm; exact Ret.mono (h3 _) (fun _ _ ⟨h1, h2⟩ => ⟨h1, hm.pu h2⟩)) ?_; clear hs a; intro a hs) | (refine qwcall hs gw_ rfl rfl rfl rfl rfl (pl 74 rfl) (by intro w hm; exact Ret.mono (h4 _) (fun _ _ ⟨h1, h2⟩ => ⟨h1, hm.pu h2⟩)) ?_; clear hs a; intro a hs) | (refine qwcall hs gw_ rfl rfl rfl rfl rfl (pl 74 rfl) (by intro w hm; exact Ret.mono (h5 _) (fun _ _ ⟨h1, h2⟩ => ⟨h1, hm.pu h2⟩)) ?_; clear hs a; intro a hs) | (refine qwc hs gw_ rfl rfl rfl rfl rfl (pl 75 rfl) (fun w hm => h6 _) ?_; clear hs a; intro a hs)) | ((with_reducible apply qNil); clear hm; intro w hm) | refine cQ_ ?_ | refine sc_ ?_)
    exact gRet1 hs rfl rfl ⟨_, rfl, ⟨(fun e => by cases e), (fun e => absurd (hv.1 e).2.2.2.2 (by decide))⟩, hm.fr⟩
  · refine enterR Tryz.func55 rfl rfl rfl fun a hs hm => ?_
    unfold inA at hs
    repeat (first | (refine oqR_ ?_; clear hs a; intro a hs) | ((with_reducible apply lCons); first | (refine dv hs gw_ rfl rfl da_ ?_; clear hs hm a; rintro _ w ⟨g, rfl, -, hm⟩ a hs) | (refine stn hs rfl rfl ds_ ?_; clear hs hm a; rintro - w hm a hs) | (refine dvc hs hm gw_ rfl rfl rfl rfl rfl (pl 58 rfl) (h1 _) ?_; clear hs hm a; intro w hm a hs) | (refine dv hs gw_ rfl rfl (d_callC hs rfl rfl rfl (pl 74 rfl) (h2 _)) ?_; clear hs a; rintro _ w ⟨rfl, hf⟩ a hs; replace hm := hm.pu hf; clear hf) | (refine dv hs gw_ rfl rfl (d_callC hs rfl rfl rfl (pl 74 rfl) (h3 _)) ?_; clear hs a; rintro _ w ⟨rfl, hf⟩ a hs; replace hm := hm.pu hf; clear hf) | (refine dv hs gw_ rfl rfl (d_callC hs rfl rfl rfl (pl 74 rfl) (h4 _)) ?_; clear hs a; rintro _ w ⟨rfl, hf⟩ a hs; replace hm := hm.pu hf; clear hf) | (refine dv hs gw_ rfl rfl (d_callC hs rfl rfl rfl (pl 74 rfl) (h5 _)) ?_; clear hs a; rintro _ w ⟨rfl, hf⟩ a hs; replace hm := hm.pu hf; clear hf) | (refine dvc hs hm gw_ rfl rfl rfl rfl rfl (pl 75 rfl) (h6 _) ?_; clear hs hm a; intro w hm a hs)) | ((with_reducible apply qCons); first | (refine qwc hs gw_ rfl rfl rfl rfl rfl (pl 58 rfl) (fun w hm => h1 _) ?_; clear hs a; intro a hs) | (refine qwcall hs gw_ rfl rfl rfl rfl rfl (pl 74 rfl) (by intro w hm; exact Ret.mono (h2 _) (fun _ _ ⟨h1, h2⟩ => ⟨h1, hm.pu h2⟩)) ?_; clear hs a; intro a hs) | (refine qwcall hs gw_ rfl rfl rfl rfl rfl (pl 74 rfl) (by intro w hm; exact Ret.mono (h3 _) (fun _ _ ⟨h1, h2⟩ => ⟨h1, hm.pu h2⟩)) ?_; clear hs a; intro a hs) | (refine qwcall hs gw_ rfl rfl rfl rfl rfl (pl 74 rfl) (by intro w hm; exact Ret.mono (h4 _) (fun _ _ ⟨h1, h2⟩ => ⟨h1, hm.pu h2⟩)) ?_; clear hs a; intro a hs) | (refine qwcall hs gw_ rfl rfl rfl rfl rfl (pl 74 rfl) (by intro w hm; exact Ret.mono (h5 _) (fun _ _ ⟨h1, h2⟩ => ⟨h1, hm.pu h2⟩)) ?_; clear hs a; intro a hs) | (refine qwc hs gw_ rfl rfl rfl rfl rfl (pl 75 rfl) (fun w hm => h6 _) ?_; clear hs a; intro a hs)) | ((with_reducible apply qNil); clear hm; intro w hm) | refine cQ_ ?_ | refine sc_ ?_)
    exact gRet1 hs rfl rfl ⟨_, rfl, ⟨(fun _ => hv.2 ⟨⟨by omega, by omega⟩, rfl, rfl, rfl, rfl⟩), (fun _ => rfl)⟩, hm.fr⟩
/-- sizes of regions -/
theorem SzOk.iff (ss : List Int) : SzOk ss ↔ (1 ≤ ss.length ∧ ss.length ≤ 4) ∧ ∀ k (h : k < ss.length), 1 ≤ ss[k] ∧ ss[k] ≤ 32 := by
  constructor
  · rintro ⟨h1, h2, h3⟩
    exact ⟨⟨h1, h2⟩, fun k h => h3 _ (List.getElem_mem h)⟩
  · rintro ⟨⟨h1, h2⟩, h3⟩
    exact ⟨h1, h2, fun y hy => by obtain ⟨k, hk, e⟩ := List.getElem_of_mem hy; rw [← e]; exact h3 k hk⟩
set_option maxHeartbeats 4000000 in
theorem vsz_c (A : Option Addr) (n c : Nat) (ss : List Int) (wB : World) (hl : ss.length = n) (hr : Rd wB wB.heap.size A (ints ss)) (hn : n ≤ 1000000) :
    Ret Tryz.prog 54 [.slice A n c] wB (fun v w' => ∃ b : Bool, v = .bool b ∧ (b = true ↔ SzOk ss) ∧ Pu wB w') := by
  refine enterR Tryz.func54 rfl rfl rfl fun a hs hm => ?_
  repeat (first | (refine ovR_ ?_; clear hs a; intro a hs) | ((with_reducible apply lCons); first | (refine dv hs gw_ rfl rfl da_ ?_; clear hs hm a; rintro _ w ⟨g, rfl, -, hm⟩ a hs) | (refine stn hs rfl rfl ds_ ?_; clear hs hm a; rintro - w hm a hs)) | refine sc_ ?_)
  refine cLoop (X := Nat) (fun k a w' => Sl Tryz.f54.ntmps [(0, .slice A n c), (5, .slice A n c), (6, .int .i64 (n : Int)), (7, .int .i64 (k : Int))] a ∧ Mm (fun _ => False) wB [] w' ∧ k ≤ n ∧ ∀ j (h : j < ss.length), j < k → 1 ≤ ss[j] ∧ ss[j] ≤ 32) (fun k => n - k) 0 ⟨hs.sub (Has.all ⟨rfl, rfl, rfl, rfl, trivial⟩), hm, Nat.zero_le _, fun j _ h => absurd h (Nat.not_lt_zero _)⟩ ?_
  clear hs hm a
  rintro k a w' ⟨hs, hm, hk, hg⟩
  by_cases hlt : k < n
  · obtain ⟨b1, o1', rfl, hb1, r1⟩ := hr.ro (by rw [ints_len]; omega)
    have e1 := ints_some (xs := ss) (k := k) (by omega)
    obtain ⟨sk, hsk⟩ : ∃ z, ss[k]'(by omega) = z := ⟨_, rfl⟩
    rw [hsk] at e1
    by_cases q1 : sk < 1
    · repeat (first | (refine oqR_ ?_; clear hs a; intro a hs) | ((with_reducible apply lCons); first | (refine dv hs gw_ rfl rfl da_ ?_; clear hs hm a; rintro _ w ⟨g, rfl, -, hm⟩ a hs) | (refine stn hs rfl rfl ds_ ?_; clear hs hm a; rintro - w hm a hs)) | ((with_reducible apply qNil); clear hm; intro w hm) | refine cQ_ ?_ | refine sc_ ?_)
      exact gRet1 hs rfl rfl ⟨_, rfl, ⟨(fun e => by cases e), (fun e => by have := e.bd ss[k] (List.getElem_mem _); omega)⟩, hm.fr⟩
    by_cases q2 : 32 < sk
    · repeat (first | (refine oqR_ ?_; clear hs a; intro a hs) | ((with_reducible apply lCons); first | (refine dv hs gw_ rfl rfl da_ ?_; clear hs hm a; rintro _ w ⟨g, rfl, -, hm⟩ a hs) | (refine stn hs rfl rfl ds_ ?_; clear hs hm a; rintro - w hm a hs)) | ((with_reducible apply qNil); clear hm; intro w hm) | refine cQ_ ?_ | refine sc_ ?_)
      exact gRet1 hs rfl rfl ⟨_, rfl, ⟨(fun e => by cases e), (fun e => by have := e.bd ss[k] (List.getElem_mem _); omega)⟩, hm.fr⟩
    · repeat (first | (refine oqR_ ?_; clear hs a; intro a hs) | ((with_reducible apply lCons); first | (refine dv hs gw_ rfl rfl da_ ?_; clear hs hm a; rintro _ w ⟨g, rfl, -, hm⟩ a hs) | (refine stn hs rfl rfl ds_ ?_; clear hs hm a; rintro - w hm a hs)) | ((with_reducible apply qNil); clear hm; intro w hm) | refine cQ_ ?_ | refine sc_ ?_)
      refine ⟨k + 1, by omega, hs.sub (Has.all ⟨rfl, rfl, rfl, rfl, trivial⟩), hm, by omega, fun j h hj => ?_⟩
      by_cases e : j = k
      · subst e; omega
      · exact hg j h (by omega)
  · by_cases q1 : 1 ≤ n
    · by_cases q2 : n ≤ 4
      · repeat (first | (refine oqR_ ?_; clear hs a; intro a hs) | ((with_reducible apply lCons); first | (refine dv hs gw_ rfl rfl da_ ?_; clear hs hm a; rintro _ w ⟨g, rfl, -, hm⟩ a hs) | (refine stn hs rfl rfl ds_ ?_; clear hs hm a; rintro - w hm a hs)) | ((with_reducible apply qNil); clear hm; intro w hm) | refine cQ_ ?_ | refine sc_ ?_)
        exact gRet1 hs rfl rfl ⟨_, rfl, ⟨(fun _ => (SzOk.iff ss).2 ⟨⟨by omega, by omega⟩, fun j h => hg j h (by omega)⟩), (fun _ => rfl)⟩, hm.fr⟩
      · repeat (first | (refine oqR_ ?_; clear hs a; intro a hs) | ((with_reducible apply lCons); first | (refine dv hs gw_ rfl rfl da_ ?_; clear hs hm a; rintro _ w ⟨g, rfl, -, hm⟩ a hs) | (refine stn hs rfl rfl ds_ ?_; clear hs hm a; rintro - w hm a hs)) | ((with_reducible apply qNil); clear hm; intro w hm) | refine cQ_ ?_ | refine sc_ ?_)
        exact gRet1 hs rfl rfl ⟨_, rfl, ⟨(fun e => by cases e), (fun e => by have := e.four; omega)⟩, hm.fr⟩
    · repeat (first | (refine oqR_ ?_; clear hs a; intro a hs) | ((with_reducible apply lCons); first | (refine dv hs gw_ rfl rfl da_ ?_; clear hs hm a; rintro _ w ⟨g, rfl, -, hm⟩ a hs) | (refine stn hs rfl rfl ds_ ?_; clear hs hm a; rintro - w hm a hs)) | ((with_reducible apply qNil); clear hm; intro w hm) | refine cQ_ ?_ | refine sc_ ?_)
      exact gRet1 hs rfl rfl ⟨_, rfl, ⟨(fun e => by cases e), (fun e => by have := e.one; omega)⟩, hm.fr⟩
set_option maxHeartbeats 4000000 in
theorem rvsz_c (A : Option Addr) (n c : Nat) (ss : List Int) (wB : World) (hl : ss.length = n) (hr : Rd wB wB.heap.size A (ints ss)) (hn : n ≤ 1000000) :
    Ret Tryz.prog 59 [.slice A n c] wB (fun v w' => ∃ b : Bool, v = .bool b ∧ (b = true ↔ SzOk ss) ∧ Pu wB w') := by
  refine enterR Tryz.func59 rfl rfl rfl fun a hs hm => ?_
  repeat (first | (refine ovR_ ?_; clear hs a; intro a hs) | ((with_reducible apply lCons); first | (refine dv hs gw_ rfl rfl da_ ?_; clear hs hm a; rintro _ w ⟨g, rfl, -, hm⟩ a hs) | (refine stn hs rfl rfl ds_ ?_; clear hs hm a; rintro - w hm a hs)) | refine sc_ ?_)
  refine cLoop (X := Nat) (fun k a w' => Sl Tryz.f59.ntmps [(0, .slice A n c), (5, .slice A n c), (6, .int .i64 (n : Int)), (7, .int .i64 (k : Int))] a ∧ Mm (fun _ => False) wB [] w' ∧ k ≤ n ∧ ∀ j (h : j < ss.length), j < k → 1 ≤ ss[j] ∧ ss[j] ≤ 32) (fun k => n - k) 0 ⟨hs.sub (Has.all ⟨rfl, rfl, rfl, rfl, trivial⟩), hm, Nat.zero_le _, fun j _ h => absurd h (Nat.not_lt_zero _)⟩ ?_
  clear hs hm a
  rintro k a w' ⟨hs, hm, hk, hg⟩
  by_cases hlt : k < n
  · obtain ⟨b1, o1', rfl, hb1, r1⟩ := hr.ro (by rw [ints_len]; omega)
    have e1 := ints_some (xs := ss) (k := k) (by omega)
    obtain ⟨sk, hsk⟩ : ∃ z, ss[k]'(by omega) = z := ⟨_, rfl⟩
    rw [hsk] at e1
    by_cases q1 : sk < 1
    · repeat (first | (refine oqR_ ?_; clear hs a; intro a hs) | ((with_reducible apply lCons); first | (refine dv hs gw_ rfl rfl da_ ?_; clear hs hm a; rintro _ w ⟨g, rfl, -, hm⟩ a hs) | (refine stn hs rfl rfl ds_ ?_; clear hs hm a; rintro - w hm a hs)) | ((with_reducible apply qNil); clear hm; intro w hm) | refine cQ_ ?_ | refine sc_ ?_)
      exact gRet1 hs rfl rfl ⟨_, rfl, ⟨(fun e => by cases e), (fun e => by have := e.bd ss[k] (List.getElem_mem _); omega)⟩, hm.fr⟩
    by_cases q2 : 32 < sk
    · repeat (first | (refine oqR_ ?_; clear hs a; intro a hs) | ((with_reducible apply lCons); first | (refine dv hs gw_ rfl rfl da_ ?_; clear hs hm a; rintro _ w ⟨g, rfl, -, hm⟩ a hs) | (refine stn hs rfl rfl ds_ ?_; clear hs hm a; rintro - w hm a hs)) | ((with_reducible apply qNil); clear hm; intro w hm) | refine cQ_ ?_ | refine sc_ ?_)
      exact gRet1 hs rfl rfl ⟨_, rfl, ⟨(fun e => by cases e), (fun e => by have := e.bd ss[k] (List.getElem_mem _); omega)⟩, hm.fr⟩
    · repeat (first | (refine oqR_ ?_; clear hs a; intro a hs) | ((with_reducible apply lCons); first | (refine dv hs gw_ rfl rfl da_ ?_; clear hs hm a; rintro _ w ⟨g, rfl, -, hm⟩ a hs) | (refine stn hs rfl rfl ds_ ?_; clear hs hm a; rintro - w hm a hs)) | ((with_reducible apply qNil); clear hm; intro w hm) | refine cQ_ ?_ | refine sc_ ?_)
      refine ⟨k + 1, by omega, hs.sub (Has.all ⟨rfl, rfl, rfl, rfl, trivial⟩), hm, by omega, fun j h hj => ?_⟩
      by_cases e : j = k
      · subst e; omega
      · exact hg j h (by omega)
  · by_cases q1 : 1 ≤ n
    · by_cases q2 : n ≤ 4
      · repeat (first | (refine oqR_ ?_; clear hs a; intro a hs) | ((with_reducible apply lCons); first | (refine dv hs gw_ rfl rfl da_ ?_; clear hs hm a; rintro _ w ⟨g, rfl, -, hm⟩ a hs) | (refine stn hs rfl rfl ds_ ?_; clear hs hm a; rintro - w hm a hs)) | ((with_reducible apply qNil); clear hm; intro w hm) | refine cQ_ ?_ | refine sc_ ?_)
        exact gRet1 hs rfl rfl ⟨_, rfl, ⟨(fun _ => (SzOk.iff ss).2 ⟨⟨by omega, by omega⟩, fun j h => hg j h (by omega)⟩), (fun _ => rfl)⟩, hm.fr⟩
      · repeat (first | (refine oqR_ ?_; clear hs a; intro a hs) | ((with_reducible apply lCons); first | (refine dv hs gw_ rfl rfl da_ ?_; clear hs hm a; rintro _ w ⟨g, rfl, -, hm⟩ a hs) | (refine stn hs rfl rfl ds_ ?_; clear hs hm a; rintro - w hm a hs)) | ((with_reducible apply qNil); clear hm; intro w hm) | refine cQ_ ?_ | refine sc_ ?_)
        exact gRet1 hs rfl rfl ⟨_, rfl, ⟨(fun e => by cases e), (fun e => by have := e.four; omega)⟩, hm.fr⟩
    · repeat (first | (refine oqR_ ?_; clear hs a; intro a hs) | ((with_reducible apply lCons); first | (refine dv hs gw_ rfl rfl da_ ?_; clear hs hm a; rintro _ w ⟨g, rfl, -, hm⟩ a hs) | (refine stn hs rfl rfl ds_ ?_; clear hs hm a; rintro - w hm a hs)) | ((with_reducible apply qNil); clear hm; intro w hm) | refine cQ_ ?_ | refine sc_ ?_)
      exact gRet1 hs rfl rfl ⟨_, rfl, ⟨(fun e => by cases e), (fun e => by have := e.one; omega)⟩, hm.fr⟩
end Go.Proofs.YtajkekhnfobgiaaGreatDoor

/- The reference's valid instructions. -/
namespace Go.Proofs.YtajkekhnfobgiaaGreatDoor
set_option maxRecDepth 20000
open Go.RowKit

def cdP (u : Bool) (v : Int) : Prop := 0 ≤ v ∧ v < 8 ∧ (u = false → v = 0)
theorem VlP.of {i : In} {u1 u2 u3 u4 : Bool} (hu : usesF i.op = (u1, u2, u3, u4)) : VlP i ↔ (0 ≤ i.op ∧ i.op ≤ 24) ∧ cdP u1 i.a ∧ cdP u2 i.b ∧ cdP u3 i.c ∧ (0 ≤ i.m ∧ i.m ≤ 65535 ∧ (u4 = false → i.m = 0)) ∧ (jumpB i.op = true → i.m < 64) ∧ (i.op = 15 → i.m < 4) ∧ (i.op = 23 → i.m ≤ 15) := by
  constructor
  · rintro ⟨⟨h1, h2, h3, h4, h5, h6, h7⟩, h8⟩
    rw [hu] at h2 h3 h4 h5
    exact ⟨h1, h2, h3, h4, h5, h8, h6, h7⟩
  · rintro ⟨h1, h2, h3, h4, h5, h8, h6, h7⟩
    exact ⟨⟨h1, by rw [hu]; exact h2, by rw [hu]; exact h3, by rw [hu]; exact h4, by rw [hu]; exact h5, h6, h7⟩, h8⟩
set_option maxHeartbeats 32000000 in
theorem rvali_c (i : In) (wB : World) : Ret Tryz.prog 60 [inA i] wB (fun r w' => ∃ b : Bool, r = .bool b ∧ (b = true ↔ VlP i) ∧ Pu wB w') := by
  have h1 := fun w => uses_c i.op w
  have h6 := fun w => jump_c i.op w
  by_cases r1 : i.op < 0
  · refine enterR Tryz.func60 rfl rfl rfl fun a hs hm => ?_
    unfold inA at hs
    repeat (first | (refine ov_ ?_; clear hs a; intro a hs) | ((with_reducible apply lCons); first | (refine dv hs gw_ rfl rfl da_ ?_; clear hs hm a; rintro _ w ⟨g, rfl, -, hm⟩ a hs) | (refine stn hs rfl rfl ds_ ?_; clear hs hm a; rintro - w hm a hs)) | refine sc_ ?_)
    exact gRet1 hs rfl rfl ⟨_, rfl, ⟨(fun e => by cases e), (fun e => by have := e.1.op; omega)⟩, hm.fr⟩
  by_cases r2 : 24 < i.op
  · refine enterR Tryz.func60 rfl rfl rfl fun a hs hm => ?_
    unfold inA at hs
    repeat (first | (refine ov_ ?_; clear hs a; intro a hs) | ((with_reducible apply lCons); first | (refine dv hs gw_ rfl rfl da_ ?_; clear hs hm a; rintro _ w ⟨g, rfl, -, hm⟩ a hs) | (refine stn hs rfl rfl ds_ ?_; clear hs hm a; rintro - w hm a hs)) | refine sc_ ?_)
    exact gRet1 hs rfl rfl ⟨_, rfl, ⟨(fun e => by cases e), (fun e => by have := e.1.op; omega)⟩, hm.fr⟩
  obtain ⟨⟨u1, u2, u3, u4⟩, hu⟩ : ∃ u, usesF i.op = u := ⟨_, rfl⟩
  have hv := VlP.of hu
  rw [hu] at h1
  unfold u4V at h1
  dsimp only at h1
  obtain ⟨jb, hjb⟩ : ∃ b, jumpB i.op = b := ⟨_, rfl⟩
  rw [hjb] at h6 hv
  have hji := jumpB_iff i.op
  rw [hjb] at hji
  refine enterR Tryz.func60 rfl rfl rfl fun a hs hm => ?_
  unfold inA at hs
  repeat (first | (refine ov_ ?_; clear hs a; intro a hs) | ((with_reducible apply lCons); first | (refine dv hs gw_ rfl rfl da_ ?_; clear hs hm a; rintro _ w ⟨g, rfl, -, hm⟩ a hs) | (refine stn hs rfl rfl ds_ ?_; clear hs hm a; rintro - w hm a hs) | (refine dvc hs hm gw_ rfl rfl rfl rfl rfl (pl 40 rfl) (h1 _) ?_; clear hs hm a; intro w hm a hs)) | refine sc_ ?_)
  obtain ⟨g1, en_⟩ := hs.pt 1 (by exact rfl); subst en_
  obtain ⟨g3, en_⟩ := hs.pt 3 (by exact rfl); subst en_
  obtain ⟨g23, en_⟩ := hs.ps 23 (by exact rfl); subst en_
  have hb : Mm (fun _ => False) wB [⟨some g23, 3, [.int .i64 i.a, .int .i64 i.b, .int .i64 i.c]⟩, ⟨some g3, 78, [.bool u1, .bool u2, .bool u3, .bool u4]⟩, ⟨some g1, 54, inV i⟩] _ := hm
  clear hm
  have hm := hb
  clear hb
  refine cLoop (X := Nat) (fun k a w' => Sl Tryz.f60.ntmps [(1, .pointer (some ⟨g1, 0, none⟩)), (3, .pointer (some ⟨g3, 0, none⟩)), (23, .slice (some ⟨g23, 0, none⟩) 3 3), (24, .int .i64 3), (25, .int .i64 (k : Int))] a ∧ Mm (fun _ => False) wB [⟨some g23, 3, [.int .i64 i.a, .int .i64 i.b, .int .i64 i.c]⟩, ⟨some g3, 78, [.bool u1, .bool u2, .bool u3, .bool u4]⟩, ⟨some g1, 54, inV i⟩] w' ∧ k ≤ 3 ∧ (1 ≤ k → cdP u1 i.a) ∧ (2 ≤ k → cdP u2 i.b) ∧ (3 ≤ k → cdP u3 i.c)) (fun k => 3 - k) 0 ⟨hs.sub (Has.all ⟨rfl, rfl, rfl, rfl, rfl, trivial⟩), hm, Nat.zero_le _, fun h => absurd h (by omega), fun h => absurd h (by omega), fun h => absurd h (by omega)⟩ ?_
  clear hs hm a
  rintro k a w' ⟨hs, hm, hk, c1, c2, c3⟩
  unfold inV at hm
  rcases (by omega : k = 0 ∨ k = 1 ∨ k = 2 ∨ k = 3) with rfl | rfl | rfl | rfl
  · by_cases q1 : i.a < 0
    · repeat (first | (refine oq_ ?_; clear hs a; intro a hs) | ((with_reducible apply lCons); first | (refine dv hs gw_ rfl rfl da_ ?_; clear hs hm a; rintro _ w ⟨g, rfl, -, hm⟩ a hs) | (refine stn hs rfl rfl ds_ ?_; clear hs hm a; rintro - w hm a hs)) | ((with_reducible apply qNil); clear hm; intro w hm) | refine cQ_ ?_ | refine sc_ ?_)
      exact gRet1 hs rfl rfl ⟨_, rfl, ⟨(fun e => by cases e), (fun e => by have := (hv.1 e).2.1; unfold cdP at this; omega)⟩, hm.fr⟩
    by_cases q2 : 8 ≤ i.a
    · repeat (first | (refine oq_ ?_; clear hs a; intro a hs) | ((with_reducible apply lCons); first | (refine dv hs gw_ rfl rfl da_ ?_; clear hs hm a; rintro _ w ⟨g, rfl, -, hm⟩ a hs) | (refine stn hs rfl rfl ds_ ?_; clear hs hm a; rintro - w hm a hs)) | ((with_reducible apply qNil); clear hm; intro w hm) | refine cQ_ ?_ | refine sc_ ?_)
      exact gRet1 hs rfl rfl ⟨_, rfl, ⟨(fun e => by cases e), (fun e => by have := (hv.1 e).2.1; unfold cdP at this; omega)⟩, hm.fr⟩
    cases u1
    · by_cases q3 : i.a = 0
      · repeat (first | (refine oq_ ?_; clear hs a; intro a hs) | ((with_reducible apply lCons); first | (refine dv hs gw_ rfl rfl da_ ?_; clear hs hm a; rintro _ w ⟨g, rfl, -, hm⟩ a hs) | (refine stn hs rfl rfl ds_ ?_; clear hs hm a; rintro - w hm a hs)) | ((with_reducible apply qNil); clear hm; intro w hm) | refine cQ_ ?_ | refine sc_ ?_)
        exact ⟨1, by omega, hs.sub (Has.all ⟨rfl, rfl, rfl, rfl, rfl, trivial⟩), hm, by omega, (fun _ => ⟨by omega, by omega, fun _ => q3⟩), (fun h => absurd h (by omega)), (fun h => absurd h (by omega))⟩
      · repeat (first | (refine oq_ ?_; clear hs a; intro a hs) | ((with_reducible apply lCons); first | (refine dv hs gw_ rfl rfl da_ ?_; clear hs hm a; rintro _ w ⟨g, rfl, -, hm⟩ a hs) | (refine stn hs rfl rfl ds_ ?_; clear hs hm a; rintro - w hm a hs)) | ((with_reducible apply qNil); clear hm; intro w hm) | refine cQ_ ?_ | refine sc_ ?_)
        exact gRet1 hs rfl rfl ⟨_, rfl, ⟨(fun e => by cases e), (fun e => by have := ((hv.1 e).2.1).2.2 rfl; omega)⟩, hm.fr⟩
    · repeat (first | (refine oq_ ?_; clear hs a; intro a hs) | ((with_reducible apply lCons); first | (refine dv hs gw_ rfl rfl da_ ?_; clear hs hm a; rintro _ w ⟨g, rfl, -, hm⟩ a hs) | (refine stn hs rfl rfl ds_ ?_; clear hs hm a; rintro - w hm a hs)) | ((with_reducible apply qNil); clear hm; intro w hm) | refine cQ_ ?_ | refine sc_ ?_)
      exact ⟨1, by omega, hs.sub (Has.all ⟨rfl, rfl, rfl, rfl, rfl, trivial⟩), hm, by omega, (fun _ => ⟨by omega, by omega, (fun e => by cases e)⟩), (fun h => absurd h (by omega)), (fun h => absurd h (by omega))⟩
  · by_cases q1 : i.b < 0
    · repeat (first | (refine oq_ ?_; clear hs a; intro a hs) | ((with_reducible apply lCons); first | (refine dv hs gw_ rfl rfl da_ ?_; clear hs hm a; rintro _ w ⟨g, rfl, -, hm⟩ a hs) | (refine stn hs rfl rfl ds_ ?_; clear hs hm a; rintro - w hm a hs)) | ((with_reducible apply qNil); clear hm; intro w hm) | refine cQ_ ?_ | refine sc_ ?_)
      exact gRet1 hs rfl rfl ⟨_, rfl, ⟨(fun e => by cases e), (fun e => by have := (hv.1 e).2.2.1; unfold cdP at this; omega)⟩, hm.fr⟩
    by_cases q2 : 8 ≤ i.b
    · repeat (first | (refine oq_ ?_; clear hs a; intro a hs) | ((with_reducible apply lCons); first | (refine dv hs gw_ rfl rfl da_ ?_; clear hs hm a; rintro _ w ⟨g, rfl, -, hm⟩ a hs) | (refine stn hs rfl rfl ds_ ?_; clear hs hm a; rintro - w hm a hs)) | ((with_reducible apply qNil); clear hm; intro w hm) | refine cQ_ ?_ | refine sc_ ?_)
      exact gRet1 hs rfl rfl ⟨_, rfl, ⟨(fun e => by cases e), (fun e => by have := (hv.1 e).2.2.1; unfold cdP at this; omega)⟩, hm.fr⟩
    cases u2
    · by_cases q3 : i.b = 0
      · repeat (first | (refine oq_ ?_; clear hs a; intro a hs) | ((with_reducible apply lCons); first | (refine dv hs gw_ rfl rfl da_ ?_; clear hs hm a; rintro _ w ⟨g, rfl, -, hm⟩ a hs) | (refine stn hs rfl rfl ds_ ?_; clear hs hm a; rintro - w hm a hs)) | ((with_reducible apply qNil); clear hm; intro w hm) | refine cQ_ ?_ | refine sc_ ?_)
        exact ⟨2, by omega, hs.sub (Has.all ⟨rfl, rfl, rfl, rfl, rfl, trivial⟩), hm, by omega, (fun _ => c1 (by omega)), (fun _ => ⟨by omega, by omega, fun _ => q3⟩), (fun h => absurd h (by omega))⟩
      · repeat (first | (refine oq_ ?_; clear hs a; intro a hs) | ((with_reducible apply lCons); first | (refine dv hs gw_ rfl rfl da_ ?_; clear hs hm a; rintro _ w ⟨g, rfl, -, hm⟩ a hs) | (refine stn hs rfl rfl ds_ ?_; clear hs hm a; rintro - w hm a hs)) | ((with_reducible apply qNil); clear hm; intro w hm) | refine cQ_ ?_ | refine sc_ ?_)
        exact gRet1 hs rfl rfl ⟨_, rfl, ⟨(fun e => by cases e), (fun e => by have := ((hv.1 e).2.2.1).2.2 rfl; omega)⟩, hm.fr⟩
    · repeat (first | (refine oq_ ?_; clear hs a; intro a hs) | ((with_reducible apply lCons); first | (refine dv hs gw_ rfl rfl da_ ?_; clear hs hm a; rintro _ w ⟨g, rfl, -, hm⟩ a hs) | (refine stn hs rfl rfl ds_ ?_; clear hs hm a; rintro - w hm a hs)) | ((with_reducible apply qNil); clear hm; intro w hm) | refine cQ_ ?_ | refine sc_ ?_)
      exact ⟨2, by omega, hs.sub (Has.all ⟨rfl, rfl, rfl, rfl, rfl, trivial⟩), hm, by omega, (fun _ => c1 (by omega)), (fun _ => ⟨by omega, by omega, (fun e => by cases e)⟩), (fun h => absurd h (by omega))⟩
  · by_cases q1 : i.c < 0
    · repeat (first | (refine oq_ ?_; clear hs a; intro a hs) | ((with_reducible apply lCons); first | (refine dv hs gw_ rfl rfl da_ ?_; clear hs hm a; rintro _ w ⟨g, rfl, -, hm⟩ a hs) | (refine stn hs rfl rfl ds_ ?_; clear hs hm a; rintro - w hm a hs)) | ((with_reducible apply qNil); clear hm; intro w hm) | refine cQ_ ?_ | refine sc_ ?_)
      exact gRet1 hs rfl rfl ⟨_, rfl, ⟨(fun e => by cases e), (fun e => by have := (hv.1 e).2.2.2.1; unfold cdP at this; omega)⟩, hm.fr⟩
    by_cases q2 : 8 ≤ i.c
    · repeat (first | (refine oq_ ?_; clear hs a; intro a hs) | ((with_reducible apply lCons); first | (refine dv hs gw_ rfl rfl da_ ?_; clear hs hm a; rintro _ w ⟨g, rfl, -, hm⟩ a hs) | (refine stn hs rfl rfl ds_ ?_; clear hs hm a; rintro - w hm a hs)) | ((with_reducible apply qNil); clear hm; intro w hm) | refine cQ_ ?_ | refine sc_ ?_)
      exact gRet1 hs rfl rfl ⟨_, rfl, ⟨(fun e => by cases e), (fun e => by have := (hv.1 e).2.2.2.1; unfold cdP at this; omega)⟩, hm.fr⟩
    cases u3
    · by_cases q3 : i.c = 0
      · repeat (first | (refine oq_ ?_; clear hs a; intro a hs) | ((with_reducible apply lCons); first | (refine dv hs gw_ rfl rfl da_ ?_; clear hs hm a; rintro _ w ⟨g, rfl, -, hm⟩ a hs) | (refine stn hs rfl rfl ds_ ?_; clear hs hm a; rintro - w hm a hs)) | ((with_reducible apply qNil); clear hm; intro w hm) | refine cQ_ ?_ | refine sc_ ?_)
        exact ⟨3, by omega, hs.sub (Has.all ⟨rfl, rfl, rfl, rfl, rfl, trivial⟩), hm, by omega, (fun _ => c1 (by omega)), (fun _ => c2 (by omega)), (fun _ => ⟨by omega, by omega, fun _ => q3⟩)⟩
      · repeat (first | (refine oq_ ?_; clear hs a; intro a hs) | ((with_reducible apply lCons); first | (refine dv hs gw_ rfl rfl da_ ?_; clear hs hm a; rintro _ w ⟨g, rfl, -, hm⟩ a hs) | (refine stn hs rfl rfl ds_ ?_; clear hs hm a; rintro - w hm a hs)) | ((with_reducible apply qNil); clear hm; intro w hm) | refine cQ_ ?_ | refine sc_ ?_)
        exact gRet1 hs rfl rfl ⟨_, rfl, ⟨(fun e => by cases e), (fun e => by have := ((hv.1 e).2.2.2.1).2.2 rfl; omega)⟩, hm.fr⟩
    · repeat (first | (refine oq_ ?_; clear hs a; intro a hs) | ((with_reducible apply lCons); first | (refine dv hs gw_ rfl rfl da_ ?_; clear hs hm a; rintro _ w ⟨g, rfl, -, hm⟩ a hs) | (refine stn hs rfl rfl ds_ ?_; clear hs hm a; rintro - w hm a hs)) | ((with_reducible apply qNil); clear hm; intro w hm) | refine cQ_ ?_ | refine sc_ ?_)
      exact ⟨3, by omega, hs.sub (Has.all ⟨rfl, rfl, rfl, rfl, rfl, trivial⟩), hm, by omega, (fun _ => c1 (by omega)), (fun _ => c2 (by omega)), (fun _ => ⟨by omega, by omega, (fun e => by cases e)⟩)⟩
  · have d1 := c1 (by omega)
    have d2 := c2 (by omega)
    have d3 := c3 (by omega)
    clear c1 c2 c3
    have hv2 : VlP i ↔ (0 ≤ i.m ∧ i.m ≤ 65535 ∧ (u4 = false → i.m = 0)) ∧ (jb = true → i.m < 64) ∧ (i.op = 15 → i.m < 4) ∧ (i.op = 23 → i.m ≤ 15) := ⟨fun e => (hv.1 e).2.2.2.2, fun e => hv.2 ⟨⟨by omega, by omega⟩, d1, d2, d3, e⟩⟩
    clear hv d1 d2 d3
    by_cases q1 : i.m < 0
    · repeat (first | (refine oq_ ?_; clear hs a; intro a hs) | ((with_reducible apply lCons); first | (refine dv hs gw_ rfl rfl da_ ?_; clear hs hm a; rintro _ w ⟨g, rfl, -, hm⟩ a hs) | (refine stn hs rfl rfl ds_ ?_; clear hs hm a; rintro - w hm a hs)) | ((with_reducible apply qNil); clear hm; intro w hm) | refine cQ_ ?_ | refine sc_ ?_)
      exact gRet1 hs rfl rfl ⟨_, rfl, ⟨(fun e => by cases e), (fun e => by have := hv2.1 e; omega)⟩, hm.fr⟩
    by_cases q2 : 65535 < i.m
    · repeat (first | (refine oq_ ?_; clear hs a; intro a hs) | ((with_reducible apply lCons); first | (refine dv hs gw_ rfl rfl da_ ?_; clear hs hm a; rintro _ w ⟨g, rfl, -, hm⟩ a hs) | (refine stn hs rfl rfl ds_ ?_; clear hs hm a; rintro - w hm a hs)) | ((with_reducible apply qNil); clear hm; intro w hm) | refine cQ_ ?_ | refine sc_ ?_)
      exact gRet1 hs rfl rfl ⟨_, rfl, ⟨(fun e => by cases e), (fun e => by have := hv2.1 e; omega)⟩, hm.fr⟩
    have hui := uses_imm (op := i.op)
    rw [hu] at hui
    dsimp only at hui
    cases u4
    · have hno : jb = false ∧ i.op ≠ 15 ∧ i.op ≠ 23 := by
        refine ⟨?_, fun e => absurd (hui (.inr (.inl e))) (by decide), fun e => absurd (hui (.inr (.inr e))) (by decide)⟩
        cases jb
        · rfl
        · exact absurd (hui (.inl (hji.1 rfl))) (by decide)
      obtain ⟨rfl, n1, n2⟩ := hno
      by_cases q3 : i.m = 0
      · repeat (first | (refine oq_ ?_; clear hs a; intro a hs) | ((with_reducible apply lCons); first | (refine dv hs gw_ rfl rfl da_ ?_; clear hs hm a; rintro _ w ⟨g, rfl, -, hm⟩ a hs) | (refine stn hs rfl rfl ds_ ?_; clear hs hm a; rintro - w hm a hs) | (refine dvc hs hm gw_ rfl rfl rfl rfl rfl (pl 31 rfl) (h6 _) ?_; clear hs hm a; intro w hm a hs)) | ((with_reducible apply qCons); first | (refine qwc hs gw_ rfl rfl rfl rfl rfl (pl 31 rfl) (fun w hm => h6 _) ?_; clear hs a; intro a hs)) | ((with_reducible apply qNil); clear hm; intro w hm) | refine cQ_ ?_ | refine sc_ ?_)
        exact gRet1 hs rfl rfl ⟨_, rfl, ⟨(fun _ => hv2.2 ⟨⟨by omega, by omega, fun _ => q3⟩, fun e => by omega, fun e => by omega, fun e => by omega⟩), (fun _ => rfl)⟩, hm.fr⟩
      · repeat (first | (refine oq_ ?_; clear hs a; intro a hs) | ((with_reducible apply lCons); first | (refine dv hs gw_ rfl rfl da_ ?_; clear hs hm a; rintro _ w ⟨g, rfl, -, hm⟩ a hs) | (refine stn hs rfl rfl ds_ ?_; clear hs hm a; rintro - w hm a hs)) | ((with_reducible apply qNil); clear hm; intro w hm) | refine cQ_ ?_ | refine sc_ ?_)
        exact gRet1 hs rfl rfl ⟨_, rfl, ⟨(fun e => by cases e), (fun e => absurd ((hv2.1 e).1.2.2 rfl) q3)⟩, hm.fr⟩
    cases jb
    · have hnj : ¬ (18 ≤ i.op ∧ i.op ≤ 21) := fun e => by have := hji.2 e; cases this
      by_cases h15 : i.op = 15
      · by_cases q3 : i.m < 4
        · repeat (first | (refine oq_ ?_; clear hs a; intro a hs) | ((with_reducible apply lCons); first | (refine dv hs gw_ rfl rfl da_ ?_; clear hs hm a; rintro _ w ⟨g, rfl, -, hm⟩ a hs) | (refine stn hs rfl rfl ds_ ?_; clear hs hm a; rintro - w hm a hs) | (refine dvc hs hm gw_ rfl rfl rfl rfl rfl (pl 31 rfl) (h6 _) ?_; clear hs hm a; intro w hm a hs)) | ((with_reducible apply qCons); first | (refine qwc hs gw_ rfl rfl rfl rfl rfl (pl 31 rfl) (fun w hm => h6 _) ?_; clear hs a; intro a hs)) | ((with_reducible apply qNil); clear hm; intro w hm) | refine cQ_ ?_ | refine sc_ ?_)
          exact gRet1 hs rfl rfl ⟨_, rfl, ⟨(fun _ => hv2.2 ⟨⟨by omega, by omega, fun e => by cases e⟩, fun e => by omega, fun e => by omega, fun e => by omega⟩), (fun _ => rfl)⟩, hm.fr⟩
        · repeat (first | (refine oq_ ?_; clear hs a; intro a hs) | ((with_reducible apply lCons); first | (refine dv hs gw_ rfl rfl da_ ?_; clear hs hm a; rintro _ w ⟨g, rfl, -, hm⟩ a hs) | (refine stn hs rfl rfl ds_ ?_; clear hs hm a; rintro - w hm a hs) | (refine dvc hs hm gw_ rfl rfl rfl rfl rfl (pl 31 rfl) (h6 _) ?_; clear hs hm a; intro w hm a hs)) | ((with_reducible apply qCons); first | (refine qwc hs gw_ rfl rfl rfl rfl rfl (pl 31 rfl) (fun w hm => h6 _) ?_; clear hs a; intro a hs)) | ((with_reducible apply qNil); clear hm; intro w hm) | refine cQ_ ?_ | refine sc_ ?_)
          exact gRet1 hs rfl rfl ⟨_, rfl, ⟨(fun e => by cases e), (fun e => absurd ((hv2.1 e).2.2.1 h15) q3)⟩, hm.fr⟩
      by_cases h23 : i.op = 23
      · by_cases q3 : i.m ≤ 15
        · repeat (first | (refine oq_ ?_; clear hs a; intro a hs) | ((with_reducible apply lCons); first | (refine dv hs gw_ rfl rfl da_ ?_; clear hs hm a; rintro _ w ⟨g, rfl, -, hm⟩ a hs) | (refine stn hs rfl rfl ds_ ?_; clear hs hm a; rintro - w hm a hs) | (refine dvc hs hm gw_ rfl rfl rfl rfl rfl (pl 31 rfl) (h6 _) ?_; clear hs hm a; intro w hm a hs)) | ((with_reducible apply qCons); first | (refine qwc hs gw_ rfl rfl rfl rfl rfl (pl 31 rfl) (fun w hm => h6 _) ?_; clear hs a; intro a hs)) | ((with_reducible apply qNil); clear hm; intro w hm) | refine cQ_ ?_ | refine sc_ ?_)
          exact gRet1 hs rfl rfl ⟨_, rfl, ⟨(fun _ => hv2.2 ⟨⟨by omega, by omega, fun e => by cases e⟩, fun e => by omega, fun e => by omega, fun e => by omega⟩), (fun _ => rfl)⟩, hm.fr⟩
        · repeat (first | (refine oq_ ?_; clear hs a; intro a hs) | ((with_reducible apply lCons); first | (refine dv hs gw_ rfl rfl da_ ?_; clear hs hm a; rintro _ w ⟨g, rfl, -, hm⟩ a hs) | (refine stn hs rfl rfl ds_ ?_; clear hs hm a; rintro - w hm a hs) | (refine dvc hs hm gw_ rfl rfl rfl rfl rfl (pl 31 rfl) (h6 _) ?_; clear hs hm a; intro w hm a hs)) | ((with_reducible apply qCons); first | (refine qwc hs gw_ rfl rfl rfl rfl rfl (pl 31 rfl) (fun w hm => h6 _) ?_; clear hs a; intro a hs)) | ((with_reducible apply qNil); clear hm; intro w hm) | refine cQ_ ?_ | refine sc_ ?_)
          exact gRet1 hs rfl rfl ⟨_, rfl, ⟨(fun e => by cases e), (fun e => absurd ((hv2.1 e).2.2.2 h23) q3)⟩, hm.fr⟩
      · repeat (first | (refine oq_ ?_; clear hs a; intro a hs) | ((with_reducible apply lCons); first | (refine dv hs gw_ rfl rfl da_ ?_; clear hs hm a; rintro _ w ⟨g, rfl, -, hm⟩ a hs) | (refine stn hs rfl rfl ds_ ?_; clear hs hm a; rintro - w hm a hs) | (refine dvc hs hm gw_ rfl rfl rfl rfl rfl (pl 31 rfl) (h6 _) ?_; clear hs hm a; intro w hm a hs)) | ((with_reducible apply qCons); first | (refine qwc hs gw_ rfl rfl rfl rfl rfl (pl 31 rfl) (fun w hm => h6 _) ?_; clear hs a; intro a hs)) | ((with_reducible apply qNil); clear hm; intro w hm) | refine cQ_ ?_ | refine sc_ ?_)
        exact gRet1 hs rfl rfl ⟨_, rfl, ⟨(fun _ => hv2.2 ⟨⟨by omega, by omega, fun e => by cases e⟩, (fun e => by cases e), fun e => by omega, fun e => by omega⟩), (fun _ => rfl)⟩, hm.fr⟩
    · have hyj := hji.1 rfl
      by_cases q3 : i.m < 64
      · repeat (first | (refine oq_ ?_; clear hs a; intro a hs) | ((with_reducible apply lCons); first | (refine dv hs gw_ rfl rfl da_ ?_; clear hs hm a; rintro _ w ⟨g, rfl, -, hm⟩ a hs) | (refine stn hs rfl rfl ds_ ?_; clear hs hm a; rintro - w hm a hs) | (refine dvc hs hm gw_ rfl rfl rfl rfl rfl (pl 31 rfl) (h6 _) ?_; clear hs hm a; intro w hm a hs)) | ((with_reducible apply qCons); first | (refine qwc hs gw_ rfl rfl rfl rfl rfl (pl 31 rfl) (fun w hm => h6 _) ?_; clear hs a; intro a hs)) | ((with_reducible apply qNil); clear hm; intro w hm) | refine cQ_ ?_ | refine sc_ ?_)
        exact gRet1 hs rfl rfl ⟨_, rfl, ⟨(fun _ => hv2.2 ⟨⟨by omega, by omega, fun e => by cases e⟩, fun _ => q3, fun e => by omega, fun e => by omega⟩), (fun _ => rfl)⟩, hm.fr⟩
      · repeat (first | (refine oq_ ?_; clear hs a; intro a hs) | ((with_reducible apply lCons); first | (refine dv hs gw_ rfl rfl da_ ?_; clear hs hm a; rintro _ w ⟨g, rfl, -, hm⟩ a hs) | (refine stn hs rfl rfl ds_ ?_; clear hs hm a; rintro - w hm a hs) | (refine dvc hs hm gw_ rfl rfl rfl rfl rfl (pl 31 rfl) (h6 _) ?_; clear hs hm a; intro w hm a hs)) | ((with_reducible apply qCons); first | (refine qwc hs gw_ rfl rfl rfl rfl rfl (pl 31 rfl) (fun w hm => h6 _) ?_; clear hs a; intro a hs)) | ((with_reducible apply qNil); clear hm; intro w hm) | refine cQ_ ?_ | refine sc_ ?_)
        exact gRet1 hs rfl rfl ⟨_, rfl, ⟨(fun e => by cases e), (fun e => absurd ((hv2.1 e).2.1 rfl) q3)⟩, hm.fr⟩
end Go.Proofs.YtajkekhnfobgiaaGreatDoor

/- A program in unchanging memory; the program's check of it. -/
namespace Go.Proofs.YtajkekhnfobgiaaGreatDoor
set_option maxRecDepth 20000
open Go.RowKit

/-- a slice of words -/
structure WV where
  A : Option Addr
  c : Nat
  xs : List Int
def WV.v (r : WV) : Value := .slice r.A r.xs.length r.c
/-- a program as it lies in memory -/
structure PV where
  cA : Option Addr
  cc : Nat
  code : List In
  sA : Option Addr
  sc : Nat
  ss : List Int
  dA : Option Addr
  dc : Nat
  ws : List WV
def PV.v (p : PV) : Value := .agg #[.slice p.cA p.code.length p.cc, .slice p.sA p.ss.length p.sc, .slice p.dA p.ws.length p.dc]
structure PV.ok (p : PV) (w : World) : Prop where
  c : Rd w w.heap.size p.cA (p.code.flatMap inV)
  s : Rd w w.heap.size p.sA (ints p.ss)
  d : Rd w w.heap.size p.dA (p.ws.map WV.v)
  x : ∀ r ∈ p.ws, Rd w w.heap.size r.A (wds r.xs)
theorem PV.ok.pu {p : PV} {w w' : World} (h : p.ok w) (hf : Pu w w') : p.ok w' := ⟨hf.rd' h.c, hf.rd' h.s, hf.rd' h.d, fun r hr => hf.rd' (h.x r hr)⟩
structure PV.sm (p : PV) : Prop where
  c : p.code.length ≤ 1000
  s : p.ss.length ≤ 1000
  d : p.ws.length ≤ 1000
  x : ∀ r ∈ p.ws, r.xs.length ≤ 1000 ∧ ∀ y ∈ r.xs, 0 ≤ y ∧ y ≤ 65535
def InG (i : In) (n s : Nat) : Prop := VlP i ∧ (jumpB i.op = true → i.m < (n : Int)) ∧ (i.op = 15 → i.m < (s : Int))
/-- a valid program -/
structure GoodP (p : PV) : Prop where
  sz : SzOk p.ss
  wl : p.ws.length = p.ss.length
  fit : ∀ k (h1 : k < p.ws.length) (h2 : k < p.ss.length), ((p.ws[k]).xs.length : Int) ≤ p.ss[k]
  c1 : 1 ≤ p.code.length
  c2 : p.code.length ≤ 64
  inv : ∀ i ∈ p.code, InG i p.code.length p.ss.length
theorem all_next {n k : Nat} {R : (j : Nat) → j < n → Prop} {ok : Bool} (h : ok = true ↔ ∀ j (h : j < n), j < k → R j h) (hk : k < n) (hr : R k hk) : ok = true ↔ ∀ j (h : j < n), j < k + 1 → R j h :=
  h.trans ⟨fun f j h hj => by
    by_cases e : j = k
    · subst e; exact hr
    · exact f j h (by omega), fun f j h hj => f j h (by omega)⟩
theorem all_bad {n k : Nat} {R : (j : Nat) → j < n → Prop} (hk : k < n) (hr : ¬ R k hk) : false = true ↔ ∀ j (h : j < n), j < k + 1 → R j h :=
  ⟨(fun e => by cases e), fun f => absurd (f k hk (Nat.lt_succ_self k)) hr⟩
set_option maxHeartbeats 8000000 in
theorem chk_c (p : PV) (wB : World) (hp : p.ok wB) (hsm : p.sm) : Ret Tryz.prog 32 [p.v] wB (fun u w' => ∃ e : Int, u = .int .i64 e ∧ (e = 0 ↔ GoodP p) ∧ Pu wB w') := by
  obtain ⟨cA, cc, code, sA, sc, ss, dA, dc, ws⟩ := p
  obtain ⟨pc, ps, pd, px⟩ := hp
  obtain ⟨m1, m2, m3, m4⟩ := hsm
  dsimp only at *
  refine enterR Tryz.func32 rfl rfl rfl fun a hs hm => ?_
  unfold PV.v at hs
  dsimp only at hs
  repeat (first | (refine ov_ ?_; clear hs a; intro a hs) | ((with_reducible apply lCons); first | (refine dv hs gw_ rfl rfl da_ ?_; clear hs hm a; rintro _ w ⟨g, rfl, -, hm⟩ a hs) | (refine stn hs rfl rfl ds_ ?_; clear hs hm a; rintro - w hm a hs)) | refine sc_ ?_)
  refine st hs rfl rfl rfl (d_call hs rfl rfl rfl (pl 54 rfl) ((vsz_c sA _ sc ss _ rfl (hm.fr.rd' ps) (by omega)))) ?_; clear hs a; rintro _ w1 ⟨b, rfl, hb, hf⟩ a hs
  replace hm := hm.pu hf
  clear hf
  cases b
  · repeat (first | (refine ov_ ?_; clear hs a; intro a hs) | ((with_reducible apply lCons); first | (refine dv hs gw_ rfl rfl da_ ?_; clear hs hm a; rintro _ w ⟨g, rfl, -, hm⟩ a hs) | (refine stn hs rfl rfl ds_ ?_; clear hs hm a; rintro - w hm a hs)) | refine sc_ ?_)
    exact gRet1 hs rfl rfl ⟨_, rfl, ⟨(fun e => by cases e), (fun e => absurd (hb.2 e.sz) (by decide))⟩, hm.fr⟩
  have hsz := hb.1 rfl
  clear hb
  by_cases hwl : ws.length = ss.length
  case neg =>
    repeat (first | (refine ov_ ?_; clear hs a; intro a hs) | ((with_reducible apply lCons); first | (refine dv hs gw_ rfl rfl da_ ?_; clear hs hm a; rintro _ w ⟨g, rfl, -, hm⟩ a hs) | (refine stn hs rfl rfl ds_ ?_; clear hs hm a; rintro - w hm a hs)) | refine sc_ ?_)
    exact gRet1 hs rfl rfl ⟨_, rfl, ⟨(fun e => by cases e), (fun e => absurd e.wl hwl)⟩, hm.fr⟩
  repeat (first | (refine ov_ ?_; clear hs a; intro a hs) | ((with_reducible apply lCons); first | (refine dv hs gw_ rfl rfl da_ ?_; clear hs hm a; rintro _ w ⟨g, rfl, -, hm⟩ a hs) | (refine stn hs rfl rfl ds_ ?_; clear hs hm a; rintro - w hm a hs)) | refine sc_ ?_)
  obtain ⟨g1, en_⟩ := hs.pt 1 (by exact rfl); subst en_
  have hb : Mm (fun _ => False) wB [⟨some g1, 26, [.slice cA code.length cc, .slice sA ss.length sc, .slice dA ws.length dc]⟩] w1 := hm
  clear hm
  refine cLoop (X := Nat) (fun k a w' => Sl Tryz.f32.ntmps [(1, .pointer (some ⟨g1, 0, none⟩)), (22, .slice dA ws.length dc), (23, .int .i64 (ws.length : Int)), (24, .int .i64 (k : Int))] a ∧ Mm (fun _ => False) wB [⟨some g1, 26, [.slice cA code.length cc, .slice sA ss.length sc, .slice dA ws.length dc]⟩] w' ∧ k ≤ ws.length ∧ ∀ j (h1 : j < ws.length) (h2 : j < ss.length), j < k → ((ws[j]).xs.length : Int) ≤ ss[j]) (fun k => ws.length - k) 0 ⟨hs.sub (Has.all ⟨rfl, rfl, rfl, rfl, trivial⟩), hb, Nat.zero_le _, fun j _ _ h => absurd h (Nat.not_lt_zero _)⟩ ?_
  clear hs hb a
  rintro k a w' ⟨hs, hm, hk, hg⟩
  by_cases hlt : k < ws.length
  · obtain ⟨b1, o1, rfl, hb1, r1⟩ := pd.ro (by rw [List.length_map]; omega)
    obtain ⟨b2, o2, rfl, hb2, r2⟩ := ps.ro (by rw [ints_len]; omega)
    have e2 := ints_some (xs := ss) (k := k) (by omega)
    obtain ⟨sk, hsk⟩ : ∃ z, ss[k]'(by omega) = z := ⟨_, rfl⟩
    rw [hsk] at e2
    obtain ⟨⟨rA, rc, rx⟩, hr⟩ : ∃ z, ws[k] = z := ⟨_, rfl⟩
    have e1 : (ws.map WV.v)[k]? = some (.slice rA rx.length rc) := by rw [List.getElem?_map, List.getElem?_eq_getElem hlt, hr]; rfl
    by_cases q : sk < (rx.length : Int)
    · repeat (first | (refine ov_ ?_; clear hs a; intro a hs) | ((with_reducible apply lCons); first | (refine dv hs gw_ rfl rfl da_ ?_; clear hs hm a; rintro _ w ⟨g, rfl, -, hm⟩ a hs) | (refine stn hs rfl rfl ds_ ?_; clear hs hm a; rintro - w hm a hs)) | refine sc_ ?_)
      exact gRet1 hs rfl rfl ⟨_, rfl, ⟨(fun e => by cases e), (fun e => by have := e.fit k hlt (by dsimp only; omega); dsimp only at this; rw [hr, hsk] at this; dsimp only at this; omega)⟩, hm.fr⟩
    · repeat (first | (refine ov_ ?_; clear hs a; intro a hs) | ((with_reducible apply lCons); first | (refine dv hs gw_ rfl rfl da_ ?_; clear hs hm a; rintro _ w ⟨g, rfl, -, hm⟩ a hs) | (refine stn hs rfl rfl ds_ ?_; clear hs hm a; rintro - w hm a hs)) | refine sc_ ?_)
      refine ⟨k + 1, by omega, hs.sub (Has.all ⟨rfl, rfl, rfl, rfl, trivial⟩), hm, by omega, fun j h1 h2 hj => ?_⟩
      by_cases e : j = k
      · subst e; rw [hr, hsk]; dsimp only; omega
      · exact hg j h1 h2 (by omega)
  have hfit : ∀ k (h1 : k < ws.length) (h2 : k < ss.length), ((ws[k]).xs.length : Int) ≤ ss[k] := fun j h1 h2 => hg j h1 h2 (by omega)
  clear hg
  by_cases q1 : code.length = 0
  · repeat (first | (refine ov_ ?_; clear hs a; intro a hs) | ((with_reducible apply lCons); first | (refine dv hs gw_ rfl rfl da_ ?_; clear hs hm a; rintro _ w ⟨g, rfl, -, hm⟩ a hs) | (refine stn hs rfl rfl ds_ ?_; clear hs hm a; rintro - w hm a hs)) | refine sc_ ?_)
    exact gRet1 hs rfl rfl ⟨_, rfl, ⟨(fun e => by cases e), (fun e => by have := e.c1; dsimp only at this; omega)⟩, hm.fr⟩
  by_cases q2 : 64 < code.length
  · repeat (first | (refine ov_ ?_; clear hs a; intro a hs) | ((with_reducible apply lCons); first | (refine dv hs gw_ rfl rfl da_ ?_; clear hs hm a; rintro _ w ⟨g, rfl, -, hm⟩ a hs) | (refine stn hs rfl rfl ds_ ?_; clear hs hm a; rintro - w hm a hs)) | refine sc_ ?_)
    exact gRet1 hs rfl rfl ⟨_, rfl, ⟨(fun e => by cases e), (fun e => by have := e.c2; dsimp only at this; omega)⟩, hm.fr⟩
  repeat (first | (refine ov_ ?_; clear hs a; intro a hs) | ((with_reducible apply lCons); first | (refine dv hs gw_ rfl rfl da_ ?_; clear hs hm a; rintro _ w ⟨g, rfl, -, hm⟩ a hs) | (refine stn hs rfl rfl ds_ ?_; clear hs hm a; rintro - w hm a hs)) | refine sc_ ?_)
  obtain ⟨b3, o3, rfl, hb3, r3⟩ := pc.ro (by rw [flat_len inV 5 inV_len]; omega)
  refine cLoop (X := Nat × Bool) (fun x a w' => Sl Tryz.f32.ntmps [(1, .pointer (some ⟨g1, 0, none⟩)), (49, .slice (some ⟨b3, o3, none⟩) code.length cc), (50, .int .i64 (code.length : Int)), (51, .int .i64 (x.1 : Int)), (5, .int .i64 (if x.2 then 0 else 6))] a ∧ Mm (fun _ => False) wB [⟨some g1, 26, [.slice (some ⟨b3, o3, none⟩) code.length cc, .slice sA ss.length sc, .slice dA ws.length dc]⟩] w' ∧ x.1 ≤ code.length ∧ (x.2 = true ↔ ∀ j (h : j < code.length), j < x.1 → (jumpB (code[j]).op = true → (code[j]).m < (code.length : Int)) ∧ ((code[j]).op = 15 → (code[j]).m < (ss.length : Int))) ∧ ∀ j (h : j < code.length), j < x.1 → VlP code[j]) (fun x => code.length - x.1) (0, true) ⟨hs.sub (Has.all ⟨rfl, rfl, rfl, rfl, rfl, trivial⟩), hm, Nat.zero_le _, ⟨fun _ j _ h => absurd h (Nat.not_lt_zero _), fun _ => rfl⟩, fun j _ h => absurd h (Nat.not_lt_zero _)⟩ ?_
  clear hs hm a hk hlt k
  rintro ⟨k, ok⟩ a w' ⟨hs, hm, hk, hok, hvl⟩
  dsimp only at *
  by_cases hlt : k < code.length
  · obtain ⟨x, hx⟩ : ∃ z, code[k] = z := ⟨_, rfl⟩
    have hrk := r3.flat inV_len hlt
    rw [hx] at hrk
    obtain ⟨xo, xa, xb, xc, xm⟩ := x
    unfold inV at hrk
    dsimp only at hrk
    have hjm := fun w => jmps_c xo w
    obtain ⟨jb, hjb⟩ : ∃ z, jumpB xo = z := ⟨_, rfl⟩
    rw [hjb] at hjm
    repeat (first | (refine ov_ ?_; clear hs a; intro a hs) | ((with_reducible apply lCons); first | (refine dv hs gw_ rfl rfl da_ ?_; clear hs hm a; rintro _ w ⟨g, rfl, -, hm⟩ a hs) | (refine stn hs rfl rfl ds_ ?_; clear hs hm a; rintro - w hm a hs)) | refine sc_ ?_)
    refine st hs rfl rfl rfl (d_call hs rfl rfl rfl (pl 55 rfl) ((vali_c ⟨xo, xa, xb, xc, xm⟩ _))) ?_; clear hs a; rintro _ w2 ⟨b, rfl, hb, hf⟩ a hs
    replace hm := hm.pu hf
    clear hf
    have hin : code[k] ∈ code := List.getElem_mem hlt
    rw [hx] at hin
    cases b
    · repeat (first | (refine ov_ ?_; clear hs a; intro a hs) | ((with_reducible apply lCons); first | (refine dv hs gw_ rfl rfl da_ ?_; clear hs hm a; rintro _ w ⟨g, rfl, -, hm⟩ a hs) | (refine stn hs rfl rfl ds_ ?_; clear hs hm a; rintro - w hm a hs)) | refine sc_ ?_)
      exact gRet1 hs rfl rfl ⟨_, rfl, ⟨(fun e => by cases e), (fun e => absurd (hb.2 (e.inv _ hin).1) (by decide))⟩, hm.fr⟩
    have hvk := hb.1 rfl
    clear hb
    have hvl2 : ∀ j (h : j < code.length), j < k + 1 → VlP code[j] := fun j h hj => by
      by_cases e : j = k
      · subst e; rw [hx]; exact hvk
      · exact hvl j h (by omega)
    have hji := jumpB_iff xo
    rw [hjb] at hji
    have R0 : (jumpB (code[k]).op = true → (code[k]).m < (code.length : Int)) ∧ ((code[k]).op = 15 → (code[k]).m < (ss.length : Int)) ↔ (jb = true → xm < (code.length : Int)) ∧ (xo = 15 → xm < (ss.length : Int)) := by rw [hx]; dsimp only; rw [hjb]
    cases jb
    · by_cases h15 : xo = 15
      · by_cases q : xm < (ss.length : Int)
        · repeat (first | (refine ov_ ?_; clear hs a; intro a hs) | ((with_reducible apply lCons); first | (refine dv hs gw_ rfl rfl da_ ?_; clear hs hm a; rintro _ w ⟨g, rfl, -, hm⟩ a hs) | (refine stn hs rfl rfl ds_ ?_; clear hs hm a; rintro - w hm a hs) | (refine dvc hs hm gw_ rfl rfl rfl rfl rfl (pl 35 rfl) (hjm _) ?_; clear hs hm a; intro w hm a hs)) | refine sc_ ?_)
          exact ⟨(k + 1, ok), by dsimp only; omega, hs.sub (Has.all ⟨rfl, rfl, rfl, rfl, rfl, trivial⟩), hm.sub sub_, hlt, all_next hok hlt (R0.2 ⟨(fun e => by cases e), fun _ => q⟩), hvl2⟩
        · repeat (first | (refine ov_ ?_; clear hs a; intro a hs) | ((with_reducible apply lCons); first | (refine dv hs gw_ rfl rfl da_ ?_; clear hs hm a; rintro _ w ⟨g, rfl, -, hm⟩ a hs) | (refine stn hs rfl rfl ds_ ?_; clear hs hm a; rintro - w hm a hs) | (refine dvc hs hm gw_ rfl rfl rfl rfl rfl (pl 35 rfl) (hjm _) ?_; clear hs hm a; intro w hm a hs)) | refine sc_ ?_)
          exact ⟨(k + 1, false), by dsimp only; omega, hs.sub (Has.all ⟨rfl, rfl, rfl, rfl, rfl, trivial⟩), hm.sub sub_, hlt, all_bad hlt (fun e => q ((R0.1 e).2 h15)), hvl2⟩
      · repeat (first | (refine ov_ ?_; clear hs a; intro a hs) | ((with_reducible apply lCons); first | (refine dv hs gw_ rfl rfl da_ ?_; clear hs hm a; rintro _ w ⟨g, rfl, -, hm⟩ a hs) | (refine stn hs rfl rfl ds_ ?_; clear hs hm a; rintro - w hm a hs) | (refine dvc hs hm gw_ rfl rfl rfl rfl rfl (pl 35 rfl) (hjm _) ?_; clear hs hm a; intro w hm a hs)) | refine sc_ ?_)
        exact ⟨(k + 1, ok), by dsimp only; omega, hs.sub (Has.all ⟨rfl, rfl, rfl, rfl, rfl, trivial⟩), hm.sub sub_, hlt, all_next hok hlt (R0.2 ⟨(fun e => by cases e), fun e => absurd e h15⟩), hvl2⟩
    · have hyj := hji.1 rfl
      by_cases q : xm < (code.length : Int)
      · repeat (first | (refine ov_ ?_; clear hs a; intro a hs) | ((with_reducible apply lCons); first | (refine dv hs gw_ rfl rfl da_ ?_; clear hs hm a; rintro _ w ⟨g, rfl, -, hm⟩ a hs) | (refine stn hs rfl rfl ds_ ?_; clear hs hm a; rintro - w hm a hs) | (refine dvc hs hm gw_ rfl rfl rfl rfl rfl (pl 35 rfl) (hjm _) ?_; clear hs hm a; intro w hm a hs)) | refine sc_ ?_)
        exact ⟨(k + 1, ok), by dsimp only; omega, hs.sub (Has.all ⟨rfl, rfl, rfl, rfl, rfl, trivial⟩), hm.sub sub_, hlt, all_next hok hlt (R0.2 ⟨fun _ => q, fun e => by omega⟩), hvl2⟩
      · repeat (first | (refine ov_ ?_; clear hs a; intro a hs) | ((with_reducible apply lCons); first | (refine dv hs gw_ rfl rfl da_ ?_; clear hs hm a; rintro _ w ⟨g, rfl, -, hm⟩ a hs) | (refine stn hs rfl rfl ds_ ?_; clear hs hm a; rintro - w hm a hs) | (refine dvc hs hm gw_ rfl rfl rfl rfl rfl (pl 35 rfl) (hjm _) ?_; clear hs hm a; intro w hm a hs)) | refine sc_ ?_)
        exact ⟨(k + 1, false), by dsimp only; omega, hs.sub (Has.all ⟨rfl, rfl, rfl, rfl, rfl, trivial⟩), hm.sub sub_, hlt, all_bad hlt (fun e => q ((R0.1 e).1 rfl)), hvl2⟩
  · repeat (first | (refine ov_ ?_; clear hs a; intro a hs) | ((with_reducible apply lCons); first | (refine dv hs gw_ rfl rfl da_ ?_; clear hs hm a; rintro _ w ⟨g, rfl, -, hm⟩ a hs) | (refine stn hs rfl rfl ds_ ?_; clear hs hm a; rintro - w hm a hs)) | refine sc_ ?_)
    cases ok
    · exact gRet1 hs rfl rfl ⟨_, rfl, ⟨(fun e => by cases e), (fun e => absurd (hok.2 fun j h _ => (e.inv _ (List.getElem_mem h)).2) (by decide))⟩, hm.fr⟩
    · exact gRet1 hs rfl rfl ⟨_, rfl, ⟨(fun _ => ⟨hsz, hwl, hfit, by dsimp only; omega, by dsimp only; omega, fun i hi => by obtain ⟨j, hj, e⟩ := List.getElem_of_mem hi; dsimp only at hj; rw [← e]; exact ⟨hvl j hj (by omega), hok.1 rfl j hj (by omega)⟩⟩), (fun _ => rfl)⟩, hm.fr⟩
end Go.Proofs.YtajkekhnfobgiaaGreatDoor

/- The reference's check of a program. -/
namespace Go.Proofs.YtajkekhnfobgiaaGreatDoor
set_option maxRecDepth 20000
open Go.RowKit

set_option maxHeartbeats 8000000 in
theorem good_c (p : PV) (wB : World) (hp : p.ok wB) (hsm : p.sm) : Ret Tryz.prog 39 [p.v] wB (fun u w' => ∃ e : Bool, u = .bool e ∧ (e = true ↔ GoodP p) ∧ Pu wB w') := by
  obtain ⟨cA, cc, code, sA, sc, ss, dA, dc, ws⟩ := p
  obtain ⟨pc, ps, pd, px⟩ := hp
  obtain ⟨m1, m2, m3, m4⟩ := hsm
  dsimp only at *
  refine enterR Tryz.func39 rfl rfl rfl fun a hs hm => ?_
  unfold PV.v at hs
  dsimp only at hs
  repeat (first | (refine ov_ ?_; clear hs a; intro a hs) | ((with_reducible apply lCons); first | (refine dv hs gw_ rfl rfl da_ ?_; clear hs hm a; rintro _ w ⟨g, rfl, -, hm⟩ a hs) | (refine stn hs rfl rfl ds_ ?_; clear hs hm a; rintro - w hm a hs)) | refine sc_ ?_)
  refine st hs rfl rfl rfl (d_call hs rfl rfl rfl (pl 59 rfl) ((rvsz_c sA _ sc ss _ rfl (hm.fr.rd' ps) (by omega)))) ?_; clear hs a; rintro _ w1 ⟨b, rfl, hb, hf⟩ a hs
  replace hm := hm.pu hf
  clear hf
  cases b
  · repeat (first | (refine ov_ ?_; clear hs a; intro a hs) | ((with_reducible apply lCons); first | (refine dv hs gw_ rfl rfl da_ ?_; clear hs hm a; rintro _ w ⟨g, rfl, -, hm⟩ a hs) | (refine stn hs rfl rfl ds_ ?_; clear hs hm a; rintro - w hm a hs)) | refine sc_ ?_)
    exact gRet1 hs rfl rfl ⟨_, rfl, ⟨(fun e => by cases e), (fun e => absurd (hb.2 e.sz) (by decide))⟩, hm.fr⟩
  have hsz := hb.1 rfl
  clear hb
  by_cases hwl : ws.length = ss.length
  case neg =>
    repeat (first | (refine ov_ ?_; clear hs a; intro a hs) | ((with_reducible apply lCons); first | (refine dv hs gw_ rfl rfl da_ ?_; clear hs hm a; rintro _ w ⟨g, rfl, -, hm⟩ a hs) | (refine stn hs rfl rfl ds_ ?_; clear hs hm a; rintro - w hm a hs)) | refine sc_ ?_)
    exact gRet1 hs rfl rfl ⟨_, rfl, ⟨(fun e => by cases e), (fun e => absurd e.wl hwl)⟩, hm.fr⟩
  by_cases q1 : code.length < 1
  · repeat (first | (refine ov_ ?_; clear hs a; intro a hs) | ((with_reducible apply lCons); first | (refine dv hs gw_ rfl rfl da_ ?_; clear hs hm a; rintro _ w ⟨g, rfl, -, hm⟩ a hs) | (refine stn hs rfl rfl ds_ ?_; clear hs hm a; rintro - w hm a hs)) | refine sc_ ?_)
    exact gRet1 hs rfl rfl ⟨_, rfl, ⟨(fun e => by cases e), (fun e => by have := e.c1; dsimp only at this; omega)⟩, hm.fr⟩
  by_cases q2 : 64 < code.length
  · repeat (first | (refine ov_ ?_; clear hs a; intro a hs) | ((with_reducible apply lCons); first | (refine dv hs gw_ rfl rfl da_ ?_; clear hs hm a; rintro _ w ⟨g, rfl, -, hm⟩ a hs) | (refine stn hs rfl rfl ds_ ?_; clear hs hm a; rintro - w hm a hs)) | refine sc_ ?_)
    exact gRet1 hs rfl rfl ⟨_, rfl, ⟨(fun e => by cases e), (fun e => by have := e.c2; dsimp only at this; omega)⟩, hm.fr⟩
  repeat (first | (refine ov_ ?_; clear hs a; intro a hs) | ((with_reducible apply lCons); first | (refine dv hs gw_ rfl rfl da_ ?_; clear hs hm a; rintro _ w ⟨g, rfl, -, hm⟩ a hs) | (refine stn hs rfl rfl ds_ ?_; clear hs hm a; rintro - w hm a hs)) | refine sc_ ?_)
  obtain ⟨g1, en_⟩ := hs.pt 1 (by exact rfl); subst en_
  have hb : Mm (fun _ => False) wB [⟨some g1, 26, [.slice cA code.length cc, .slice sA ss.length sc, .slice dA ws.length dc]⟩] w1 := hm
  clear hm
  refine cLoop (X := Nat) (fun k a w' => Sl Tryz.f39.ntmps [(1, .pointer (some ⟨g1, 0, none⟩)), (33, .slice dA ws.length dc), (34, .int .i64 (ws.length : Int)), (35, .int .i64 (k : Int))] a ∧ Mm (fun _ => False) wB [⟨some g1, 26, [.slice cA code.length cc, .slice sA ss.length sc, .slice dA ws.length dc]⟩] w' ∧ k ≤ ws.length ∧ ∀ j (h1 : j < ws.length) (h2 : j < ss.length), j < k → ((ws[j]).xs.length : Int) ≤ ss[j]) (fun k => ws.length - k) 0 ⟨hs.sub (Has.all ⟨rfl, rfl, rfl, rfl, trivial⟩), hb, Nat.zero_le _, fun j _ _ h => absurd h (Nat.not_lt_zero _)⟩ ?_
  clear hs hb a
  rintro k a w' ⟨hs, hm, hk, hg⟩
  by_cases hlt : k < ws.length
  · obtain ⟨b1, o1, rfl, hb1, r1⟩ := pd.ro (by rw [List.length_map]; omega)
    obtain ⟨b2, o2, rfl, hb2, r2⟩ := ps.ro (by rw [ints_len]; omega)
    have e2 := ints_some (xs := ss) (k := k) (by omega)
    obtain ⟨sk, hsk⟩ : ∃ z, ss[k]'(by omega) = z := ⟨_, rfl⟩
    rw [hsk] at e2
    obtain ⟨⟨rA, rc, rx⟩, hr⟩ : ∃ z, ws[k] = z := ⟨_, rfl⟩
    have e1 : (ws.map WV.v)[k]? = some (.slice rA rx.length rc) := by rw [List.getElem?_map, List.getElem?_eq_getElem hlt, hr]; rfl
    by_cases q : sk < (rx.length : Int)
    · repeat (first | (refine ov_ ?_; clear hs a; intro a hs) | ((with_reducible apply lCons); first | (refine dv hs gw_ rfl rfl da_ ?_; clear hs hm a; rintro _ w ⟨g, rfl, -, hm⟩ a hs) | (refine stn hs rfl rfl ds_ ?_; clear hs hm a; rintro - w hm a hs)) | refine sc_ ?_)
      exact gRet1 hs rfl rfl ⟨_, rfl, ⟨(fun e => by cases e), (fun e => by have := e.fit k hlt (by dsimp only; omega); dsimp only at this; rw [hr, hsk] at this; dsimp only at this; omega)⟩, hm.fr⟩
    · repeat (first | (refine ov_ ?_; clear hs a; intro a hs) | ((with_reducible apply lCons); first | (refine dv hs gw_ rfl rfl da_ ?_; clear hs hm a; rintro _ w ⟨g, rfl, -, hm⟩ a hs) | (refine stn hs rfl rfl ds_ ?_; clear hs hm a; rintro - w hm a hs)) | refine sc_ ?_)
      refine ⟨k + 1, by omega, hs.sub (Has.all ⟨rfl, rfl, rfl, rfl, trivial⟩), hm, by omega, fun j h1 h2 hj => ?_⟩
      by_cases e : j = k
      · subst e; rw [hr, hsk]; dsimp only; omega
      · exact hg j h1 h2 (by omega)
  have hfit : ∀ k (h1 : k < ws.length) (h2 : k < ss.length), ((ws[k]).xs.length : Int) ≤ ss[k] := fun j h1 h2 => hg j h1 h2 (by omega)
  clear hg
  repeat (first | (refine ov_ ?_; clear hs a; intro a hs) | ((with_reducible apply lCons); first | (refine dv hs gw_ rfl rfl da_ ?_; clear hs hm a; rintro _ w ⟨g, rfl, -, hm⟩ a hs) | (refine stn hs rfl rfl ds_ ?_; clear hs hm a; rintro - w hm a hs)) | refine sc_ ?_)
  obtain ⟨b3, o3, rfl, hb3, r3⟩ := pc.ro (by rw [flat_len inV 5 inV_len]; omega)
  refine cLoop (X := Nat) (fun k a w' => Sl Tryz.f39.ntmps [(1, .pointer (some ⟨g1, 0, none⟩)), (50, .slice (some ⟨b3, o3, none⟩) code.length cc), (51, .int .i64 (code.length : Int)), (52, .int .i64 (k : Int))] a ∧ Mm (fun _ => False) wB [⟨some g1, 26, [.slice (some ⟨b3, o3, none⟩) code.length cc, .slice sA ss.length sc, .slice dA ws.length dc]⟩] w' ∧ k ≤ code.length ∧ ∀ j (h : j < code.length), j < k → InG code[j] code.length ss.length) (fun k => code.length - k) 0 ⟨hs.sub (Has.all ⟨rfl, rfl, rfl, rfl, trivial⟩), hm, Nat.zero_le _, fun j _ h => absurd h (Nat.not_lt_zero _)⟩ ?_
  clear hs hm a hk hlt k
  rintro k a w' ⟨hs, hm, hk, hvl⟩
  by_cases hlt : k < code.length
  · obtain ⟨x, hx⟩ : ∃ z, code[k] = z := ⟨_, rfl⟩
    have hrk := r3.flat inV_len hlt
    rw [hx] at hrk
    obtain ⟨xo, xa, xb, xc, xm⟩ := x
    unfold inV at hrk
    dsimp only at hrk
    have hjm := fun w => jump_c xo w
    obtain ⟨jb, hjb⟩ : ∃ z, jumpB xo = z := ⟨_, rfl⟩
    rw [hjb] at hjm
    repeat (first | (refine ov_ ?_; clear hs a; intro a hs) | ((with_reducible apply lCons); first | (refine dv hs gw_ rfl rfl da_ ?_; clear hs hm a; rintro _ w ⟨g, rfl, -, hm⟩ a hs) | (refine stn hs rfl rfl ds_ ?_; clear hs hm a; rintro - w hm a hs)) | refine sc_ ?_)
    refine st hs rfl rfl rfl (d_call hs rfl rfl rfl (pl 60 rfl) ((rvali_c ⟨xo, xa, xb, xc, xm⟩ _))) ?_; clear hs a; rintro _ w2 ⟨b, rfl, hb, hf⟩ a hs
    replace hm := hm.pu hf
    clear hf
    have hin : code[k] ∈ code := List.getElem_mem hlt
    rw [hx] at hin
    cases b
    · repeat (first | (refine ov_ ?_; clear hs a; intro a hs) | ((with_reducible apply lCons); first | (refine dv hs gw_ rfl rfl da_ ?_; clear hs hm a; rintro _ w ⟨g, rfl, -, hm⟩ a hs) | (refine stn hs rfl rfl ds_ ?_; clear hs hm a; rintro - w hm a hs)) | refine sc_ ?_)
      exact gRet1 hs rfl rfl ⟨_, rfl, ⟨(fun e => by cases e), (fun e => absurd (hb.2 (e.inv _ hin).1) (by decide))⟩, hm.fr⟩
    have hvk := hb.1 rfl
    clear hb
    have hji := jumpB_iff xo
    rw [hjb] at hji
    have nx : (jb = true → xm < (code.length : Int)) → (xo = 15 → xm < (ss.length : Int)) → ∀ j (h : j < code.length), j < k + 1 → InG code[j] code.length ss.length := fun a1 a2 j h hj => by
      by_cases e : j = k
      · subst e; rw [hx]; exact ⟨hvk, fun e => a1 (by dsimp only at e; rw [← hjb]; exact e), a2⟩
      · exact hvl j h (by omega)
    cases jb
    · by_cases h15 : xo = 15
      · by_cases q : xm < (ss.length : Int)
        · repeat (first | (refine ov_ ?_; clear hs a; intro a hs) | ((with_reducible apply lCons); first | (refine dv hs gw_ rfl rfl da_ ?_; clear hs hm a; rintro _ w ⟨g, rfl, -, hm⟩ a hs) | (refine stn hs rfl rfl ds_ ?_; clear hs hm a; rintro - w hm a hs) | (refine dvc hs hm gw_ rfl rfl rfl rfl rfl (pl 31 rfl) (hjm _) ?_; clear hs hm a; intro w hm a hs)) | refine sc_ ?_)
          exact ⟨k + 1, by omega, hs.sub (Has.all ⟨rfl, rfl, rfl, rfl, trivial⟩), hm.sub sub_, hlt, nx (fun e => by cases e) (fun _ => q)⟩
        · repeat (first | (refine ov_ ?_; clear hs a; intro a hs) | ((with_reducible apply lCons); first | (refine dv hs gw_ rfl rfl da_ ?_; clear hs hm a; rintro _ w ⟨g, rfl, -, hm⟩ a hs) | (refine stn hs rfl rfl ds_ ?_; clear hs hm a; rintro - w hm a hs) | (refine dvc hs hm gw_ rfl rfl rfl rfl rfl (pl 31 rfl) (hjm _) ?_; clear hs hm a; intro w hm a hs)) | refine sc_ ?_)
          exact gRet1 hs rfl rfl ⟨_, rfl, ⟨(fun e => by cases e), (fun e => absurd ((e.inv _ hin).2.2 h15) q)⟩, hm.fr⟩
      · repeat (first | (refine ov_ ?_; clear hs a; intro a hs) | ((with_reducible apply lCons); first | (refine dv hs gw_ rfl rfl da_ ?_; clear hs hm a; rintro _ w ⟨g, rfl, -, hm⟩ a hs) | (refine stn hs rfl rfl ds_ ?_; clear hs hm a; rintro - w hm a hs) | (refine dvc hs hm gw_ rfl rfl rfl rfl rfl (pl 31 rfl) (hjm _) ?_; clear hs hm a; intro w hm a hs)) | refine sc_ ?_)
        exact ⟨k + 1, by omega, hs.sub (Has.all ⟨rfl, rfl, rfl, rfl, trivial⟩), hm.sub sub_, hlt, nx (fun e => by cases e) (fun e => absurd e h15)⟩
    · have hyj := hji.1 rfl
      by_cases q : xm < (code.length : Int)
      · repeat (first | (refine ov_ ?_; clear hs a; intro a hs) | ((with_reducible apply lCons); first | (refine dv hs gw_ rfl rfl da_ ?_; clear hs hm a; rintro _ w ⟨g, rfl, -, hm⟩ a hs) | (refine stn hs rfl rfl ds_ ?_; clear hs hm a; rintro - w hm a hs) | (refine dvc hs hm gw_ rfl rfl rfl rfl rfl (pl 31 rfl) (hjm _) ?_; clear hs hm a; intro w hm a hs)) | refine sc_ ?_)
        exact ⟨k + 1, by omega, hs.sub (Has.all ⟨rfl, rfl, rfl, rfl, trivial⟩), hm.sub sub_, hlt, nx (fun _ => q) (fun e => by omega)⟩
      · repeat (first | (refine ov_ ?_; clear hs a; intro a hs) | ((with_reducible apply lCons); first | (refine dv hs gw_ rfl rfl da_ ?_; clear hs hm a; rintro _ w ⟨g, rfl, -, hm⟩ a hs) | (refine stn hs rfl rfl ds_ ?_; clear hs hm a; rintro - w hm a hs) | (refine dvc hs hm gw_ rfl rfl rfl rfl rfl (pl 31 rfl) (hjm _) ?_; clear hs hm a; intro w hm a hs)) | refine sc_ ?_)
        exact gRet1 hs rfl rfl ⟨_, rfl, ⟨(fun e => by cases e), (fun e => absurd ((e.inv _ hin).2.1 hjb) q)⟩, hm.fr⟩
  · repeat (first | (refine ov_ ?_; clear hs a; intro a hs) | ((with_reducible apply lCons); first | (refine dv hs gw_ rfl rfl da_ ?_; clear hs hm a; rintro _ w ⟨g, rfl, -, hm⟩ a hs) | (refine stn hs rfl rfl ds_ ?_; clear hs hm a; rintro - w hm a hs)) | refine sc_ ?_)
    exact gRet1 hs rfl rfl ⟨_, rfl, ⟨(fun _ => ⟨hsz, hwl, hfit, by dsimp only; omega, by dsimp only; omega, fun i hi => by obtain ⟨j, hj, e⟩ := List.getElem_of_mem hi; dsimp only at hj; rw [← e]; exact hvl j hj (by omega)⟩), (fun _ => rfl)⟩, hm.fr⟩
end Go.Proofs.YtajkekhnfobgiaaGreatDoor

/- Texts put together, read, compared; the text of one instruction. -/
namespace Go.Proofs.YtajkekhnfobgiaaGreatDoor
set_option maxRecDepth 20000
open Go.RowKit
theorem ovXAsh0_ {G H : Prop} (k : H) (s : H → G := by intro k; (with_reducible refine toL hm ?_); first | exact oneV hs gw_ rfl rfl (by intro w hm; (first | exact kv_ | exact r_sadd hs rfl rfl rfl (by first | (simp only [List.length_cons, List.length_nil]; omega) | (simp only [List.length_append, List.length_cons, List.length_nil]; omega)))) k | exact oneN hs rfl rfl rfl rfl rfl rfl rfl k | exact oneU hs rfl rfl rfl rfl rfl rfl k) : G := s k

section
variable {P : Program} {N : Nat} {L : List (Nat × Value)} {a : Act} {w : World} {o : Oper} {x y : Operand} {T : List (Nat × TI)}
theorem txv_add (l m : List UInt8) : (⟨l.toArray⟩ ++ ⟨m.toArray⟩ : ByteArray) = ⟨(l ++ m).toArray⟩ := by
  apply ByteArray.ext
  simp [ByteArray.data_append]
theorem r_sadd {t yt : TypeId} {l m : List UInt8} (hs : Sl N L a) (ho : o.op = .binOp .add t x y yt) (hx : ev L x = some (txv l)) (hy : ev L y = some (txv m)) (hl : l.length + m.length ≤ 9223372036854775807) : RunV P a o w (txv (l ++ m)) := by
  replace hx := hs.ev hx; replace hy := hs.ev hy
  unfold txv at *
  rw [← txv_add]
  have h1 : ∀ l : List UInt8, ByteArray.size ⟨l.toArray⟩ = l.length := fun l => by simp [ByteArray.size]
  unfold RunV execOp
  have h2 : ¬ (9223372036854775807 < ((ByteArray.size ⟨l.toArray⟩ : Nat) : Int) + ((ByteArray.size ⟨m.toArray⟩ : Nat) : Int)) := by
    rw [h1, h1]; omega
  simp only [ho, hx, hy, binOp, Op.stringOp]
  simp [h2, eqGuard]
theorem r_sidx {t : TypeId} {i : TI} {l : List UInt8} {k : Nat} {c : UInt8} (hs : Sl N L a) (ho : o.op = .index t x y) (hx : ev L x = some (txv l)) (hy : ev L y = some (.int .i64 (k : Int))) (hT : TabOk P T) (hc : tlk T t = some i) (hd : i.d = .str) (hk : l[k]? = some c) : RunV P a o w (.int .u8 (c.toNat : Int)) := by
  replace hx := hs.ev hx; replace hy := hs.ev hy
  unfold txv at hx
  have h1 : (⟨l.toArray⟩ : ByteArray)[k]? = some c := by
    rw [← hk]
    have : (⟨l.toArray⟩ : ByteArray).size = l.length := by simp [ByteArray.size]
    by_cases h : k < l.length
    · rw [List.getElem?_eq_getElem h, getElem?_pos _ k (by rw [this]; exact h)]
      simp [ByteArray.getElem_eq_getElem_data]
    · rw [List.getElem?_eq_none (by omega), getElem?_neg _ k (by rw [this]; exact h)]
  unfold RunV execOp
  simp [ho, hx, hy, Instr.index, asIntOf, run_und ((hT _ _ hc).str hd), h1]
theorem txv_eql (l m : List UInt8) : ((⟨l.toArray⟩ : ByteArray).toList == (⟨m.toArray⟩ : ByteArray).toList) = decide (l = m) := by
  rw [ByteArray.toList_mk, ByteArray.toList_mk]
  by_cases h : l = m
  · subst h; simp
  · simp [h]
end



theorem itL_len {n : Int} (h : -9223372036854775808 ≤ n ∧ n ≤ 9223372036854775807) : (Lib.itoa n).length ≤ 21 := Lib.itoa_length_le n h.1 h.2
theorem nameL_len (op : Int) : (nameL op).length ≤ 3 := by
  unfold nameL
  split
  · cases h : nmL[op.toNat]? with
    | none => exact Nat.zero_le _
    | some x =>
      have : ∀ y ∈ nmL, y.length ≤ 3 := by decide
      exact this x (List.mem_of_getElem? h)
  · exact Nat.zero_le _
def regW (u : Bool) (v : Int) : List (List UInt8) := if u then [114 :: Lib.itoa v] else []
def lastW (jb u : Bool) (v : Int) : List (List UInt8) := if jb then [108 :: Lib.itoa v] else if u then [Lib.itoa v] else []
/-- the words of an instruction behind k of its registers -/
def wk (i : In) : Nat → List (List UInt8)
  | 0 => [nameL i.op]
  | 1 => [nameL i.op] ++ regW (usesF i.op).1 i.a
  | 2 => [nameL i.op] ++ regW (usesF i.op).1 i.a ++ regW (usesF i.op).2.1 i.b
  | _ => [nameL i.op] ++ regW (usesF i.op).1 i.a ++ regW (usesF i.op).2.1 i.b ++ regW (usesF i.op).2.2.1 i.c
def wordsL (i : In) : List (List UInt8) := wk i 3 ++ lastW (jumpB i.op) (usesF i.op).2.2.2 i.m
/-- the text of an instruction -/
def lineL (i : In) : List UInt8 := Lib.join (wordsL i) [32]
structure InI (i : In) : Prop where
  a : -9223372036854775808 ≤ i.a ∧ i.a ≤ 9223372036854775807
  b : -9223372036854775808 ≤ i.b ∧ i.b ≤ 9223372036854775807
  c : -9223372036854775808 ≤ i.c ∧ i.c ≤ 9223372036854775807
  m : -9223372036854775808 ≤ i.m ∧ i.m ≤ 9223372036854775807
theorem VlP.ini {i : In} (h : VlP i) : InI i := by
  obtain ⟨⟨_, h2, h3, h4, h5, _, _⟩, _⟩ := h
  exact ⟨by omega, by omega, by omega, by omega⟩
theorem regW_len (u : Bool) {v : Int} (h : -9223372036854775808 ≤ v ∧ v ≤ 9223372036854775807) : (regW u v).length ≤ 1 ∧ ∀ x ∈ regW u v, x.length ≤ 22 := by
  unfold regW
  cases u
  · exact ⟨Nat.zero_le _, fun x hx => absurd hx List.not_mem_nil⟩
  · refine ⟨Nat.le_refl _, fun x hx => ?_⟩
    rw [if_pos rfl, List.mem_singleton] at hx
    subst hx
    have := itL_len h
    rw [List.length_cons]; omega
theorem lastW_len (jb u : Bool) {v : Int} (h : -9223372036854775808 ≤ v ∧ v ≤ 9223372036854775807) : (lastW jb u v).length ≤ 1 ∧ ∀ x ∈ lastW jb u v, x.length ≤ 22 := by
  unfold lastW
  have := itL_len h
  cases jb
  · cases u
    · exact ⟨Nat.zero_le _, fun x hx => absurd hx List.not_mem_nil⟩
    · refine ⟨Nat.le_refl _, fun x hx => ?_⟩
      rw [if_neg (by decide), if_pos rfl, List.mem_singleton] at hx
      subst hx; omega
  · refine ⟨Nat.le_refl _, fun x hx => ?_⟩
    rw [if_pos rfl, List.mem_singleton] at hx
    subst hx
    rw [List.length_cons]; omega
theorem words_len {i : In} (h : InI i) : (wordsL i).length ≤ 5 ∧ ∀ x ∈ wordsL i, x.length ≤ 22 := by
  obtain ⟨a1, a2⟩ := regW_len (usesF i.op).1 h.a
  obtain ⟨b1, b2⟩ := regW_len (usesF i.op).2.1 h.b
  obtain ⟨c1, c2⟩ := regW_len (usesF i.op).2.2.1 h.c
  obtain ⟨m1, m2⟩ := lastW_len (jumpB i.op) (usesF i.op).2.2.2 h.m
  unfold wordsL wk
  refine ⟨by simp only [List.length_append, List.length_singleton]; omega, fun x hx => ?_⟩
  simp only [List.mem_append, List.mem_singleton] at hx
  rcases hx with (((rfl | hx) | hx) | hx) | hx
  · have := nameL_len i.op; omega
  · exact a2 x hx
  · exact b2 x hx
  · exact c2 x hx
  · exact m2 x hx
theorem lens_le {B : Nat} : ∀ xs : List (List UInt8), (∀ x ∈ xs, x.length ≤ B) → Lib.lens xs ≤ xs.length * B
  | [], _ => Nat.le_of_eq (by simp [Lib.lens])
  | x :: t, h => by
    have h1 := lens_le t fun y hy => h y (List.mem_cons_of_mem _ hy)
    have h2 := h x (List.mem_cons_self ..)
    have h3 : Lib.lens (x :: t) = x.length + Lib.lens t := by simp [Lib.lens]
    rw [h3, List.length_cons, Nat.succ_mul]; omega
theorem join_le {B : Nat} (xs : List (List UInt8)) (sep : List UInt8) (h : ∀ x ∈ xs, x.length ≤ B) : (Lib.join xs sep).length ≤ xs.length * B + sep.length * xs.length := by
  cases xs with
  | nil => rw [Lib.join_nil]; exact Nat.zero_le _
  | cons x t =>
    rw [Lib.join_length]
    have := lens_le (x :: t) h
    rw [List.length_cons] at *
    have : sep.length * t.length ≤ sep.length * (t.length + 1) := Nat.mul_le_mul_left _ (Nat.le_succ _)
    omega
theorem lineL_len {i : In} (h : InI i) : (lineL i).length ≤ 200 := by
  obtain ⟨h1, h2⟩ := words_len h
  have h3 := join_le (wordsL i) [32] h2
  unfold lineL
  have : (wordsL i).length * 22 ≤ 5 * 22 := Nat.mul_le_mul_right _ h1
  rw [List.length_singleton] at h3
  omega

theorem label_c (k : Int) (wB : World) (hk : -9223372036854775808 ≤ k ∧ k ≤ 9223372036854775807) (ht : TW wB) : Ret Tryz.prog 36 [.int .i64 k] wB (fun u w' => u = txv (108 :: Lib.itoa k) ∧ Pu wB w') := by
  have hi := fun w'' (hf : Pu wB w'') => itoa_c k w'' hk.1 hk.2 (ht.pu hf)
  have hl := itL_len hk
  refine enterR Tryz.func36 rfl rfl rfl fun a hs hm => ?_
  repeat (first | (refine ovXAsh0_ ?_; clear hs a; intro a hs) | ((with_reducible apply lCons); first | (refine dv hs gw_ rfl rfl da_ ?_; clear hs hm a; rintro _ w ⟨g, rfl, -, hm⟩ a hs) | (refine stn hs rfl rfl ds_ ?_; clear hs hm a; rintro - w hm a hs) | (refine dvc hs hm gw_ rfl rfl rfl rfl rfl (pl 34 rfl) (hi _ hm.fr) ?_; clear hs hm a; intro w hm a hs)) | refine sc_ ?_)
  exact gRet1 hs rfl rfl ⟨rfl, hm.fr⟩
end Go.Proofs.YtajkekhnfobgiaaGreatDoor

/- The text of one instruction, by the program. -/
namespace Go.Proofs.YtajkekhnfobgiaaGreatDoor
set_option maxRecDepth 20000
open Go.RowKit
theorem ovXAsi0_ {G H : Prop} (k : H) (s : H → G := by intro k; (with_reducible refine toL hm ?_); first | exact oneV hs gw_ rfl rfl (by intro w hm; (first | exact kv_ | exact r_sadd hs rfl rfl rfl (by first | (simp only [List.length_cons, List.length_nil]; omega) | (simp only [List.length_append, List.length_cons, List.length_nil]; omega)))) k | exact oneN hs rfl rfl rfl rfl rfl rfl rfl k | exact oneU hs rfl rfl rfl rfl rfl rfl k) : G := s k

structure LnX where
  k : Nat
  A : Option Nat
  c : Nat
  cs : List Value

set_option maxHeartbeats 16000000 in
theorem line_c (i : In) (wB : World) (hI : InI i) (ht : TW wB) : Ret Tryz.prog 37 [inA i] wB (fun u w' => u = txv (lineL i) ∧ Pu wB w') := by
  have hn := fun w'' (hf : Pu wB w'') => name_c i.op w'' (ht.pu hf)
  have hfl := fun w => flds_c i.op w
  have hjm := fun w => jmps_c i.op w
  have hia := fun w'' (hf : Pu wB w'') => itoa_c i.a w'' hI.a.1 hI.a.2 (ht.pu hf)
  have hib := fun w'' (hf : Pu wB w'') => itoa_c i.b w'' hI.b.1 hI.b.2 (ht.pu hf)
  have hic := fun w'' (hf : Pu wB w'') => itoa_c i.c w'' hI.c.1 hI.c.2 (ht.pu hf)
  have him := fun w'' (hf : Pu wB w'') => itoa_c i.m w'' hI.m.1 hI.m.2 (ht.pu hf)
  have hla := fun w'' (hf : Pu wB w'') => label_c i.m w'' hI.m (ht.pu hf)
  have lla := itL_len hI.a
  have llb := itL_len hI.b
  have llc := itL_len hI.c
  obtain ⟨wl1, wl2⟩ := words_len hI
  have hLL := join_le (wordsL i) [32] wl2
  rw [List.length_singleton] at hLL
  have hLL2 : (Lib.join (wordsL i) [32]).length ≤ 140737488355328 := by
    have : (wordsL i).length * 22 ≤ 5 * 22 := Nat.mul_le_mul_right _ wl1
    omega
  clear hLL
  unfold lineL
  have hy : wordsL i = wk i 3 ++ lastW (jumpB i.op) (usesF i.op).2.2.2 i.m := rfl
  have y1 : wk i 1 = wk i 0 ++ regW (usesF i.op).1 i.a := rfl
  have y2 : wk i 2 = wk i 1 ++ regW (usesF i.op).2.1 i.b := rfl
  have y3 : wk i 3 = wk i 2 ++ regW (usesF i.op).2.2.1 i.c := rfl
  have l3 : (wk i 3).length ≤ 5 := by rw [hy, List.length_append] at wl1; omega
  have l2 : (wk i 2).length ≤ (wk i 3).length := by rw [y3, List.length_append]; omega
  have l1 : (wk i 1).length ≤ (wk i 2).length := by rw [y2, List.length_append]; omega
  have l0 : (wk i 0).length ≤ (wk i 1).length := by rw [y1, List.length_append]; omega
  obtain ⟨⟨u1, u2, u3, u4⟩, hu⟩ : ∃ u, usesF i.op = u := ⟨_, rfl⟩
  obtain ⟨jb, hjb⟩ : ∃ b, jumpB i.op = b := ⟨_, rfl⟩
  rw [hu] at hfl y1 y2 y3 hy
  rw [hjb] at hjm hy
  unfold u4V at hfl
  dsimp only at hfl y1 y2 y3 hy
  refine enterR Tryz.func37 rfl rfl rfl fun a hs hm => ?_
  unfold inA at hs
  repeat (first | (refine ovXAsi0_ ?_; clear hs a; intro a hs) | ((with_reducible apply lCons); first | (refine dv hs gw_ rfl rfl da_ ?_; clear hs hm a; rintro _ w ⟨g, rfl, -, hm⟩ a hs) | (refine stn hs rfl rfl ds_ ?_; clear hs hm a; rintro - w hm a hs) | (refine dvc hs hm gw_ rfl rfl rfl rfl rfl (pl 15 rfl) (hn _ hm.fr) ?_; clear hs hm a; intro w hm a hs) | (refine dvc hs hm gw_ rfl rfl rfl rfl rfl (pl 58 rfl) (hfl _) ?_; clear hs hm a; intro w hm a hs)) | refine sc_ ?_)
  obtain ⟨g1, en_⟩ := hs.pt 1 (by exact rfl); subst en_
  obtain ⟨g4, en_⟩ := hs.pt 4 (by exact rfl); subst en_
  obtain ⟨g10, en_⟩ := hs.ps 10 (by exact rfl); subst en_
  obtain ⟨g29, en_⟩ := hs.ps 29 (by exact rfl); subst en_
  have hb := hm.sel (M' := [⟨some g10, 9, [txv (nameL i.op)]⟩, ⟨some g29, 103, [.bool u1, .int .i64 i.a, .bool u2, .int .i64 i.b, .bool u3, .int .i64 i.c]⟩, ⟨some g4, 101, [.bool u1, .bool u2, .bool u3, .bool u4]⟩, ⟨some g1, 54, [.int .i64 i.op, .int .i64 i.a, .int .i64 i.b, .int .i64 i.c, .int .i64 i.m]⟩]) [2, 0, 1, 3] (by decide) rfl
  clear hm
  refine cLoop (X := LnX) (fun X a w' => Sl Tryz.f37.ntmps [(1, .pointer (some ⟨g1, 0, none⟩)), (4, .pointer (some ⟨g4, 0, none⟩)), (3, slv X.A (wk i X.k).length X.c), (29, .slice (some ⟨g29, 0, none⟩) 3 3), (30, .int .i64 3), (31, .int .i64 (X.k : Int))] a ∧ Mm (fun _ => False) wB [⟨X.A, 9, X.cs⟩, ⟨some g29, 103, [.bool u1, .int .i64 i.a, .bool u2, .int .i64 i.b, .bool u3, .int .i64 i.c]⟩, ⟨some g4, 101, [.bool u1, .bool u2, .bool u3, .bool u4]⟩, ⟨some g1, 54, [.int .i64 i.op, .int .i64 i.a, .int .i64 i.b, .int .i64 i.c, .int .i64 i.m]⟩] w' ∧ X.k ≤ 3 ∧ Row X.A (wk i X.k).length X.c 1 ((wk i X.k).map txv) X.cs) (fun X => 3 - X.k) ⟨0, some g10, 1, [txv (nameL i.op)]⟩ ⟨hs.sub (Has.all ⟨rfl, rfl, rfl, rfl, rfl, rfl, trivial⟩), hb, Nat.zero_le _, row_lit rfl (by show 1 ≤ 1000; omega)⟩ ?_
  clear hs hb a
  rintro ⟨k, A, c, cs⟩ a w' ⟨hs, hm, hk, hr⟩
  dsimp only at hs hm hk hr
  rcases (by omega : k = 0 ∨ k = 1 ∨ k = 2 ∨ k = 3) with rfl | rfl | rfl | rfl
  · cases u1
    · repeat (first | (refine ovXAsi0_ ?_; clear hs a; intro a hs) | ((with_reducible apply lCons); first | (refine dv hs gw_ rfl rfl da_ ?_; clear hs hm a; rintro _ w ⟨g, rfl, -, hm⟩ a hs) | (refine stn hs rfl rfl ds_ ?_; clear hs hm a; rintro - w hm a hs)) | refine sc_ ?_)
      have e : (wk i 1) = (wk i 0) := by rw [y1]; exact List.append_nil _
      refine ⟨⟨1, A, c, cs⟩, by dsimp only; omega, ?_⟩
      dsimp only
      rw [e]
      exact ⟨hs.sub (Has.all ⟨rfl, rfl, rfl, rfl, rfl, rfl, trivial⟩), hm.sub sub_, by omega, hr⟩
    · repeat (first | (refine ovXAsi0_ ?_; clear hs a; intro a hs) | ((with_reducible apply lCons); first | (refine dv hs gw_ rfl rfl da_ ?_; clear hs hm a; rintro _ w ⟨g, rfl, -, hm⟩ a hs) | (refine stn hs rfl rfl ds_ ?_; clear hs hm a; rintro - w hm a hs) | (refine dvc hs hm gw_ rfl rfl rfl rfl rfl (pl 34 rfl) (hia _ hm.fr) ?_; clear hs hm a; intro w hm a hs)) | refine sc_ ?_)
      refine dv hs (Wnt.none rfl) rfl rfl (d_append (A := A) (n := (wk i 0).length) (c := c) (news := [txv ([114] ++ Lib.itoa i.a)]) hs rfl rfl rfl rfl rfl tab rfl rfl rfl rfl rfl hm mem_ hr rfl (hm.ro (n := 1) mem_ (cutF_ok rfl)) rfl (by show ((wk i 0).length + 1) * 16 ≤ _; omega) (by omega)) ?_
      clear hs
      rintro _ w2 ⟨A2, c2, cs2, rfl, hr2, hM⟩ a hs
      replace hm := hM _ rep_
      clear hM
      rw [show (wk i 0).map txv ++ [txv ([114] ++ Lib.itoa i.a)] = ((wk i 0) ++ [114 :: Lib.itoa i.a]).map txv by rw [List.map_append]; rfl, show (wk i 0).length + 1 = ((wk i 0) ++ [114 :: Lib.itoa i.a]).length by rw [List.length_append]; rfl] at hr2
      rw [show (wk i 0).length + 1 = ((wk i 0) ++ [114 :: Lib.itoa i.a]).length by rw [List.length_append]; rfl] at hs
      repeat (first | (refine ovXAsi0_ ?_; clear hs a; intro a hs) | ((with_reducible apply lCons); first | (refine dv hs gw_ rfl rfl da_ ?_; clear hs hm a; rintro _ w ⟨g, rfl, -, hm⟩ a hs) | (refine stn hs rfl rfl ds_ ?_; clear hs hm a; rintro - w hm a hs)) | refine sc_ ?_)
      have e : (wk i 1) = (wk i 0) ++ [114 :: Lib.itoa i.a] := y1
      refine ⟨⟨1, A2, c2, cs2⟩, by dsimp only; omega, ?_⟩
      dsimp only
      rw [e]
      exact ⟨hs.sub (Has.all ⟨rfl, rfl, rfl, rfl, rfl, rfl, trivial⟩), hm.sub sub_, by omega, hr2⟩
  · cases u2
    · repeat (first | (refine ovXAsi0_ ?_; clear hs a; intro a hs) | ((with_reducible apply lCons); first | (refine dv hs gw_ rfl rfl da_ ?_; clear hs hm a; rintro _ w ⟨g, rfl, -, hm⟩ a hs) | (refine stn hs rfl rfl ds_ ?_; clear hs hm a; rintro - w hm a hs)) | refine sc_ ?_)
      have e : (wk i 2) = (wk i 1) := by rw [y2]; exact List.append_nil _
      refine ⟨⟨2, A, c, cs⟩, by dsimp only; omega, ?_⟩
      dsimp only
      rw [e]
      exact ⟨hs.sub (Has.all ⟨rfl, rfl, rfl, rfl, rfl, rfl, trivial⟩), hm.sub sub_, by omega, hr⟩
    · repeat (first | (refine ovXAsi0_ ?_; clear hs a; intro a hs) | ((with_reducible apply lCons); first | (refine dv hs gw_ rfl rfl da_ ?_; clear hs hm a; rintro _ w ⟨g, rfl, -, hm⟩ a hs) | (refine stn hs rfl rfl ds_ ?_; clear hs hm a; rintro - w hm a hs) | (refine dvc hs hm gw_ rfl rfl rfl rfl rfl (pl 34 rfl) (hib _ hm.fr) ?_; clear hs hm a; intro w hm a hs)) | refine sc_ ?_)
      refine dv hs (Wnt.none rfl) rfl rfl (d_append (A := A) (n := (wk i 1).length) (c := c) (news := [txv ([114] ++ Lib.itoa i.b)]) hs rfl rfl rfl rfl rfl tab rfl rfl rfl rfl rfl hm mem_ hr rfl (hm.ro (n := 1) mem_ (cutF_ok rfl)) rfl (by show ((wk i 1).length + 1) * 16 ≤ _; omega) (by omega)) ?_
      clear hs
      rintro _ w2 ⟨A2, c2, cs2, rfl, hr2, hM⟩ a hs
      replace hm := hM _ rep_
      clear hM
      rw [show (wk i 1).map txv ++ [txv ([114] ++ Lib.itoa i.b)] = ((wk i 1) ++ [114 :: Lib.itoa i.b]).map txv by rw [List.map_append]; rfl, show (wk i 1).length + 1 = ((wk i 1) ++ [114 :: Lib.itoa i.b]).length by rw [List.length_append]; rfl] at hr2
      rw [show (wk i 1).length + 1 = ((wk i 1) ++ [114 :: Lib.itoa i.b]).length by rw [List.length_append]; rfl] at hs
      repeat (first | (refine ovXAsi0_ ?_; clear hs a; intro a hs) | ((with_reducible apply lCons); first | (refine dv hs gw_ rfl rfl da_ ?_; clear hs hm a; rintro _ w ⟨g, rfl, -, hm⟩ a hs) | (refine stn hs rfl rfl ds_ ?_; clear hs hm a; rintro - w hm a hs)) | refine sc_ ?_)
      have e : (wk i 2) = (wk i 1) ++ [114 :: Lib.itoa i.b] := y2
      refine ⟨⟨2, A2, c2, cs2⟩, by dsimp only; omega, ?_⟩
      dsimp only
      rw [e]
      exact ⟨hs.sub (Has.all ⟨rfl, rfl, rfl, rfl, rfl, rfl, trivial⟩), hm.sub sub_, by omega, hr2⟩
  · cases u3
    · repeat (first | (refine ovXAsi0_ ?_; clear hs a; intro a hs) | ((with_reducible apply lCons); first | (refine dv hs gw_ rfl rfl da_ ?_; clear hs hm a; rintro _ w ⟨g, rfl, -, hm⟩ a hs) | (refine stn hs rfl rfl ds_ ?_; clear hs hm a; rintro - w hm a hs)) | refine sc_ ?_)
      have e : (wk i 3) = (wk i 2) := by rw [y3]; exact List.append_nil _
      refine ⟨⟨3, A, c, cs⟩, by dsimp only; omega, ?_⟩
      dsimp only
      rw [e]
      exact ⟨hs.sub (Has.all ⟨rfl, rfl, rfl, rfl, rfl, rfl, trivial⟩), hm.sub sub_, by omega, hr⟩
    · repeat (first | (refine ovXAsi0_ ?_; clear hs a; intro a hs) | ((with_reducible apply lCons); first | (refine dv hs gw_ rfl rfl da_ ?_; clear hs hm a; rintro _ w ⟨g, rfl, -, hm⟩ a hs) | (refine stn hs rfl rfl ds_ ?_; clear hs hm a; rintro - w hm a hs) | (refine dvc hs hm gw_ rfl rfl rfl rfl rfl (pl 34 rfl) (hic _ hm.fr) ?_; clear hs hm a; intro w hm a hs)) | refine sc_ ?_)
      refine dv hs (Wnt.none rfl) rfl rfl (d_append (A := A) (n := (wk i 2).length) (c := c) (news := [txv ([114] ++ Lib.itoa i.c)]) hs rfl rfl rfl rfl rfl tab rfl rfl rfl rfl rfl hm mem_ hr rfl (hm.ro (n := 1) mem_ (cutF_ok rfl)) rfl (by show ((wk i 2).length + 1) * 16 ≤ _; omega) (by omega)) ?_
      clear hs
      rintro _ w2 ⟨A2, c2, cs2, rfl, hr2, hM⟩ a hs
      replace hm := hM _ rep_
      clear hM
      rw [show (wk i 2).map txv ++ [txv ([114] ++ Lib.itoa i.c)] = ((wk i 2) ++ [114 :: Lib.itoa i.c]).map txv by rw [List.map_append]; rfl, show (wk i 2).length + 1 = ((wk i 2) ++ [114 :: Lib.itoa i.c]).length by rw [List.length_append]; rfl] at hr2
      rw [show (wk i 2).length + 1 = ((wk i 2) ++ [114 :: Lib.itoa i.c]).length by rw [List.length_append]; rfl] at hs
      repeat (first | (refine ovXAsi0_ ?_; clear hs a; intro a hs) | ((with_reducible apply lCons); first | (refine dv hs gw_ rfl rfl da_ ?_; clear hs hm a; rintro _ w ⟨g, rfl, -, hm⟩ a hs) | (refine stn hs rfl rfl ds_ ?_; clear hs hm a; rintro - w hm a hs)) | refine sc_ ?_)
      have e : (wk i 3) = (wk i 2) ++ [114 :: Lib.itoa i.c] := y3
      refine ⟨⟨3, A2, c2, cs2⟩, by dsimp only; omega, ?_⟩
      dsimp only
      rw [e]
      exact ⟨hs.sub (Has.all ⟨rfl, rfl, rfl, rfl, rfl, rfl, trivial⟩), hm.sub sub_, by omega, hr2⟩
  · cases jb
    · cases u4
      · have e : wordsL i = wk i 3 := by rw [hy]; exact List.append_nil _
        repeat (first | (refine ovXAsi0_ ?_; clear hs a; intro a hs) | ((with_reducible apply lCons); first | (refine dv hs gw_ rfl rfl da_ ?_; clear hs hm a; rintro _ w ⟨g, rfl, -, hm⟩ a hs) | (refine stn hs rfl rfl ds_ ?_; clear hs hm a; rintro - w hm a hs) | (refine dvc hs hm gw_ rfl rfl rfl rfl rfl (pl 35 rfl) (hjm _) ?_; clear hs hm a; intro w hm a hs)) | refine sc_ ?_)
        rw [e] at hLL2 ⊢
        refine st hs rfl rfl rfl (d_call hs rfl rfl rfl (pl 19 rfl) ((join_c ⟨A.map fun g => ⟨g, 0, none⟩, c, wk i 3⟩ [32] _ ⟨hr.le, hm.rd_row mem_ hr⟩ (by dsimp only; omega) hLL2))) ?_; clear hs a; rintro _ w3 ⟨rfl, hf⟩ a hs
        replace hm := hm.pu hf
        clear hf
        repeat (first | (refine ovXAsi0_ ?_; clear hs a; intro a hs) | ((with_reducible apply lCons); first | (refine dv hs gw_ rfl rfl da_ ?_; clear hs hm a; rintro _ w ⟨g, rfl, -, hm⟩ a hs) | (refine stn hs rfl rfl ds_ ?_; clear hs hm a; rintro - w hm a hs)) | refine sc_ ?_)
        exact gRet1 hs rfl rfl ⟨rfl, hm.fr⟩
      · have e : wordsL i = wk i 3 ++ [Lib.itoa i.m] := hy
        repeat (first | (refine ovXAsi0_ ?_; clear hs a; intro a hs) | ((with_reducible apply lCons); first | (refine dv hs gw_ rfl rfl da_ ?_; clear hs hm a; rintro _ w ⟨g, rfl, -, hm⟩ a hs) | (refine stn hs rfl rfl ds_ ?_; clear hs hm a; rintro - w hm a hs) | (refine dvc hs hm gw_ rfl rfl rfl rfl rfl (pl 35 rfl) (hjm _) ?_; clear hs hm a; intro w hm a hs) | (refine dvc hs hm gw_ rfl rfl rfl rfl rfl (pl 34 rfl) (him _ hm.fr) ?_; clear hs hm a; intro w hm a hs)) | refine sc_ ?_)
        refine dv hs (Wnt.none rfl) rfl rfl (d_append (A := A) (n := (wk i 3).length) (c := c) (news := [txv (Lib.itoa i.m)]) hs rfl rfl rfl rfl rfl tab rfl rfl rfl rfl rfl hm mem_ hr rfl (hm.ro (n := 1) mem_ (cutF_ok rfl)) rfl (by show ((wk i 3).length + 1) * 16 ≤ _; omega) (by omega)) ?_
        clear hs
        rintro _ w2 ⟨A2, c2, cs2, rfl, hr2, hM⟩ a hs
        replace hm := hM _ rep_
        clear hM
        rw [show (wk i 3).map txv ++ [txv (Lib.itoa i.m)] = ((wk i 3) ++ [Lib.itoa i.m]).map txv by rw [List.map_append]; rfl, show (wk i 3).length + 1 = ((wk i 3) ++ [Lib.itoa i.m]).length by rw [List.length_append]; rfl] at hr2
        rw [show (wk i 3).length + 1 = ((wk i 3) ++ [Lib.itoa i.m]).length by rw [List.length_append]; rfl] at hs
        repeat (first | (refine ovXAsi0_ ?_; clear hs a; intro a hs) | ((with_reducible apply lCons); first | (refine dv hs gw_ rfl rfl da_ ?_; clear hs hm a; rintro _ w ⟨g, rfl, -, hm⟩ a hs) | (refine stn hs rfl rfl ds_ ?_; clear hs hm a; rintro - w hm a hs)) | refine sc_ ?_)
        rw [e] at hLL2 wl1 ⊢
        refine st hs rfl rfl rfl (d_call hs rfl rfl rfl (pl 19 rfl) ((join_c ⟨A2.map fun g => ⟨g, 0, none⟩, c2, wk i 3 ++ [Lib.itoa i.m]⟩ [32] _ ⟨hr2.le, hm.rd_row mem_ hr2⟩ (by dsimp only; omega) hLL2))) ?_; clear hs a; rintro _ w3 ⟨rfl, hf⟩ a hs
        replace hm := hm.pu hf
        clear hf
        repeat (first | (refine ovXAsi0_ ?_; clear hs a; intro a hs) | ((with_reducible apply lCons); first | (refine dv hs gw_ rfl rfl da_ ?_; clear hs hm a; rintro _ w ⟨g, rfl, -, hm⟩ a hs) | (refine stn hs rfl rfl ds_ ?_; clear hs hm a; rintro - w hm a hs)) | refine sc_ ?_)
        exact gRet1 hs rfl rfl ⟨rfl, hm.fr⟩
    · have e : wordsL i = wk i 3 ++ [108 :: Lib.itoa i.m] := hy
      repeat (first | (refine ovXAsi0_ ?_; clear hs a; intro a hs) | ((with_reducible apply lCons); first | (refine dv hs gw_ rfl rfl da_ ?_; clear hs hm a; rintro _ w ⟨g, rfl, -, hm⟩ a hs) | (refine stn hs rfl rfl ds_ ?_; clear hs hm a; rintro - w hm a hs) | (refine dvc hs hm gw_ rfl rfl rfl rfl rfl (pl 35 rfl) (hjm _) ?_; clear hs hm a; intro w hm a hs) | (refine dvc hs hm gw_ rfl rfl rfl rfl rfl (pl 36 rfl) (hla _ hm.fr) ?_; clear hs hm a; intro w hm a hs)) | refine sc_ ?_)
      refine dv hs (Wnt.none rfl) rfl rfl (d_append (A := A) (n := (wk i 3).length) (c := c) (news := [txv (108 :: Lib.itoa i.m)]) hs rfl rfl rfl rfl rfl tab rfl rfl rfl rfl rfl hm mem_ hr rfl (hm.ro (n := 1) mem_ (cutF_ok rfl)) rfl (by show ((wk i 3).length + 1) * 16 ≤ _; omega) (by omega)) ?_
      clear hs
      rintro _ w2 ⟨A2, c2, cs2, rfl, hr2, hM⟩ a hs
      replace hm := hM _ rep_
      clear hM
      rw [show (wk i 3).map txv ++ [txv (108 :: Lib.itoa i.m)] = ((wk i 3) ++ [108 :: Lib.itoa i.m]).map txv by rw [List.map_append]; rfl, show (wk i 3).length + 1 = ((wk i 3) ++ [108 :: Lib.itoa i.m]).length by rw [List.length_append]; rfl] at hr2
      rw [show (wk i 3).length + 1 = ((wk i 3) ++ [108 :: Lib.itoa i.m]).length by rw [List.length_append]; rfl] at hs
      repeat (first | (refine ovXAsi0_ ?_; clear hs a; intro a hs) | ((with_reducible apply lCons); first | (refine dv hs gw_ rfl rfl da_ ?_; clear hs hm a; rintro _ w ⟨g, rfl, -, hm⟩ a hs) | (refine stn hs rfl rfl ds_ ?_; clear hs hm a; rintro - w hm a hs)) | refine sc_ ?_)
      rw [e] at hLL2 wl1 ⊢
      refine st hs rfl rfl rfl (d_call hs rfl rfl rfl (pl 19 rfl) ((join_c ⟨A2.map fun g => ⟨g, 0, none⟩, c2, wk i 3 ++ [108 :: Lib.itoa i.m]⟩ [32] _ ⟨hr2.le, hm.rd_row mem_ hr2⟩ (by dsimp only; omega) hLL2))) ?_; clear hs a; rintro _ w3 ⟨rfl, hf⟩ a hs
      replace hm := hm.pu hf
      clear hf
      repeat (first | (refine ovXAsi0_ ?_; clear hs a; intro a hs) | ((with_reducible apply lCons); first | (refine dv hs gw_ rfl rfl da_ ?_; clear hs hm a; rintro _ w ⟨g, rfl, -, hm⟩ a hs) | (refine stn hs rfl rfl ds_ ?_; clear hs hm a; rintro - w hm a hs)) | refine sc_ ?_)
      exact gRet1 hs rfl rfl ⟨rfl, hm.fr⟩
end Go.Proofs.YtajkekhnfobgiaaGreatDoor

/- A map of numbers to bools: what is in it; a Builder in a walk. -/
namespace Go.Proofs.YtajkekhnfobgiaaGreatDoor
set_option maxRecDepth 20000
open Go.RowKit

theorem mapT : Tryz.prog.underlying 52 = some (.map 3 4) := by kernel_rfl
theorem intT : Tryz.prog.underlying 3 = some (.int .i64) := by kernel_rfl
theorem boolT : Tryz.prog.underlying 4 = some .bool := by kernel_rfl
theorem boolZv (w : World) : (zeroValue 4).run Tryz.prog w = .ok (.bool false) w := run_zero (tab _ _ (show tlk TAB 4 = some _ from rfl))
/-- block b is a map of at most n numbers; f says of which it holds true -/
def MB (b n : Nat) (f : Int → Bool) (w : World) : Prop := ∃ D : DataW Unit, w.ownsMap Tryz.prog 3 (plainElem Tryz.prog 4) b n D ∧ Maps.IsMap D ∧ ∀ t, (Lit.int .i64 t).wf = true → D.atKey (.int .i64 t) (.lit (.bool false)) = .lit (.bool (f t))
theorem fr_grown {w w' : World} {S : Nat → Prop} (h : Fr S w w') {b : Nat} (hb : ¬ S b) : ∀ blk, w.heap[b]? = some blk → w'.heap[b]? = some blk := fun blk e => by
  have hlt := (Array.getElem?_eq_some_iff.1 e).1
  rw [h.block b hlt hb]; exact e
theorem MB.keep {S : Nat → Prop} {b n : Nat} {f : Int → Bool} {w w' : World} (h : MB b n f w) (hf : Fr S w w') (hb : ¬ S b) : MB b n f w' := by
  obtain ⟨D, ⟨es, clock, hbk, r⟩, h2⟩ := h
  exact ⟨D, ⟨es, clock, fr_grown hf hb _ hbk, r⟩, h2⟩
theorem MB.lt {b n : Nat} {f : Int → Bool} {w : World} (h : MB b n f w) : b < w.heap.size := by
  obtain ⟨D, h1, _⟩ := h
  exact h1.lt
theorem MB.made (w : World) : MB w.heap.size 0 (fun _ => false) (w.alloc (.map #[] 0)) := ⟨.map [], World.ownsMap_made w _ _ _, Maps.isMap_empty, fun _ _ => rfl⟩
section
variable {N : Nat} {L : List (Nat × Value)} {a : Act} {w w0 : World} {S : Nat → Prop} {M : List Hp} {o : Oper} {x y z : Operand}
theorem r_look {b n : Nat} {f : Int → Bool} {k : Int} (hs : Sl N L a) (ho : o.op = .lookup 52 x y false) (hx : ev L x = some (.map (some b))) (hy : ev L y = some (.int .i64 k)) (hk : (Lit.int .i64 k).wf = true) (h : MB b n f w0) (hm : Mm S w0 M w) (hb : ¬ S b) : RunV Tryz.prog a o w (.bool (f k)) := by
  replace hx := hs.ev hx; replace hy := hs.ev hy
  obtain ⟨D, h1, h2, h3⟩ := h.keep hm.fr hb
  obtain ⟨v, ps, hrun, hv⟩ := h1.lookup (Maps.int_keyed intT) mapT (boolZv w) (plainElem_bool boolT false) (Maps.keyOf_int_mk intT hk)
  rw [h3 k hk] at hv
  have hv' : v = .bool (f k) := by
    unfold plainElem at hv
    rw [boolT] at hv
    cases v <;> simp at hv
    obtain ⟨rfl, _⟩ := hv
    rfl
  subst hv'
  unfold RunV
  unfold execOp
  simp [ho, hx, hy, hrun]
theorem d_mapUp {b n : Nat} {f : Int → Bool} {k : Int} (hs : Sl N L a) (ho : o.op = .mapUpdate 52 x y z) (hx : ev L x = some (.map (some b))) (hy : ev L y = some (.int .i64 k)) (hz : ev L z = some (.bool true)) (hk : (Lit.int .i64 k).wf = true) (h : MB b n f w) (hn : n < maxLen) : Does Tryz.prog a o w (fun _ w' => MB b (n + 1) (fun t => decide (t = k) || f t) w' ∧ Fr (fun i => i = b) w w') := by
  replace hx := hs.ev hx; replace hy := hs.ev hy; replace hz := hs.ev hz
  obtain ⟨D, h1, h2, h3⟩ := h
  obtain ⟨w', hrun, hown, hgr⟩ := h1.update (Maps.int_keyed intT) mapT hn (Maps.keyOf_int_mk intT hk) (plainElem_bool boolT true)
  unfold Does execOp
  simp [ho, hx, hy, hz, hrun]
  refine ⟨⟨_, hown, h2.put _ _, fun t ht => ?_⟩, ⟨hgr.os, hgr.tape, hgr.output, hgr.size, fun i hi hb => hgr.block i hi (fun e => hb (Option.some.inj e))⟩⟩
  show _ = DataW.lit (.bool (decide (t = k) || f t))
  by_cases e : t = k
  · subst e
    rw [show (decide (t = t) || f t) = true by simp]
    exact Maps.atKey_put_same h2 ((Maps.int_keyed intT).key (Maps.keyOf_int_mk intT hk)) _ _
  · rw [show (decide (t = k) || f t) = f t by simp [e], Maps.atKey_put_other (fun h => e (by injection h)), h3 t ht]
theorem d_makeMap (ho : o.op = .makeMap 52 none) (hm : Mm S w0 M w) : Does Tryz.prog a o w (fun v w' => v = .map (some w.heap.size) ∧ MB w.heap.size 0 (fun _ => false) w' ∧ Pu w w' ∧ Mm S w0 M w') := by
  have hrun := run_makeMap (P := Tryz.prog) 52 w
  unfold Does execOp
  simp [ho, hrun]
  exact ⟨MB.made w, (Fr.refl _ w).alloc _, hm.pu ((Fr.refl _ w).alloc _)⟩
end
theorem IsBd.pu {B b : Nat} {bs : List Value} {w w' : World} (h : IsBd B b bs w) (hf : Pu w w') : IsBd B b bs w' := by
  have key : ∀ p, BAt B b p bs w → BAt B b p bs w' := fun p h => by
    have hlt := h.lt
    obtain ⟨hB, v, hb, hown, hne⟩ := h
    exact ⟨hB, v, by rw [hf.block b hlt (fun t => t)]; exact hb, hf.own hown (fun _ _ t => t), hne⟩
  exact h.elim (fun h => .inl (key _ h)) (fun h => .inr (key _ h))
theorem txv_sz (m : List UInt8) : ByteArray.size ⟨m.toArray⟩ = m.length := by simp [ByteArray.size]
theorem Ro.pu_ {w w' : World} {b o : Nat} {vs : List Value} (h : Ro w b o vs) (hf : Pu w w') : Ro w' b o vs := fun j v hj => hf.cl (h j v hj) (fun t => t)
theorem wsR (B b : Nat) (l m : List UInt8) (w : World) (h : IsBd B b (Lib.byteCells l) w) (hlen : l.length + m.length ≤ 1000000000) (hBw : B ≤ w.heap.size) :
    Ret Tryz.prog 33 [.pointer (some ⟨b, 0, none⟩), txv m] w (fun _ w' => IsBd B b (Lib.byteCells (l ++ m)) w' ∧ Below B w w' ∧ Kept w w') :=
  ⟨Calls.mono (ws_c B b (Lib.byteCells l) ⟨m.toArray⟩ w h (by rw [Lib.byteCells_length, txv_sz]; omega) hBw) fun _ _ ⟨h1, h2, h3, h4⟩ => ⟨_, h1, .inr (by
    have e : Lib.byteCells (l ++ m) = Lib.byteCells l ++ Lib.strCells ⟨m.toArray⟩ := by simp [Lib.byteCells, Lib.strCells]
    rw [e]; exact h2), h3, h4⟩⟩
theorem bsR (B b : Nat) (l : List UInt8) (w : World) (h : IsBd B b (Lib.byteCells l) w) (hBw : B ≤ w.heap.size) :
    Ret Tryz.prog 38 [.pointer (some ⟨b, 0, none⟩)] w (fun u w' => u = txv l ∧ Below B w w') :=
  ⟨Calls.mono (Tryz.Builder_String_any B b l w h hBw) fun _ _ ⟨h1, h2⟩ => ⟨_, h1, rfl, h2⟩⟩
theorem Pu.below_ {w0 w w' : World} (hf : Pu w0 w) (hb : Below w0.heap.size w w') : Pu w0 w' := Fr.of_below (hf.below.trans hb)
theorem Mm.kept {w0 w w' : World} {M : List Hp} (hm : Mm (fun _ => False) w0 M w) (hf : Pu w0 w') (hk : Kept w w') (ht : ∀ x ∈ M, x.t ≠ 69 ∧ x.t ≠ 5) : Mm (fun _ => False) w0 M w' :=
  ⟨fun x hx => by
    have h1 := hm.me x hx
    have h2 := ht x hx
    obtain ⟨g, t, cs⟩ := x
    cases g with
    | none => exact h1
    | some g => exact hk.blk h1 h2.1 h2.2, hf, hm.dj, hm.ow⟩
theorem MB.kept {b n : Nat} {f : Int → Bool} {w w' : World} (h : MB b n f w) (hk : Kept w w') : MB b n f w' := by
  obtain ⟨D, ⟨es, clock, hbk, r⟩, h2⟩ := h
  exact ⟨D, ⟨es, clock, hk _ _ hbk (fun _ _ e => by cases e) (fun _ _ e => by cases e), r⟩, h2⟩
theorem IsBd.upd {B b gm n : Nat} {f : Int → Bool} {bs : List Value} {w w' : World} (h : IsBd B b bs w) (hm : MB gm n f w) (hf : Fr (fun i => i = gm) w w') : IsBd B b bs w' := by
  obtain ⟨D, ⟨es, clock, hbk, _⟩, _⟩ := hm
  have hne : ∀ (k : Nat) (cs : Array Value) (t : TypeId) (fz : Nat × Nat), w.heap[k]? = some (.cells cs t fz) → k ≠ gm := fun k cs t fz hk e => by
    subst e
    rw [hbk] at hk
    cases hk
  have key : ∀ p, BAt B b p bs w → BAt B b p bs w' := fun p h => by
    have hlt := h.lt
    obtain ⟨hB, v, hb, hown, hn⟩ := h
    refine ⟨hB, v, by rw [hf.block b hlt (hne b _ _ _ hb)]; exact hb, hf.own hown (fun k hk => ?_), hn⟩
    rcases hown.2 with ⟨rfl, _⟩ | ⟨g', cap', cur', rfl, hg', hh', hc', _⟩
    · cases hk
    · obtain rfl : g' = k := Option.some.inj hk
      exact hne g' _ _ _ hh'
  exact h.elim (fun h => .inl (key _ h)) (fun h => .inr (key _ h))
theorem IsBd.new {w0 w : World} {g : Nat} {M : List Hp} (hm : Mm (fun _ => False) w0 M w) (h : ⟨some g, 69, [.pointer none, .slice none 0 0]⟩ ∈ M) : IsBd w0.heap.size g (Lib.byteCells []) w := .inl ⟨by
    rcases hm.ow _ h g rfl with h | h
    · exact h
    · exact h.elim, .slice none 0 0, hm.me _ h, World.ownsRow_nil _ _ _ _, by simp [Value.ownBlock]⟩
end Go.Proofs.YtajkekhnfobgiaaGreatDoor

/- The text of a program: the model; the program's Print. -/
namespace Go.Proofs.YtajkekhnfobgiaaGreatDoor
set_option maxRecDepth 20000
open Go.RowKit

def wdL (y : Int) : List UInt8 := 32 :: Lib.itoa y
def rgH (n : Int) : List UInt8 := [114, 101, 103, 105, 111, 110, 32] ++ Lib.itoa n
def rgL (n : Int) (xs : List Int) : List UInt8 := rgH n ++ xs.flatMap wdL ++ [10]
def tgB (code : List In) (k : Int) : Bool := code.any fun i => jumpB i.op && decide (i.m = k)
def lbL (k : Int) : List UInt8 := (108 :: Lib.itoa k) ++ [58, 10]
def cdL (code : List In) (k : Nat) (i : In) : List UInt8 := (if tgB code (k : Int) then lbL (k : Int) else []) ++ (lineL i ++ [10])
def rgsL (ss : List Int) (ws : List WV) (k : Nat) : List UInt8 := (List.range k).flatMap fun j => rgL (ss.getD j 0) (ws.getD j ⟨none, 0, []⟩).xs
def cdsL (code : List In) (k : Nat) : List UInt8 := (List.range k).flatMap fun j => cdL code j (code.getD j ⟨0, 0, 0, 0, 0⟩)
def textP (p : PV) : List UInt8 := rgsL p.ss p.ws p.ss.length ++ cdsL p.code p.code.length
theorem rgsL_succ (ss : List Int) (ws : List WV) (k : Nat) : rgsL ss ws (k + 1) = rgsL ss ws k ++ rgL (ss.getD k 0) (ws.getD k ⟨none, 0, []⟩).xs := by
  unfold rgsL
  rw [List.range_succ, List.flatMap_append]; simp
theorem cdsL_succ (code : List In) (k : Nat) : cdsL code (k + 1) = cdsL code k ++ cdL code k (code.getD k ⟨0, 0, 0, 0, 0⟩) := by
  unfold cdsL
  rw [List.range_succ, List.flatMap_append]; simp
theorem wdL_len {y : Int} (h : 0 ≤ y ∧ y ≤ 65535) : (wdL y).length ≤ 22 := by
  have := itL_len (n := y) (by omega)
  unfold wdL; rw [List.length_cons]; omega
theorem wds_le : ∀ xs : List Int, (∀ y ∈ xs, 0 ≤ y ∧ y ≤ 65535) → (xs.flatMap wdL).length ≤ xs.length * 22
  | [], _ => Nat.zero_le _
  | x :: t, h => by
    have h1 := wds_le t fun y hy => h y (List.mem_cons_of_mem _ hy)
    have h2 := wdL_len (h x (List.mem_cons_self ..))
    rw [List.flatMap_cons, List.length_append, List.length_cons]; omega
theorem rgH_len {n : Int} (h : 0 ≤ n ∧ n ≤ 65535) : (rgH n).length ≤ 28 := by
  have := itL_len (n := n) (by omega)
  unfold rgH; rw [List.length_append]; simp only [List.length_cons, List.length_nil]; omega
theorem rgL_len {n : Int} {xs : List Int} (h : 0 ≤ n ∧ n ≤ 65535) (hx : ∀ y ∈ xs, 0 ≤ y ∧ y ≤ 65535) (hl : xs.length ≤ 32) : (rgL n xs).length ≤ 740 := by
  have h1 := rgH_len h
  have h2 := wds_le xs hx
  unfold rgL
  rw [List.length_append, List.length_append, List.length_singleton]
  omega
theorem cdL_len (code : List In) (k : Nat) {i : In} (hk : k ≤ 1000) (h : InI i) : (cdL code k i).length ≤ 230 := by
  have h1 := lineL_len h
  have h2 := itL_len (n := (k : Int)) (by omega)
  unfold cdL lbL
  rw [List.length_append, List.length_append, List.length_singleton]
  split
  · rw [List.length_append, List.length_cons]; simp only [List.length_cons, List.length_nil]; omega
  · simp only [List.length_nil]; omega
structure GoodS (p : PV) : Prop where
  s : ∀ k (h : k < p.ss.length), 1 ≤ p.ss[k] ∧ p.ss[k] ≤ 32
  x : ∀ k (h : k < p.ws.length), (p.ws[k]).xs.length ≤ 32 ∧ ∀ y ∈ (p.ws[k]).xs, 0 ≤ y ∧ y ≤ 65535
theorem GoodP.gs {p : PV} (h : GoodP p) (hs : p.sm) : GoodS p := by
  refine ⟨fun k hk => h.sz.bd _ (List.getElem_mem hk), fun k hk => ⟨?_, (hs.x _ (List.getElem_mem hk)).2⟩⟩
  have h1 : k < p.ss.length := by rw [← h.wl]; exact hk
  have h2 := h.fit k hk h1
  have h3 := h.sz.bd _ (List.getElem_mem h1)
  omega
theorem rgsL_len {p : PV} (h : GoodP p) (hs : p.sm) : ∀ k, k ≤ p.ss.length → (rgsL p.ss p.ws k).length ≤ k * 740
  | 0, _ => Nat.zero_le _
  | k + 1, hk => by
    have h1 := rgsL_len h hs k (by omega)
    have hg := h.gs hs
    have h2 := hg.s k (by omega)
    have h3 := hg.x k (by rw [h.wl]; omega)
    rw [rgsL_succ, List.length_append, List.getD_eq_getElem?_getD, List.getElem?_eq_getElem (show k < p.ss.length by omega), List.getD_eq_getElem?_getD, List.getElem?_eq_getElem (show k < p.ws.length by rw [h.wl]; omega)]
    have := rgL_len (n := p.ss[k]) (by omega) h3.2 h3.1
    simp only [Option.getD_some]
    omega
theorem cdsL_len {p : PV} (h : GoodP p) : ∀ k, k ≤ p.code.length → (cdsL p.code k).length ≤ k * 230
  | 0, _ => Nat.zero_le _
  | k + 1, hk => by
    have h1 := cdsL_len h k (by omega)
    have h2 := h.c2
    rw [cdsL_succ, List.length_append, List.getD_eq_getElem?_getD, List.getElem?_eq_getElem (show k < p.code.length by omega)]
    have := cdL_len p.code k (i := p.code[k]) (by omega) (h.inv _ (List.getElem_mem _)).1.ini
    simp only [Option.getD_some]
    omega
theorem tgB_take (code : List In) (k : Nat) (hk : k < code.length) (t : Int) : tgB (code.take (k + 1)) t = (tgB (code.take k) t || (jumpB (code[k]).op && decide ((code[k]).m = t))) := by
  unfold tgB
  rw [List.take_succ_eq_append_getElem hk, List.any_append]
  simp
end Go.Proofs.YtajkekhnfobgiaaGreatDoor

/- The program's Print. -/
namespace Go.Proofs.YtajkekhnfobgiaaGreatDoor
set_option maxRecDepth 20000
open Go.RowKit
theorem ovXAsl0_ {G H : Prop} (k : H) (s : H → G := by intro k; (with_reducible refine toL hm ?_); first | exact oneV hs gw_ rfl rfl (by intro w hm; (first | exact kvR_ | exact kb2_ | exact r_sadd hs rfl rfl rfl (by first | (simp only [List.length_cons, List.length_nil]; omega) | (simp only [List.length_append, List.length_cons, List.length_nil]; omega)))) k | exact oneN hs rfl rfl rfl rfl rfl rfl rfl k | exact oneU hs rfl rfl rfl rfl rfl rfl k) : G := s k

theorem blk_ro {w : World} {g : Nat} {t : TypeId} {cs : List Value} (h : Blk w g t cs.toArray) : Ro w g 0 cs := fun j v hj => by
  have hm : Mm (fun _ => True) w [⟨some g, t, cs⟩] w := ⟨fun x hx => by rcases List.mem_singleton.1 hx with rfl; exact h, Fr.refl _ w, ⟨(fun x hx => absurd hx List.not_mem_nil), trivial⟩, fun x _ g _ => .inr trivial⟩
  rw [Nat.zero_add]
  exact (hm.at_ (List.mem_singleton.2 rfl) j).trans hj


set_option maxHeartbeats 16000000 in
theorem print_c (p : PV) (wB : World) (hp : p.ok wB) (hsm : p.sm) (ht : TW wB) : Ret Tryz.prog 13 [p.v] wB (fun u w' => (GoodP p → u = .tuple #[txv (textP p), .int .i64 0]) ∧ (¬ GoodP p → u = .tuple #[txv [], .int .i64 1]) ∧ Pu wB w') := by
  by_cases hG : GoodP p
  case neg =>
    refine enterR Tryz.func13 rfl rfl rfl fun a hs hm => ?_
    repeat (first | (refine ovXAsl0_ ?_; clear hs a; intro a hs) | ((with_reducible apply lCons); first | (refine dv hs gw_ rfl rfl da_ ?_; clear hs hm a; rintro _ w ⟨g, rfl, -, hm⟩ a hs) | (refine stn hs rfl rfl ds_ ?_; clear hs hm a; rintro - w hm a hs)) | refine sc_ ?_)
    refine st hs rfl rfl rfl (d_call hs rfl rfl rfl (pl 32 rfl) ((chk_c p _ (hp.pu hm.fr) hsm))) ?_; clear hs a; rintro _ w1 ⟨e, rfl, he, hf⟩ a hs
    replace hm := hm.pu hf
    clear hf
    have he0 : e ≠ 0 := fun e0 => hG (he.1 e0)
    repeat (first | (refine ovXAsl0_ ?_; clear hs a; intro a hs) | ((with_reducible apply lCons); first | (refine dv hs gw_ rfl rfl da_ ?_; clear hs hm a; rintro _ w ⟨g, rfl, -, hm⟩ a hs) | (refine stn hs rfl rfl ds_ ?_; clear hs hm a; rintro - w hm a hs)) | refine sc_ ?_)
    exact gRetN tab hs rfl (.cons (.tmp rfl) (.cons (.tmp rfl) .nil)) ⟨fun h => absurd h hG, fun _ => rfl, hm.fr⟩
  have hgs := hG.gs hsm
  have hrl := fun k hk => rgsL_len hG hsm k hk
  have hcl := fun k hk => cdsL_len hG k hk
  have hin := fun k (hk : k < p.code.length) => (hG.inv _ (List.getElem_mem hk)).1
  have z1 := hG.sz.one
  have z2 := hG.sz.four
  have z3 := hG.wl
  have z4 := hG.c1
  have z5 := hG.c2
  refine enterR Tryz.func13 rfl rfl rfl fun a hs hm => ?_
  repeat (first | (refine ovXAsl0_ ?_; clear hs a; intro a hs) | ((with_reducible apply lCons); first | (refine dv hs gw_ rfl rfl da_ ?_; clear hs hm a; rintro _ w ⟨g, rfl, -, hm⟩ a hs) | (refine stn hs rfl rfl ds_ ?_; clear hs hm a; rintro - w hm a hs)) | refine sc_ ?_)
  refine st hs rfl rfl rfl (d_call hs rfl rfl rfl (pl 32 rfl) ((chk_c p _ (hp.pu hm.fr) hsm))) ?_; clear hs a; rintro _ w1 ⟨e, rfl, he, hf⟩ a hs
  replace hm := hm.pu hf
  clear hf
  obtain rfl := he.2 hG
  obtain ⟨g1, en_⟩ := hs.pt 1 (by exact rfl); subst en_
  have hF0 := hm.fr
  have hp1 := hp.pu hF0
  have ht1 := ht.pu hF0
  have rg := hm.ro (k := 0) (n := 3) (g := g1) mem_ (cutF_ok rfl)
  clear hm hp ht
  have hm := Mm.nil (fun _ => False) w1
  obtain ⟨cA, cc, code, sA, sc, ss, dA, dc, ws⟩ := p
  obtain ⟨pc, ps, pd, px⟩ := hp1
  dsimp only at *
  obtain ⟨b1, o1, rfl, hb1, rc⟩ := pc.ro (by rw [flat_len inV 5 inV_len]; omega)
  obtain ⟨b2, o2, rfl, hb2, rs⟩ := ps.ro (by rw [ints_len]; omega)
  obtain ⟨b3, o3, rfl, hb3, rd⟩ := pd.ro (by rw [List.length_map]; omega)
  replace rg : Ro w1 g1 0 [.slice (some ⟨b1, o1, none⟩) code.length cc, .slice (some ⟨b2, o2, none⟩) ss.length sc, .slice (some ⟨b3, o3, none⟩) ws.length dc] := rg
  repeat (first | (refine ovXAsl0_ ?_; clear hs a; intro a hs) | ((with_reducible apply lCons); first | (refine dv hs gw_ rfl rfl da_ ?_; clear hs hm a; rintro _ w ⟨g, rfl, -, hm⟩ a hs) | (refine stn hs rfl rfl ds_ ?_; clear hs hm a; rintro - w hm a hs)) | refine sc_ ?_)
  obtain ⟨g4, en_⟩ := hs.pt 4 (by exact rfl); subst en_
  have hI : IsBd w1.heap.size g4 (Lib.byteCells (rgsL ss ws 0)) _ := IsBd.new hm mem_
  have hF := hm.fr
  refine cLoop (X := Nat) (fun k a w' => Sl Tryz.f13.ntmps [(1, .pointer (some ⟨g1, 0, none⟩)), (4, .pointer (some ⟨g4, 0, none⟩)), (18, .slice (some ⟨b2, o2, none⟩) ss.length sc), (19, .int .i64 (ss.length : Int)), (20, .int .i64 (k : Int))] a ∧ Pu w1 w' ∧ k ≤ ss.length ∧ IsBd w1.heap.size g4 (Lib.byteCells (rgsL ss ws k)) w') (fun k => ss.length - k) 0 ⟨hs.sub (Has.all ⟨rfl, rfl, rfl, rfl, rfl, trivial⟩), hF, Nat.zero_le _, hI⟩ ?_
  clear hs hm a hI hF
  rintro k a w' ⟨hs, hF, hk, hI⟩
  have hm := Mm.nil (fun _ => False) w'
  have q1 := rg.pu_ hF
  have q2 := rs.pu_ hF
  have q3 := rd.pu_ hF
  have q4 := rc.pu_ hF
  by_cases hlt : k < ss.length
  · have e1 := ints_some (xs := ss) (k := k) hlt
    have hlw : k < ws.length := by omega
    obtain ⟨sk, hsk⟩ : ∃ z, ss[k] = z := ⟨_, rfl⟩
    obtain ⟨⟨rA, rc_, rx⟩, hr⟩ : ∃ z, ws[k] = z := ⟨_, rfl⟩
    have hskb := hgs.s k hlt
    have hxb := hgs.x k hlw
    have hrx := px ws[k] (List.getElem_mem hlw)
    have e2 : (ws.map WV.v)[k]? = some (.slice rA rx.length rc_) := by rw [List.getElem?_map, List.getElem?_eq_getElem hlw, hr]; rfl
    have hnx := rgsL_succ ss ws k
    rw [List.getD_eq_getElem?_getD, List.getElem?_eq_getElem hlt, List.getD_eq_getElem?_getD, List.getElem?_eq_getElem hlw, Option.getD_some, Option.getD_some] at hnx
    have hl0 := hrl k (by omega)
    dsimp only at hskb hxb hrx
    rw [hsk] at e1 hskb hnx
    rw [hr] at hxb hrx hnx
    dsimp only at hxb hrx hnx
    have hi := fun w'' (hf : Pu w1 w'') => itoa_c sk w'' (by omega) (by omega) (ht1.pu hf)
    have hil := itL_len (n := sk) (by omega)
    repeat (first | (refine ovXAsl0_ ?_; clear hs a; intro a hs) | ((with_reducible apply lCons); first | (refine dv hs gw_ rfl rfl da_ ?_; clear hs hm a; rintro _ w ⟨g, rfl, -, hm⟩ a hs) | (refine stn hs rfl rfl ds_ ?_; clear hs hm a; rintro - w hm a hs) | (refine dvc hs hm gw_ rfl rfl rfl rfl rfl (pl 34 rfl) (hi _ (hF.pu hm.fr)) ?_; clear hs hm a; intro w hm a hs)) | refine sc_ ?_)
    replace hI := hI.pu hm.fr
    have hF2 := hF.pu hm.fr
    refine st hs rfl rfl rfl (d_call hs rfl rfl rfl (pl 33 rfl) ((wsR w1.heap.size g4 (rgsL ss ws k) (rgH sk) _ hI (by have := rgH_len (n := sk) (by omega); omega) hF2.size))) ?_; clear hs a; rintro _ w3 ⟨hI3, hb3, hk3⟩ a hs
    have hF3 := Pu.below_ hF2 hb3
    clear hm hF2 hI
    have hm := Mm.nil (fun _ => False) w3
    replace q1 := rg.pu_ hF3
    replace q2 := rs.pu_ hF3
    replace q3 := rd.pu_ hF3
    repeat (first | (refine ovXAsl0_ ?_; clear hs a; intro a hs) | ((with_reducible apply lCons); first | (refine dv hs gw_ rfl rfl da_ ?_; clear hs hm a; rintro _ w ⟨g, rfl, -, hm⟩ a hs) | (refine stn hs rfl rfl ds_ ?_; clear hs hm a; rintro - w hm a hs)) | refine sc_ ?_)
    clear q1 q2 q3 q4 hF hb3 hk3
    replace hF3 := hF3.pu hm.fr
    replace hI3 := hI3.pu hm.fr
    refine cLoop (X := Nat) (fun j a w' => Sl Tryz.f13.ntmps [(1, .pointer (some ⟨g1, 0, none⟩)), (4, .pointer (some ⟨g4, 0, none⟩)), (18, .slice (some ⟨b2, o2, none⟩) ss.length sc), (19, .int .i64 (ss.length : Int)), (20, .int .i64 (k : Int)), (33, .slice rA rx.length rc_), (34, .int .i64 (rx.length : Int)), (35, .int .i64 (j : Int))] a ∧ Pu w1 w' ∧ j ≤ rx.length ∧ IsBd w1.heap.size g4 (Lib.byteCells (rgsL ss ws k ++ rgH sk ++ (rx.take j).flatMap wdL)) w') (fun j => rx.length - j) 0 ⟨hs.sub (Has.all ⟨rfl, rfl, rfl, rfl, rfl, rfl, rfl, rfl, trivial⟩), hF3, Nat.zero_le _, by rw [List.take_zero, List.flatMap_nil, List.append_nil]; exact hI3⟩ ?_
    clear hs hm a hI3 hF3
    rintro j a w4 ⟨hs, hF, hj, hI⟩
    have hm := Mm.nil (fun _ => False) w4
    have hth := rgH_len (n := sk) (by omega)
    have htk := wds_le (rx.take j) (fun y hy => hxb.2 y (List.mem_of_mem_take hy))
    rw [List.length_take] at htk
    by_cases hlj : j < rx.length
    · obtain ⟨b5, o5, rfl, hb5, r5⟩ := hrx.ro (by unfold wds; rw [List.length_map]; omega)
      have q5 := r5.pu_ hF
      obtain ⟨yv, hyv⟩ : ∃ z, rx[j] = z := ⟨_, rfl⟩
      have hyb := hxb.2 rx[j] (List.getElem_mem hlj)
      rw [hyv] at hyb
      have e5 : (wds rx)[j]? = some (.int .u16 yv) := by unfold wds; rw [List.getElem?_map, List.getElem?_eq_getElem hlj, hyv]; rfl
      have hiy := fun w'' (hf : Pu w1 w'') => itoa_c yv w'' (by omega) (by omega) (ht1.pu hf)
      have hyl := itL_len (n := yv) (by omega)
      repeat (first | (refine ovXAsl0_ ?_; clear hs a; intro a hs) | ((with_reducible apply lCons); first | (refine dv hs gw_ rfl rfl da_ ?_; clear hs hm a; rintro _ w ⟨g, rfl, -, hm⟩ a hs) | (refine stn hs rfl rfl ds_ ?_; clear hs hm a; rintro - w hm a hs)) | refine sc_ ?_)
      rw [wrap_idP (v := yv) (by omega)] at hs
      repeat (first | (refine ovXAsl0_ ?_; clear hs a; intro a hs) | ((with_reducible apply lCons); first | (refine dv hs gw_ rfl rfl da_ ?_; clear hs hm a; rintro _ w ⟨g, rfl, -, hm⟩ a hs) | (refine stn hs rfl rfl ds_ ?_; clear hs hm a; rintro - w hm a hs) | (refine dvc hs hm gw_ rfl rfl rfl rfl rfl (pl 34 rfl) (hiy _ (hF.pu hm.fr)) ?_; clear hs hm a; intro w hm a hs)) | refine sc_ ?_)
      replace hI := hI.pu hm.fr
      have hF2 := hF.pu hm.fr
      refine st hs rfl rfl rfl (d_call hs rfl rfl rfl (pl 33 rfl) ((wsR w1.heap.size g4 (rgsL ss ws k ++ rgH sk ++ (rx.take j).flatMap wdL) (wdL yv) _ hI (by have := wdL_len hyb; rw [List.length_append, List.length_append]; omega) hF2.size))) ?_; clear hs a; rintro _ w3 ⟨hI3, hb3, hk3⟩ a hs
      have hF3 := Pu.below_ hF2 hb3
      clear hm hF2 hI
      have hm := Mm.nil (fun _ => False) w3
      repeat (first | (refine ovXAsl0_ ?_; clear hs a; intro a hs) | ((with_reducible apply lCons); first | (refine dv hs gw_ rfl rfl da_ ?_; clear hs hm a; rintro _ w ⟨g, rfl, -, hm⟩ a hs) | (refine stn hs rfl rfl ds_ ?_; clear hs hm a; rintro - w hm a hs)) | refine sc_ ?_)
      refine ⟨j + 1, by omega, hs.sub (Has.all ⟨rfl, rfl, rfl, rfl, rfl, rfl, rfl, rfl, trivial⟩), hF3.pu hm.fr, by omega, ?_⟩
      have e6 : (rx.take (j + 1)).flatMap wdL = (rx.take j).flatMap wdL ++ wdL yv := by rw [List.take_succ_eq_append_getElem hlj, List.flatMap_append, hyv]; simp
      rw [e6, ← List.append_assoc]
      exact hI3.pu hm.fr
    · rw [List.take_of_length_le (by omega)] at hI htk
      repeat (first | (refine ovXAsl0_ ?_; clear hs a; intro a hs) | ((with_reducible apply lCons); first | (refine dv hs gw_ rfl rfl da_ ?_; clear hs hm a; rintro _ w ⟨g, rfl, -, hm⟩ a hs) | (refine stn hs rfl rfl ds_ ?_; clear hs hm a; rintro - w hm a hs)) | refine sc_ ?_)
      replace hI := hI.pu hm.fr
      have hF2 := hF.pu hm.fr
      refine st hs rfl rfl rfl (d_call hs rfl rfl rfl (pl 33 rfl) ((wsR w1.heap.size g4 (rgsL ss ws k ++ rgH sk ++ rx.flatMap wdL) ([10]) _ hI (by rw [List.length_append, List.length_append, List.length_singleton]; omega) hF2.size))) ?_; clear hs a; rintro _ w3 ⟨hI3, hb3, hk3⟩ a hs
      have hF3 := Pu.below_ hF2 hb3
      clear hm hF2 hI
      have hm := Mm.nil (fun _ => False) w3
      repeat (first | (refine ovXAsl0_ ?_; clear hs a; intro a hs) | ((with_reducible apply lCons); first | (refine dv hs gw_ rfl rfl da_ ?_; clear hs hm a; rintro _ w ⟨g, rfl, -, hm⟩ a hs) | (refine stn hs rfl rfl ds_ ?_; clear hs hm a; rintro - w hm a hs)) | refine sc_ ?_)
      refine ⟨k + 1, by omega, hs.sub (Has.all ⟨rfl, rfl, rfl, rfl, rfl, trivial⟩), hF3.pu hm.fr, by omega, ?_⟩
      rw [hnx]
      unfold rgL
      rw [← List.append_assoc, ← List.append_assoc]
      exact hI3.pu hm.fr
  have hkn : k = ss.length := by omega
  subst hkn
  have hTl := hrl ss.length (Nat.le_refl _)
  have z6 : ss.length ≤ 4 := z2
  unfold textP
  dsimp only
  generalize rgsL ss ws ss.length = T1 at hI hTl ⊢
  repeat (first | (refine ovXAsl0_ ?_; clear hs a; intro a hs) | ((with_reducible apply lCons); first | (refine dv hs gw_ rfl rfl da_ ?_; clear hs hm a; rintro _ w ⟨g, rfl, -, hm⟩ a hs) | (refine stn hs rfl rfl ds_ ?_; clear hs hm a; rintro - w hm a hs)) | refine sc_ ?_)
  refine dv hs (Wnt.none rfl) rfl rfl (d_makeMap rfl hm) ?_
  rintro _ w5 ⟨rfl, hmb, hf5, -⟩ a hs
  have hgm := hF.size
  replace hF := hF.pu hf5
  replace hI := hI.pu hf5
  obtain ⟨gm, hgs_⟩ : ∃ g, w'.heap.size = g := ⟨_, rfl⟩
  rw [hgs_] at hs hmb hgm
  clear hm hf5 q1 q2 q3 q4 hgs_ hk
  have hm := Mm.nil (fun _ => False) w5
  have q1 := rg.pu_ hF
  repeat (first | (refine ovXAsl0_ ?_; clear hs a; intro a hs) | ((with_reducible apply lCons); first | (refine dv hs gw_ rfl rfl da_ ?_; clear hs hm a; rintro _ w ⟨g, rfl, -, hm⟩ a hs) | (refine stn hs rfl rfl ds_ ?_; clear hs hm a; rintro - w hm a hs)) | refine sc_ ?_)
  clear q1
  replace hI := hI.pu hm.fr
  replace hmb := hmb.keep hm.fr (fun t => t)
  replace hF := hF.pu hm.fr
  have cwf : ∀ v : Int, 0 ≤ v ∧ v ≤ 1000000 → (Lit.int .i64 v).wf = true := fun v h => by simp [Lit.wf, IntKind.min, IntKind.max, IntKind.signed, IntKind.bits]; omega
  refine cLoop (X := Nat × Nat) (fun X a w' => Sl Tryz.f13.ntmps [(1, .pointer (some ⟨g1, 0, none⟩)), (4, .pointer (some ⟨g4, 0, none⟩)), (9, .map (some gm)), (49, .slice (some ⟨b1, o1, none⟩) code.length cc), (50, .int .i64 (code.length : Int)), (51, .int .i64 (X.1 : Int))] a ∧ Pu w1 w' ∧ X.1 ≤ code.length ∧ X.2 ≤ X.1 ∧ IsBd w1.heap.size g4 (Lib.byteCells T1) w' ∧ MB gm X.2 (tgB (code.take X.1)) w') (fun X => code.length - X.1) (0, 0) ⟨hs.sub (Has.all ⟨rfl, rfl, rfl, rfl, rfl, rfl, trivial⟩), hF, Nat.zero_le _, Nat.le_refl _, hI, hmb⟩ ?_
  clear hs hm a hI hF hmb
  rintro ⟨k, n⟩ a w' ⟨hs, hF, hk, hn, hI, hmb⟩
  dsimp only at hs hk hn hmb
  have hm := Mm.nil (fun _ => False) w'
  have q1 := rg.pu_ hF
  have q4 := rc.pu_ hF
  by_cases hlt : k < code.length
  · obtain ⟨x, hx⟩ : ∃ z, code[k] = z := ⟨_, rfl⟩
    have hin_ := (hG.inv _ (List.getElem_mem hlt)).1
    have hrk := q4.flat inV_len hlt
    have htk := tgB_take code k hlt
    rw [hx] at hrk hin_ htk
    obtain ⟨xo, xa, xb, xc, xm⟩ := x
    unfold inV at hrk
    dsimp only at hrk htk
    have hwf : (Lit.int .i64 xm).wf = true := by
      have := hin_.1.m
      dsimp only at this
      exact cwf xm (by omega)
    have hjm := fun w => jmps_c xo w
    obtain ⟨jb, hjb⟩ : ∃ z, jumpB xo = z := ⟨_, rfl⟩
    rw [hjb] at hjm htk
    cases jb
    · repeat (first | (refine ovXAsl0_ ?_; clear hs a; intro a hs) | ((with_reducible apply lCons); first | (refine dv hs gw_ rfl rfl da_ ?_; clear hs hm a; rintro _ w ⟨g, rfl, -, hm⟩ a hs) | (refine stn hs rfl rfl ds_ ?_; clear hs hm a; rintro - w hm a hs) | (refine dvc hs hm gw_ rfl rfl rfl rfl rfl (pl 35 rfl) (hjm _) ?_; clear hs hm a; intro w hm a hs)) | refine sc_ ?_)
      refine ⟨(k + 1, n), by dsimp only; omega, hs.sub (Has.all ⟨rfl, rfl, rfl, rfl, rfl, rfl, trivial⟩), hF.pu hm.fr, by dsimp only; omega, by dsimp only; omega, hI.pu hm.fr, ?_⟩
      dsimp only
      rw [show tgB (code.take (k + 1)) = tgB (code.take k) from funext fun t => by rw [htk]; simp]
      exact hmb.keep hm.fr (fun t => t)
    · repeat (first | (refine ovXAsl0_ ?_; clear hs a; intro a hs) | ((with_reducible apply lCons); first | (refine dv hs gw_ rfl rfl da_ ?_; clear hs hm a; rintro _ w ⟨g, rfl, -, hm⟩ a hs) | (refine stn hs rfl rfl ds_ ?_; clear hs hm a; rintro - w hm a hs) | (refine dvc hs hm gw_ rfl rfl rfl rfl rfl (pl 35 rfl) (hjm _) ?_; clear hs hm a; intro w hm a hs)) | refine sc_ ?_)
      replace hmb := hmb.keep hm.fr (fun t => t)
      replace hI := hI.pu hm.fr
      replace hF := hF.pu hm.fr
      clear hm
      refine stn hs rfl rfl (d_mapUp hs rfl rfl rfl rfl hwf hmb (by unfold maxLen; omega)) ?_
      rintro - w3 ⟨hmb3, hf3⟩ a hs
      replace hI := hI.upd hmb hf3
      replace hF := hF.then hf3 (fun i hi e => by omega)
      clear hf3 hmb
      have hm := Mm.nil (fun _ => False) w3
      repeat (first | (refine ovXAsl0_ ?_; clear hs a; intro a hs) | ((with_reducible apply lCons); first | (refine dv hs gw_ rfl rfl da_ ?_; clear hs hm a; rintro _ w ⟨g, rfl, -, hm⟩ a hs) | (refine stn hs rfl rfl ds_ ?_; clear hs hm a; rintro - w hm a hs)) | refine sc_ ?_)
      refine ⟨(k + 1, n + 1), by dsimp only; omega, hs.sub (Has.all ⟨rfl, rfl, rfl, rfl, rfl, rfl, trivial⟩), hF.pu hm.fr, by dsimp only; omega, by dsimp only; omega, hI.pu hm.fr, ?_⟩
      dsimp only
      rw [show tgB (code.take (k + 1)) = fun t => decide (t = xm) || tgB (code.take k) t from funext fun t => by rw [htk, Bool.true_and, Bool.or_comm]; congr 1; simp only [eq_comm]]
      exact hmb3.keep hm.fr (fun t => t)
  obtain rfl : k = code.length := by omega
  rw [List.take_length] at hmb
  clear q4 hlt hk
  repeat (first | (refine ovXAsl0_ ?_; clear hs a; intro a hs) | ((with_reducible apply lCons); first | (refine dv hs gw_ rfl rfl da_ ?_; clear hs hm a; rintro _ w ⟨g, rfl, -, hm⟩ a hs) | (refine stn hs rfl rfl ds_ ?_; clear hs hm a; rintro - w hm a hs)) | refine sc_ ?_)
  clear q1
  replace hI := hI.pu hm.fr
  replace hmb := hmb.keep hm.fr (fun t => t)
  replace hF := hF.pu hm.fr
  refine cLoop (X := Nat) (fun k a w' => Sl Tryz.f13.ntmps [(1, .pointer (some ⟨g1, 0, none⟩)), (4, .pointer (some ⟨g4, 0, none⟩)), (9, .map (some gm)), (63, .slice (some ⟨b1, o1, none⟩) code.length cc), (64, .int .i64 (code.length : Int)), (65, .int .i64 (k : Int))] a ∧ Pu w1 w' ∧ k ≤ code.length ∧ IsBd w1.heap.size g4 (Lib.byteCells (T1 ++ cdsL code k)) w' ∧ MB gm n (tgB code) w') (fun k => code.length - k) 0 ⟨hs.sub (Has.all ⟨rfl, rfl, rfl, rfl, rfl, rfl, trivial⟩), hF, Nat.zero_le _, by rw [show cdsL code 0 = [] from rfl, List.append_nil]; exact hI, hmb⟩ ?_
  clear hs hm a hI hF hmb
  rintro k a w' ⟨hs, hF, hk, hI, hmb⟩
  have hm := Mm.nil (fun _ => False) w'
  have q4 := rc.pu_ hF
  by_cases hlt : k < code.length
  · obtain ⟨x, hx⟩ : ∃ z, code[k] = z := ⟨_, rfl⟩
    have hin_ := (hG.inv _ (List.getElem_mem hlt)).1
    have hrk := q4.flat inV_len hlt
    have hcs := cdsL_succ code k
    rw [List.getD_eq_getElem?_getD, List.getElem?_eq_getElem hlt, Option.getD_some] at hcs
    have hcl1 := hcl k (by omega)
    rw [hx] at hrk hin_ hcs
    have hln := lineL_len hin_.ini
    have hxl : x = ⟨x.op, x.a, x.b, x.c, x.m⟩ := rfl
    have hwk := cwf (k : Int) (by omega)
    obtain ⟨tg, htg⟩ : ∃ b, tgB code (k : Int) = b := ⟨_, rfl⟩
    have hil := itL_len (n := (k : Int)) (by omega)
    have hlb := fun w'' (hf : Pu w1 w'') => label_c (k : Int) w'' (by omega) (ht1.pu hf)
    have hll := fun w'' (hf : Pu w1 w'') => line_c x w'' hin_.ini (ht1.pu hf)
    unfold cdL at hcs
    rw [htg] at hcs
    have hl10 : (lineL x ++ [10]).length = (lineL x).length + 1 := by rw [List.length_append]; rfl
    have hlbl : (lbL (k : Int)).length = (Lib.itoa (k : Int)).length + 3 := by unfold lbL; rw [List.length_append]; rfl
    repeat (first | (refine ovXAsl0_ ?_; clear hs a; intro a hs) | ((with_reducible apply lCons); first | (refine dv hs gw_ rfl rfl da_ ?_; clear hs hm a; rintro _ w ⟨g, rfl, -, hm⟩ a hs) | (refine stn hs rfl rfl ds_ ?_; clear hs hm a; rintro - w hm a hs)) | refine sc_ ?_)
    obtain ⟨g13, en_⟩ := hs.pt 13 (by exact rfl); subst en_
    refine toL hm (oneV hs (Wnt.none rfl) rfl rfl (by intro w hm; exact r_look hs rfl rfl rfl hwk hmb hm (fun t => t)) ?_)
    clear hs a
    intro a hs
    rw [htg] at hs
    refine cMid (fun a w => Sl Tryz.f13.ntmps [(1, .pointer (some ⟨g1, 0, none⟩)), (4, .pointer (some ⟨g4, 0, none⟩)), (9, .map (some gm)), (63, .slice (some ⟨b1, o1, none⟩) code.length cc), (64, .int .i64 (code.length : Int)), (65, .int .i64 (k : Int)), (13, .pointer (some ⟨g13, 0, none⟩))] a ∧ Pu w1 w ∧ Blk w g13 54 (inV x).toArray ∧ IsBd w1.heap.size g4 (Lib.byteCells (T1 ++ cdsL code k ++ if tg = true then lbL (k : Int) else [])) w ∧ MB gm n (tgB code) w) ?_ ?_
    · cases tg
      · repeat (first | (refine ovXAsl0_ ?_; clear hs a; intro a hs) | ((with_reducible apply lCons); first | (refine dv hs gw_ rfl rfl da_ ?_; clear hs hm a; rintro _ w ⟨g, rfl, -, hm⟩ a hs) | (refine stn hs rfl rfl ds_ ?_; clear hs hm a; rintro - w hm a hs)) | refine sc_ ?_)
        have r13 : Blk w g13 54 (inV x).toArray := hm.me _ (List.mem_cons_self ..)
        exact ⟨rfl, hs.sub (Has.all ⟨rfl, rfl, rfl, rfl, rfl, rfl, rfl, trivial⟩), hF.pu hm.fr, r13, by rw [if_neg (by decide), List.append_nil]; exact hI.pu hm.fr, hmb.keep hm.fr (fun t => t)⟩
      · repeat (first | (refine ovXAsl0_ ?_; clear hs a; intro a hs) | ((with_reducible apply lCons); first | (refine dv hs gw_ rfl rfl da_ ?_; clear hs hm a; rintro _ w ⟨g, rfl, -, hm⟩ a hs) | (refine stn hs rfl rfl ds_ ?_; clear hs hm a; rintro - w hm a hs) | (refine dvc hs hm gw_ rfl rfl rfl rfl rfl (pl 36 rfl) (hlb _ (hF.pu hm.fr)) ?_; clear hs hm a; intro w hm a hs)) | refine sc_ ?_)
        have r13 : Blk w g13 54 (inV x).toArray := hm.me _ (List.mem_cons_self ..)
        replace hmb := hmb.keep hm.fr (fun t => t)
        replace hI := hI.pu hm.fr
        have hF2 := hF.pu hm.fr
        refine st hs rfl rfl rfl (d_call hs rfl rfl rfl (pl 33 rfl) ((wsR w1.heap.size g4 (T1 ++ cdsL code k) (lbL (k : Int)) _ hI (by rw [hlbl, List.length_append]; omega) hF2.size))) ?_; clear hs a; rintro _ w3 ⟨hI3, hb3, hk3⟩ a hs
        have hF3 := Pu.below_ hF2 hb3
        clear hm hF2 hI
        have hm := Mm.nil (fun _ => False) w3
        repeat (first | (refine ovXAsl0_ ?_; clear hs a; intro a hs) | ((with_reducible apply lCons); first | (refine dv hs gw_ rfl rfl da_ ?_; clear hs hm a; rintro _ w ⟨g, rfl, -, hm⟩ a hs) | (refine stn hs rfl rfl ds_ ?_; clear hs hm a; rintro - w hm a hs)) | refine sc_ ?_)
        exact ⟨rfl, hs.sub (Has.all ⟨rfl, rfl, rfl, rfl, rfl, rfl, rfl, trivial⟩), hF3.pu hm.fr, hk3.blk r13 (by decide) (by decide), by rw [if_pos rfl]; exact hI3.pu hm.fr, (hmb.kept hk3).keep hm.fr (fun t => t)⟩
    clear hs hm a hF hI hmb hrk
    rintro a w2 ⟨hs, hF, r13, hI, hmb⟩
    have hm := Mm.nil (fun _ => False) w2
    have hrk := blk_ro r13
    have htl : (T1 ++ cdsL code k ++ if tg = true then lbL (k : Int) else []).length ≤ 1000000 := by
      rw [List.length_append, List.length_append]
      cases tg
      · rw [if_neg (by decide), List.length_nil]; omega
      · rw [if_pos rfl, hlbl]; omega
    repeat (first | (refine ovXAsl0_ ?_; clear hs a; intro a hs) | ((with_reducible apply lCons); first | (refine dv hs gw_ rfl rfl da_ ?_; clear hs hm a; rintro _ w ⟨g, rfl, -, hm⟩ a hs) | (refine stn hs rfl rfl ds_ ?_; clear hs hm a; rintro - w hm a hs) | (refine dvc hs hm gw_ rfl rfl rfl rfl rfl (pl 37 rfl) (hll _ (hF.pu hm.fr)) ?_; clear hs hm a; intro w hm a hs)) | refine sc_ ?_)
    replace hmb := hmb.keep hm.fr (fun t => t)
    replace hI := hI.pu hm.fr
    have hF2 := hF.pu hm.fr
    refine st hs rfl rfl rfl (d_call hs rfl rfl rfl (pl 33 rfl) ((wsR w1.heap.size g4 (T1 ++ cdsL code k ++ if tg = true then lbL (k : Int) else []) (lineL x ++ [10]) _ hI (by rw [hl10]; omega) hF2.size))) ?_; clear hs a; rintro _ w3 ⟨hI3, hb3, hk3⟩ a hs
    have hF3 := Pu.below_ hF2 hb3
    clear hm hF2 hI
    have hm := Mm.nil (fun _ => False) w3
    replace hmb := hmb.kept hk3
    repeat (first | (refine ovXAsl0_ ?_; clear hs a; intro a hs) | ((with_reducible apply lCons); first | (refine dv hs gw_ rfl rfl da_ ?_; clear hs hm a; rintro _ w ⟨g, rfl, -, hm⟩ a hs) | (refine stn hs rfl rfl ds_ ?_; clear hs hm a; rintro - w hm a hs)) | refine sc_ ?_)
    refine ⟨k + 1, by omega, hs.sub (Has.all ⟨rfl, rfl, rfl, rfl, rfl, rfl, trivial⟩), hF3.pu hm.fr, by omega, ?_, hmb.keep hm.fr (fun t => t)⟩
    rw [hcs, ← List.append_assoc, ← List.append_assoc, ← List.append_assoc]
    have := hI3.pu hm.fr
    rw [← List.append_assoc] at this
    exact this
  · obtain rfl : k = code.length := by omega
    repeat (first | (refine ovXAsl0_ ?_; clear hs a; intro a hs) | ((with_reducible apply lCons); first | (refine dv hs gw_ rfl rfl da_ ?_; clear hs hm a; rintro _ w ⟨g, rfl, -, hm⟩ a hs) | (refine stn hs rfl rfl ds_ ?_; clear hs hm a; rintro - w hm a hs)) | refine sc_ ?_)
    refine st hs rfl rfl rfl (d_call hs rfl rfl rfl (pl 38 rfl) ((bsR w1.heap.size g4 (T1 ++ cdsL code code.length) _ (hI.pu hm.fr) (hF.pu hm.fr).size))) ?_; clear hs a; rintro _ w3 ⟨rfl, hb3⟩ a hs
    have hF3 := Pu.below_ (hF.pu hm.fr) hb3
    clear hm
    have hm := Mm.nil (fun _ => False) w3
    repeat (first | (refine ovXAsl0_ ?_; clear hs a; intro a hs) | ((with_reducible apply lCons); first | (refine dv hs gw_ rfl rfl da_ ?_; clear hs hm a; rintro _ w ⟨g, rfl, -, hm⟩ a hs) | (refine stn hs rfl rfl ds_ ?_; clear hs hm a; rintro - w hm a hs)) | refine sc_ ?_)
    exact gRetN tab hs rfl (.cons (.tmp rfl) (.cons (.tmp rfl) .nil)) ⟨fun _ => rfl, fun h => absurd hG h, hF0.pu (hF3.pu hm.fr)⟩
end Go.Proofs.YtajkekhnfobgiaaGreatDoor

/- Reading a program's text: what a line, a word, a whole text means. -/
namespace Go.Proofs.YtajkekhnfobgiaaGreatDoor
set_option maxRecDepth 20000
open Go.RowKit

abbrev Tx := List UInt8
def digB (c : UInt8) : Bool := decide (48 ≤ c.toNat ∧ c.toNat ≤ 57)
def lowB (c : UInt8) : Bool := decide (97 ≤ c.toNat ∧ c.toNat ≤ 122)
def alnB (c : UInt8) : Bool := lowB c || digB c
def valL (n : Nat) (s : Tx) : Nat := s.foldl (fun n c => n * 10 + (c.toNat - 48)) n
def decB (s : Tx) : Bool := !s.isEmpty && s.all digB && (decide (s.length ≤ 1) || !(s.head? == some 48))
/-- a word as a number; 65536: too great -/
def decF (s : Tx) : Option Int := if decB s then some ((min (valL 0 s) 65536 : Nat) : Int) else none
/-- a word is a label -/
def nmB (s : Tx) : Bool := (s.head?.map lowB).getD false && s.all alnB && decide (s.length ≤ 8)
theorem valL_cons (c : UInt8) (t : Tx) (n : Nat) : valL n (c :: t) = valL (n * 10 + (c.toNat - 48)) t := by
  unfold valL
  rw [List.foldl_cons]
theorem valL_nil (n : Nat) : valL n [] = n := List.foldl_nil
theorem valL_lin : ∀ (s : Tx) (n : Nat), valL n s = n * 10 ^ s.length + valL 0 s
  | [], n => by rw [List.length_nil, Nat.pow_zero, Nat.mul_one, valL_nil, valL_nil, Nat.add_zero]
  | c :: t, n => by
    rw [List.length_cons, valL_cons, valL_cons]
    rw [valL_lin t (n * 10 + (c.toNat - 48)), valL_lin t (0 * 10 + (c.toNat - 48)), Nat.pow_succ]
    generalize 10 ^ t.length = p
    rw [Nat.zero_mul, Nat.zero_add, Nat.add_mul, Nat.add_assoc, Nat.mul_assoc, Nat.mul_comm p 10]
theorem valL_lt : ∀ s : Tx, s.all digB = true → valL 0 s < 10 ^ s.length
  | [], _ => by rw [valL_nil]; exact Nat.zero_lt_one
  | c :: t, h => by
    rw [List.all_cons, Bool.and_eq_true] at h
    have h1 := valL_lt t h.2
    have h2 := of_decide_eq_true h.1
    rw [List.length_cons, valL_cons, valL_lin, Nat.pow_succ]
    have : (0 * 10 + (c.toNat - 48)) * 10 ^ t.length ≤ 9 * 10 ^ t.length := Nat.mul_le_mul_right _ (by omega)
    omega
theorem valL_big {s : Tx} (h : decB s = true) (hl : 5 < s.length) : 65536 ≤ valL 0 s := by
  unfold decB at h
  rw [Bool.and_eq_true, Bool.and_eq_true] at h
  cases s with
  | nil => cases hl
  | cons c t =>
    have h1 := h.2
    have h2 := h.1.2
    rw [List.all_cons, Bool.and_eq_true] at h2
    have h3 := of_decide_eq_true h2.1
    have h4 : c ≠ 48 := by
      rintro rfl
      rw [List.head?_cons] at h1
      simp at h1
      rw [h1] at hl
      simp at hl
    have h5 : c.toNat ≠ 48 := fun e => h4 (UInt8.toNat_inj.1 e)
    rw [valL_cons, valL_lin]
    rw [List.length_cons] at hl
    have h6 : 10 ^ 5 ≤ 10 ^ t.length := Nat.pow_le_pow_right (by omega) (by omega)
    have : 1 * 10 ^ t.length ≤ (0 * 10 + (c.toNat - 48)) * 10 ^ t.length := Nat.mul_le_mul_right _ (by omega)
    omega
theorem decF_le {s : Tx} {n : Int} (h : decF s = some n) : 0 ≤ n ∧ n ≤ 65536 := by
  unfold decF at h
  split at h
  · cases h; omega
  · cases h
theorem decFrom_val : ∀ (s : Tx) (n : Nat), s.all digB = true → Lib.decFrom n s = some (valL n s)
  | [], n, _ => by rw [valL_nil]; rfl
  | c :: t, n, h => by
    rw [List.all_cons, Bool.and_eq_true] at h
    have h2 := of_decide_eq_true h.1
    unfold Lib.decFrom Lib.digitVal
    rw [if_pos h2, valL_cons]
    exact decFrom_val t _ h.2
theorem atoi_val {s : Tx} (h : decB s = true) : Lib.atoi s = some (valL 0 s : Int) := by
  unfold decB at h
  rw [Bool.and_eq_true, Bool.and_eq_true] at h
  cases s with
  | nil => simp at h
  | cons c t =>
    have h2 := h.1.2
    have h3 := h2
    rw [List.all_cons, Bool.and_eq_true] at h2
    have h4 := of_decide_eq_true h2.1
    have h5 : (c == 45) = false := beq_eq_false_iff_ne.2 (by rintro rfl; simp at h4)
    have h6 : (c == 43) = false := beq_eq_false_iff_ne.2 (by rintro rfl; simp at h4)
    unfold Lib.atoi Lib.decNat
    dsimp only
    rw [h5, h6]
    simp [decFrom_val _ _ h3]

/-- what has been read so far -/
structure RdS where
  code : List In
  ss : List Int
  ws : List (List Int)
  lab : List (Tx × Nat)
  js : List (Nat × Nat × Tx)
  last : Bool
/-- all words as numbers -/
def decA : List Tx → Option (List Int)
  | [] => some []
  | s :: t => match decF s with
    | none => none
    | some n => match decA t with
      | none => none
      | some l => some (n :: l)
/-- a line of a region: the new state, or an error -/
def regF (r : RdS) (words : List Tx) : RdS × Int :=
  match decA words with
  | none => (r, 2)
  | some [] => (r, 2)
  | some (n :: l) =>
    if r.code ≠ [] ∨ r.lab ≠ [] then (r, 2)
    else if (n :: l).any (fun x => decide (65535 < x)) = true ∨ n < 1 ∨ 32 < n ∨ n < (l.length : Int) ∨ 4 ≤ r.ss.length then (r, 6)
    else ({ r with ss := r.ss ++ [n], ws := r.ws ++ [l] }, 0)
/-- one word, behind a prefix: the number, whether it is too great, the words that are left -/
def tkF (pre : Tx) (most : Int) : List Tx → Option (Int × Bool × List Tx)
  | [] => none
  | w :: t => if pre.isPrefixOf w then match decF (w.drop pre.length) with
    | none => none
    | some n => some (n, decide (most < n), t)
    else none
def tkR (u : Bool) (pre : Tx) (most : Int) (ws : List Tx) : Option (Int × Bool × List Tx) := if u then tkF pre most ws else some (0, false, ws)
def mostF (op : Int) (ns : Nat) : Int := if op = 15 then (ns : Int) - 1 else if op = 23 then 15 else 65535
/-- the last word: number, whether too great, label, the words left -/
def lstF (op : Int) (u : Bool) (ns : Nat) (ws : List Tx) : Option (Int × Bool × Tx × List Tx) :=
  if !u then some (0, false, [], ws)
  else if jumpB op then match ws with
    | [] => none
    | w :: t => if nmB w then some (0, false, w, t) else none
  else match tkF [] (mostF op ns) ws with
    | none => none
    | some (n, f, t) => some (n, f, [], t)
/-- the words behind an operation: instruction, whether some number is too great, label -/
def opsF (op : Int) (ns : Nat) (ws : List Tx) : Option (In × Bool × Tx) :=
  match tkR (usesF op).1 [114] 7 ws with
  | none => none
  | some (a, f1, w1) => match tkR (usesF op).2.1 [114] 7 w1 with
    | none => none
    | some (b, f2, w2) => match tkR (usesF op).2.2.1 [114] 7 w2 with
      | none => none
      | some (c, f3, w3) => match lstF op (usesF op).2.2.2 ns w3 with
        | none => none
        | some (m, f4, l, w4) => if w4 = [] then some (⟨op, a, b, c, m⟩, f1 || f2 || f3 || f4, l) else none
def insF (r : RdS) (op : Int) (ws : List Tx) (k : Nat) : RdS × Int :=
  match opsF op r.ss.length ws with
  | none => (r, 2)
  | some (i, f, l) => if f = true ∨ 64 ≤ r.code.length then (r, 6)
    else ({ r with code := r.code ++ [i], js := if l = [] then r.js else r.js ++ [(r.code.length, k, l)] }, 0)
/-- the label of a line -/
def labF (s : Tx) : Option Tx := if [58].isSuffixOf s && nmB (s.take (s.length - 1)) then some (s.take (s.length - 1)) else none
def idxF (w : Tx) : List Tx → Nat → Option Nat
  | [], _ => none
  | x :: t, k => if x = w then some k else idxF w t (k + 1)
def rgN : Tx := [114, 101, 103, 105, 111, 110]
/-- one line -/
def rdF (r : RdS) (s : Tx) (k : Nat) : RdS × Int :=
  match labF s with
  | some n => if r.lab.any (fun x => decide (x.1 = n)) then ({ r with last := false }, 2) else ({ r with lab := (n, r.code.length) :: r.lab, last := true }, 0)
  | none =>
    if (spl 32 s).headD [] = rgN then regF { r with last := false } (spl 32 s).tail
    else match idxF ((spl 32 s).headD []) nmL 0 with
      | none => ({ r with last := false }, 2)
      | some op => insF { r with last := false } (op : Int) (spl 32 s).tail k
/-- lines, from line k on: the state, or the line and the error -/
def rdA (r : RdS) : List Tx → Nat → RdS × Nat × Int
  | [], k => (r, k, 0)
  | s :: t, k => match rdF r s k with
    | (r', e) => if e = 0 then rdA r' t (k + 1) else (r', k, e)
def atL (lab : List (Tx × Nat)) (n : Tx) : Option Nat := (lab.find? (fun x => decide (x.1 = n))).map (·.2)
/-- labels found: the code, or the line of a label that is not there -/
def jsF (lab : List (Tx × Nat)) : List In → List (Nat × Nat × Tx) → List In × Option Nat
  | code, [] => (code, none)
  | code, (at_, ln, n) :: t => match atL lab n with
    | none => (code, some ln)
    | some k => jsF lab (code.modify at_ fun i => { i with m := (k : Int) }) t
structure PrM where
  code : List In
  ss : List Int
  ws : List (List Int)
def r0F : RdS := ⟨[], [], [], [], [], false⟩
/-- what a text means: the program, a number, the error -/
def parF (s : Tx) : PrM × Int × Int :=
  if 4096 < s.length then (⟨[], [], []⟩, -1, 3)
  else match rdA r0F (spl 10 s).dropLast 0 with
    | (r, k, e) => if e ≠ 0 then (⟨[], [], []⟩, (k : Int), e)
      else if (spl 10 s).getLastD [] ≠ [] then (⟨[], [], []⟩, ((spl 10 s).length : Int) - 1, 2)
      else match jsF r.lab r.code r.js with
        | (_, some ln) => (⟨[], [], []⟩, (ln : Int), 12)
        | (code, none) => if r.ss = [] ∨ code = [] ∨ r.last = true then (⟨[], [], []⟩, -1, 2)
          else (⟨code, r.ss, r.ws⟩, ((spl 10 s).length : Int) - 1, 0)
/-- the example: region 2 7, li r0 1, l1:, jmp l1 -/
def exT : Tx := [114, 101, 103, 105, 111, 110, 32, 50, 32, 55, 10, 108, 105, 32, 114, 48, 32, 49, 10, 108, 49, 58, 10, 106, 109, 112, 32, 108, 49, 10]
theorem ex_par : parF exT = (⟨[⟨1, 0, 0, 0, 1⟩, ⟨18, 0, 0, 0, 1⟩], [2], [[7]]⟩, 4, 0) := by kernel_rfl
end Go.Proofs.YtajkekhnfobgiaaGreatDoor
