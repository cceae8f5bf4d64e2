/- Lines. -/
import Derived.Test.YtlapnhpaedkgcaaDoorRpe
namespace Go.Proofs.YtlapnhpaedkgcaaDoor
open Go.RowKit

structure LF where
  A : Option Addr
  n : Nat
  c : Nat
  l : List (Int × Int)
def LF.v (x : LF) : Value := .slice x.A x.n x.c
structure LF.ok (x : LF) (w : World) : Prop where
  len : x.l.length = x.n
  rd : Rd w w.heap.size x.A (x.l.flatMap flV)
theorem LF.ok.pu {x : LF} {w w' : World} (h : x.ok w) (hf : Pu w w') : x.ok w' := ⟨h.len, hf.rd' h.rd⟩
section
variable (ev : List Ev) (i : Int) (f : Int × Int)
def atE (k : Nat) : Int := match ev[k]? with | some e => e.a | none => 0
def p1 : Nat := aftF (hitB i) ev 0
def p2 : Nat := aftF (fouB f.1) ev (p1 ev i + 1)
def p3 : Nat := aftF (repB f.1) ev (p2 ev i f + 1)
/-- what is known behind some steps: where the last event lies, the line -/
def stL : Nat → Int × Ft
  | 0 => (-1, ⟨i, f.1, f.2, -1, -1, -1⟩)
  | 1 => ((p1 ev i : Int), ⟨i, f.1, f.2, atE ev (p1 ev i), -1, -1⟩)
  | 2 => ((p2 ev i f : Int), ⟨i, f.1, f.2, atE ev (p1 ev i), atE ev (p2 ev i f), -1⟩)
  | _ => ((p3 ev i f : Int), ⟨i, f.1, f.2, atE ev (p1 ev i), atE ev (p2 ev i f), atE ev (p3 ev i f)⟩)
theorem stL0 : stL ev i f 0 = (-1, ⟨i, f.1, f.2, -1, -1, -1⟩) := rfl
theorem stL1 : stL ev i f 1 = ((p1 ev i : Int), ⟨i, f.1, f.2, atE ev (p1 ev i), -1, -1⟩) := rfl
theorem stL2 : stL ev i f 2 = ((p2 ev i f : Int), ⟨i, f.1, f.2, atE ev (p1 ev i), atE ev (p2 ev i f), -1⟩) := rfl
theorem stL3 : stL ev i f 3 = ((p3 ev i f : Int), ⟨i, f.1, f.2, atE ev (p1 ev i), atE ev (p2 ev i f), atE ev (p3 ev i f)⟩) := rfl
def okL : Nat → Prop
  | 0 => True
  | 1 => p1 ev i < ev.length
  | 2 => p1 ev i < ev.length ∧ p2 ev i f < ev.length
  | _ => p1 ev i < ev.length ∧ p2 ev i f < ev.length ∧ p3 ev i f < ev.length
def lineF : Ft :=
  if p1 ev i = ev.length then (stL ev i f 0).2 else if p2 ev i f = ev.length then (stL ev i f 1).2 else if p3 ev i f = ev.length then (stL ev i f 2).2 else (stL ev i f 3).2
end
def linesTo (ev : List Ev) (fs : List (Int × Int)) (k : Nat) : List Ft := (List.range k).map fun (j : Nat) => lineF ev (j : Int) (fs.getD j (0, 0))
theorem linesTo_len (ev : List Ev) (fs : List (Int × Int)) (k : Nat) : (linesTo ev fs k).length = k := by unfold linesTo; simp
theorem linesTo_succ (ev : List Ev) (fs : List (Int × Int)) (k : Nat) : linesTo ev fs (k + 1) = linesTo ev fs k ++ [lineF ev (k : Int) (fs.getD k (0, 0))] := by
  unfold linesTo
  rw [List.range_succ, List.map_append]; rfl
structure LnX where
  k : Nat
  rA : Option Nat
  rc : Nat
  rcs : List Value
theorem flat_lenF (l : List Ft) : (l.flatMap ftV).length = l.length * 6 := flat_len ftV 6 ftV_len l

set_option maxHeartbeats 16000000 in
theorem lines_c (x : LF) (y : ES) (wB : World) (hx : x.ok wB) (hy : y.ok wB) (hn : x.n ≤ 100) (hn2 : y.n ≤ 1000) : Ret Tryd.prog 5 [x.v, y.v] wB (fun u w' => ∃ z : FS, u = z.v ∧ z.ok w' ∧ z.l = linesTo y.l x.l x.n ∧ z.n ≤ z.c ∧ Pu wB w') := by
  have h1 := fun w'' (hf : Pu wB w'') (k : Nat) (g : Nat) (i : Int) (hk : k ≤ y.n) (hg : Ro w'' g 0 [.int .i64 i]) => ahit_c y k g i w'' (hy.pu hf) hn2 hk hg
  have h2 := fun w'' (hf : Pu wB w'') (k : Nat) (g : Nat) (f : Int × Int) (hk : k ≤ y.n) (hg : Ro w'' g 0 (flV f)) => afou_c y k g f w'' (hy.pu hf) hn2 hk hg
  have h3 := fun w'' (hf : Pu wB w'') (k : Nat) (g : Nat) (f : Int × Int) (hk : k ≤ y.n) (hg : Ro w'' g 0 (flV f)) => arep_c y k g f w'' (hy.pu hf) hn2 hk hg
  obtain ⟨A, n, c, fs⟩ := x
  obtain ⟨B, m, d, ev⟩ := y
  have hl : fs.length = n := hx.len
  have hl2 : ev.length = m := hy.len
  unfold LF.v ES.v at *
  dsimp only at *
  refine enterR Tryd.func5 rfl rfl rfl fun a hs hm => ?_
  repeat (first | ((with_reducible refine toL hm ?_); (first | refine oneV hs gw_ rfl rfl (by intro w hm; exact kvR_) ?_ | refine oneN hs rfl rfl rfl rfl rfl rfl rfl ?_ | refine oneU hs rfl rfl rfl rfl rfl rfl ?_); clear hs a; intro a hs) | ((with_reducible apply lCons); first | (refine dv hs gw_ rfl rfl da_ ?_; clear hs hm a; rintro _ w ⟨g, rfl, -, hm⟩ a hs) | (refine stn hs rfl rfl ds_ ?_; clear hs hm a; rintro - w hm a hs) ) | (with_reducible first | apply lNilThen | apply lNilBlock | apply lNil | apply wp_seq | apply wp_region_lit | apply wp_block | apply cExit | apply cRet | apply cSkip | apply gThen | apply gBlock | apply eThen | apply eBlockHit | refine eBlock rfl ?_ | apply rThen | apply rBlock) | ((with_reducible apply cCond); first | refine cTrue hs rfl bd_ ?_ | refine cFalse hs rfl bd_ ?_))
  replace hm := hm.zero 34
  refine cLoop (X := LnX) (fun X a w' => Sl Tryd.f5.ntmps [(1, .slice B m d), (5, slv X.rA X.k X.rc), (12, .slice A n c), (13, .int .i64 (n : Int)), (14, .int .i64 (X.k : Int))] a ∧ Mm (fun _ => False) wB [⟨X.rA, 34, X.rcs⟩] w' ∧ X.k ≤ n ∧ Row X.rA X.k X.rc 6 ((linesTo ev fs X.k).flatMap ftV) X.rcs) (fun X => n - X.k) ⟨0, none, 0, []⟩ ⟨hs.sub (Has.all ⟨rfl, rfl, rfl, rfl, rfl, trivial⟩), hm, Nat.zero_le _, (Row.empty 6 : Row none 0 0 6 [] [])⟩ ?_
  clear hs hm a
  rintro ⟨k, rA, rc, rcs⟩ a w' ⟨hs, hm, hk, hrow⟩
  dsimp only at *
  by_cases hlt : k < n
  · obtain ⟨b1, o1, hA, hb1, r1⟩ := hx.rd.ro (by rw [flat_len flV 6 flV_len]; dsimp only; omega)
    dsimp only at hA r1
    subst hA
    have k1 : k < fs.length := by omega
    have e1 := r1.flat flV_len k1
    have hls := linesTo_succ ev fs k
    have hgd : fs.getD k (0, 0) = fs[k] := by rw [List.getD_eq_getElem?_getD, List.getElem?_eq_getElem k1]; rfl
    rw [hgd] at hls
    generalize fs[k]'(_) = f at *
    obtain ⟨fr, fk⟩ := f
    have e1' := e1
    unfold flV at e1
    dsimp only at e1
    repeat (first | ((with_reducible refine toL hm ?_); (first | refine oneV hs gw_ rfl rfl (by intro w hm; exact kvR_) ?_ | refine oneN hs rfl rfl rfl rfl rfl rfl rfl ?_ | refine oneU hs rfl rfl rfl rfl rfl rfl ?_); clear hs a; intro a hs) | ((with_reducible apply lCons); first | (refine dv hs gw_ rfl rfl da_ ?_; clear hs hm a; rintro _ w ⟨g, rfl, -, hm⟩ a hs) | (refine stn hs rfl rfl ds_ ?_; clear hs hm a; rintro - w hm a hs) ) | (with_reducible first | apply lNilThen | apply lNilBlock | apply lNil | apply wp_seq | apply wp_region_lit | apply wp_block | apply cExit | apply cRet | apply cSkip | apply gThen | apply gBlock | apply eThen | apply eBlockHit | refine eBlock rfl ?_ | apply rThen | apply rBlock) | ((with_reducible apply cCond); first | refine cTrue hs rfl bd_ ?_ | refine cFalse hs rfl bd_ ?_))
    obtain ⟨g6, en_⟩ := hs.pt 6 (by exact rfl); subst en_
    obtain ⟨g7, en_⟩ := hs.pt 7 (by exact rfl); subst en_
    obtain ⟨g8, en_⟩ := hs.pt 8 (by exact rfl); subst en_
    obtain ⟨g34, en_⟩ := hs.ps 34 (by exact rfl); subst en_
    refine cLoop (X := Nat) (fun X a w' => Sl Tryd.f5.ntmps [(1, .slice B m d), (5, slv rA k rc), (6, .pointer (some ⟨g6, 0, none⟩)), (7, .pointer (some ⟨g7, 0, none⟩)), (8, .pointer (some ⟨g8, 0, none⟩)), (9, .int .i64 (stL ev k (fr, fk) X).1), (12, .slice (some ⟨b1, o1, none⟩) n c), (13, .int .i64 (n : Int)), (14, .int .i64 (k : Int)), (34, .slice (some ⟨g34, 0, none⟩) 3 3), (35, .int .i64 3), (36, .int .i64 (X : Int))] a ∧ Mm (fun _ => False) wB [⟨some g34, 42, [.pointer (some ⟨g8, 3, none⟩), .func (.func 9) #[] #[.pointer (some ⟨g6, 0, none⟩)], .pointer (some ⟨g8, 4, none⟩), .func (.func 10) #[] #[.pointer (some ⟨g7, 0, none⟩)], .pointer (some ⟨g8, 5, none⟩), .func (.func 12) #[] #[.pointer (some ⟨g7, 0, none⟩)]]⟩, ⟨some g8, 34, ftV (stL ev k (fr, fk) X).2⟩, ⟨some g7, 28, flV (fr, fk)⟩, ⟨some g6, 3, [.int .i64 (k : Int)]⟩, ⟨rA, 34, rcs⟩] w' ∧ okL ev k (fr, fk) X ∧ X ≤ 3) (fun X => 3 - X) 0 ⟨hs.sub (Has.all ⟨rfl, rfl, rfl, rfl, rfl, rfl, rfl, rfl, rfl, rfl, rfl, rfl, trivial⟩), hm.sel [0, 1, 2, 3, 4] (by decide) rfl, trivial, by omega⟩ ?_
    clear hs hm a
    rintro X a wi ⟨hs, hm, hok, hX⟩
    have hX4 : X = 0 ∨ X = 1 ∨ X = 2 ∨ X = 3 := by omega
    rcases hX4 with rfl | rfl | rfl | rfl
    · rw [stL0] at hs hm
      unfold ftV flV at hm
      dsimp only at hm hs
      have c1 : ∀ w'', Pu wB w'' → Ro w'' g6 0 [.int .i64 (k : Int)] → _ := fun w'' hf hg => h1 w'' hf 0 g6 (k : Int) (Nat.zero_le _) hg
      obtain ⟨q1, hq1⟩ : ∃ q, q = p1 ev (k : Int) := ⟨_, rfl⟩
      have he : aftF (hitB (k : Int)) ev 0 = q1 := hq1.symm
      rw [he] at c1
      have hle : q1 ≤ ev.length := by rw [← he]; exact aft_le _ _ _
      by_cases hp : q1 = m
      · have hz : lineF ev (k : Int) (fr, fk) = ⟨k, fr, fk, -1, -1, -1⟩ := by unfold lineF; rw [if_pos (by rw [← hq1]; omega), stL0]
        rw [hz] at hls
        repeat (first | ((with_reducible refine toL hm ?_); (first | refine oneV hs gw_ rfl rfl (by intro w hm; exact kvR_) ?_ | refine oneN hs rfl rfl rfl rfl rfl rfl rfl ?_ | refine oneU hs rfl rfl rfl rfl rfl rfl ?_); clear hs a; intro a hs) | ((with_reducible apply lCons); first | (refine dv hs gw_ rfl rfl da_ ?_; clear hs hm a; rintro _ w ⟨g, rfl, -, hm⟩ a hs) | (refine stn hs rfl rfl ds_ ?_; clear hs hm a; rintro - w hm a hs) | (refine dv hs gw_ rfl rfl (d_call hs rfl rfl rfl (pl 13 rfl) (c1 _ hm.fr (hm.ro (k := 0) (n := 1) (g := g6) mem_ (cutF_ok rfl)))) ?_; clear hs a; rintro _ w ⟨rfl, hf⟩ a hs; replace hm := hm.pu hf; clear hf)) | (with_reducible first | apply lNilThen | apply lNilBlock | apply lNil | apply wp_seq | apply wp_region_lit | apply wp_block | apply cExit | apply cRet | apply cSkip | apply gThen | apply gBlock | apply eThen | apply eBlockHit | refine eBlock rfl ?_ | apply rThen | apply rBlock) | ((with_reducible apply cCond); first | refine cTrue hs rfl bd_ ?_ | refine cFalse hs rfl bd_ ?_))
        refine dv hs (Wnt.none rfl) rfl rfl (d_append (A := rA) (n := k) (c := rc) (news := [.int .i64 (k : Int), .int .i64 fr, .int .i64 fk, (.int .i64 (-1)), (.int .i64 (-1)), (.int .i64 (-1))]) hs rfl rfl rfl rfl rfl tab rfl rfl rfl rfl rfl hm mem_ hrow rfl (hm.ro (n := 6) mem_ (cutF_ok rfl)) rfl (by show (k + 1) * 48 ≤ _; omega) (by omega)) ?_
        clear hs
        rintro _ w6 ⟨A2, c2, cs2, rfl, hr2, hM⟩ a hs
        replace hm := (hM _ rep_)
        clear hM
        have hr3 : Row A2 (k + 1) c2 6 ((linesTo ev fs (k + 1)).flatMap ftV) cs2 := by
          rw [hls, List.flatMap_append, List.flatMap_cons, List.flatMap_nil, List.append_nil]
          exact hr2
        repeat (first | ((with_reducible refine toL hm ?_); (first | refine oneV hs gw_ rfl rfl (by intro w hm; exact kvR_) ?_ | refine oneN hs rfl rfl rfl rfl rfl rfl rfl ?_ | refine oneU hs rfl rfl rfl rfl rfl rfl ?_); clear hs a; intro a hs) | ((with_reducible apply lCons); first | (refine dv hs gw_ rfl rfl da_ ?_; clear hs hm a; rintro _ w ⟨g, rfl, -, hm⟩ a hs) | (refine stn hs rfl rfl ds_ ?_; clear hs hm a; rintro - w hm a hs) ) | (with_reducible first | apply lNilThen | apply lNilBlock | apply lNil | apply wp_seq | apply wp_region_lit | apply wp_block | apply cExit | apply cRet | apply cSkip | apply gThen | apply gBlock | apply eThen | apply eBlockHit | refine eBlock rfl ?_ | apply rThen | apply rBlock) | ((with_reducible apply cCond); first | refine cTrue hs rfl bd_ ?_ | refine cFalse hs rfl bd_ ?_))
        exact ⟨⟨k + 1, A2, c2, cs2⟩, by dsimp only; omega, hs.sub (Has.all ⟨rfl, rfl, rfl, rfl, rfl, trivial⟩), hm.sub sub_, by dsimp only; omega, hr3⟩
      · have hlt2 : q1 < ev.length := by omega
        obtain ⟨b2, o2, rfl, hb2, r2⟩ := hy.rd.ro (by rw [flat_len evV 4 evV_len]; dsimp only; omega)
        dsimp only at r2
        have e2 := r2.flat evV_len (k := q1) hlt2
        have hat : atE ev q1 = (ev[q1]).a := by unfold atE; rw [List.getElem?_eq_getElem hlt2]
        generalize ev[q1] = e at e2 hat
        obtain ⟨ea, ek, er, ed⟩ := e
        unfold evV at e2
        dsimp only at e2 hat
        repeat (first | ((with_reducible refine toL hm ?_); (first | refine oneV hs gw_ rfl rfl (by intro w hm; exact kvR_) ?_ | refine oneN hs rfl rfl rfl rfl rfl rfl rfl ?_ | refine oneU hs rfl rfl rfl rfl rfl rfl ?_); clear hs a; intro a hs) | ((with_reducible apply lCons); first | (refine dv hs gw_ rfl rfl da_ ?_; clear hs hm a; rintro _ w ⟨g, rfl, -, hm⟩ a hs) | (refine stn hs rfl rfl ds_ ?_; clear hs hm a; rintro - w hm a hs) | (refine dv hs gw_ rfl rfl (d_call hs rfl rfl rfl (pl 13 rfl) (c1 _ hm.fr (hm.ro (k := 0) (n := 1) (g := g6) mem_ (cutF_ok rfl)))) ?_; clear hs a; rintro _ w ⟨rfl, hf⟩ a hs; replace hm := hm.pu hf; clear hf)) | (with_reducible first | apply lNilThen | apply lNilBlock | apply lNil | apply wp_seq | apply wp_region_lit | apply wp_block | apply cExit | apply cRet | apply cSkip | apply gThen | apply gBlock | apply eThen | apply eBlockHit | refine eBlock rfl ?_ | apply rThen | apply rBlock) | ((with_reducible apply cCond); first | refine cTrue hs rfl bd_ ?_ | refine cFalse hs rfl bd_ ?_))
        obtain ⟨g11, en_⟩ := hs.pt 11 (by exact rfl); subst en_
        refine cMid (fun a w => Sl Tryd.f5.ntmps [(1, .slice (some ⟨b2, o2, none⟩) m d), (5, slv rA k rc), (6, .pointer (some ⟨g6, 0, none⟩)), (7, .pointer (some ⟨g7, 0, none⟩)), (8, .pointer (some ⟨g8, 0, none⟩)), (9, .int .i64 (q1 : Int)), (12, .slice (some ⟨b1, o1, none⟩) n c), (13, .int .i64 (n : Int)), (14, .int .i64 (k : Int)), (34, .slice (some ⟨g34, 0, none⟩) 3 3), (35, .int .i64 3), (36, .int .i64 ((0 : Nat) : Int))] a ∧ Mm (fun _ => False) wB [⟨some g34, 42, [.pointer (some ⟨g8, 3, none⟩), .func (.func 9) #[] #[.pointer (some ⟨g6, 0, none⟩)], .pointer (some ⟨g8, 4, none⟩), .func (.func 10) #[] #[.pointer (some ⟨g7, 0, none⟩)], .pointer (some ⟨g8, 5, none⟩), .func (.func 12) #[] #[.pointer (some ⟨g7, 0, none⟩)]]⟩, ⟨some g8, 34, [.int .i64 (k : Int), .int .i64 fr, .int .i64 fk, (.int .i64 ea), (.int .i64 (-1)), (.int .i64 (-1))]⟩, ⟨some g7, 28, [.int .i64 0, .int .i64 fr, .int .i64 fk, .int .i64 0, .int .i64 0, .int .i64 0]⟩, ⟨some g6, 3, [.int .i64 (k : Int)]⟩, ⟨rA, 34, rcs⟩] w) ?_ ?_
        · skip
          refine cDraw (n := 9) [⟨some g11, 42, [.pointer (some ⟨g8, 3, none⟩), .func (.func 9) #[] #[.pointer (some ⟨g6, 0, none⟩)]]⟩] hm rfl rfl ?_
          clear hm
          intro w2 hm
          refine hTake 0 hs rfl (by kernel_rfl) (Wnt.none rfl) rfl rfl (by intro w hm; replace hm : Mm _ _ _ w := hm; exact r_val hs tab rfl) (hm.sub sub_) ?_; clear hs a; intro a hs
          refine hTake 1 hs rfl (by kernel_rfl) (Wnt.none rfl) rfl rfl (by intro w hm; replace hm : Mm _ _ _ w := hm; exact klR_) (hm.sub sub_) ?_; clear hs a; intro a hs
          refine hTake 2 hs rfl (by kernel_rfl) (Wnt.none rfl) rfl rfl (by intro w hm; replace hm : Mm _ _ _ w := hm; exact r_val hs tab rfl) (hm.sub sub_) ?_; clear hs a; intro a hs
          refine hTake 3 hs rfl (by kernel_rfl) (Wnt.none rfl) rfl rfl (by intro w hm; replace hm : Mm _ _ _ w := hm; exact r_val hs tab rfl) (hm.sub sub_) ?_; clear hs a; intro a hs
          refine hTake 4 hs rfl (by kernel_rfl) (Wnt.none rfl) rfl rfl (by intro w hm; replace hm : Mm _ _ _ w := hm; (first | exact r_iz hs tab rfl rfl (by omega) | exact r_iy hs tab rfl rfl (by omega))) (hm.sub sub_) ?_; clear hs a; intro a hs
          refine hTake 5 hs rfl (by kernel_rfl) (Wnt.none rfl) rfl rfl (by intro w hm; replace hm : Mm _ _ _ w := hm; exact r_val hs tab rfl) (hm.sub sub_) ?_; clear hs a; intro a hs
          refine hTake 6 hs rfl (by kernel_rfl) (Wnt.none rfl) rfl rfl (by intro w hm; replace hm : Mm _ _ _ w := hm; exact klR_) (hm.sub sub_) ?_; clear hs a; intro a hs
          refine hTake 7 hs rfl (by kernel_rfl) (Wnt.none rfl) rfl rfl (by intro w hm; replace hm : Mm _ _ _ w := hm; exact r_val hs tab rfl) (hm.sub sub_) ?_; clear hs a; intro a hs
          refine hEach [8] (by kernel_rfl) (eDoN hs rfl (Wnt.none rfl) rfl ds_ ?_ eNil)
          clear hs hm
          rintro - w28 hm a hs
          refine ⟨hm.sub sub_, ?_⟩
          refine hDone (by kernel_rfl) ?_
          exact And.intro rfl ⟨hs.sub (Has.all ⟨rfl, rfl, rfl, rfl, rfl, rfl, rfl, rfl, rfl, rfl, rfl, rfl, trivial⟩), hm.sub sub_⟩
        clear hs hm a
        rintro a w2 ⟨hs, hm⟩
        rw [← hat] at hm
        repeat (first | ((with_reducible refine toL hm ?_); (first | refine oneV hs gw_ rfl rfl (by intro w hm; exact kvR_) ?_ | refine oneN hs rfl rfl rfl rfl rfl rfl rfl ?_ | refine oneU hs rfl rfl rfl rfl rfl rfl ?_); clear hs a; intro a hs) | ((with_reducible apply lCons); first | (refine dv hs gw_ rfl rfl da_ ?_; clear hs hm a; rintro _ w ⟨g, rfl, -, hm⟩ a hs) | (refine stn hs rfl rfl ds_ ?_; clear hs hm a; rintro - w hm a hs) ) | (with_reducible first | apply lNilThen | apply lNilBlock | apply lNil | apply wp_seq | apply wp_region_lit | apply wp_block | apply cExit | apply cRet | apply cSkip | apply gThen | apply gBlock | apply eThen | apply eBlockHit | refine eBlock rfl ?_ | apply rThen | apply rBlock) | ((with_reducible apply cCond); first | refine cTrue hs rfl bd_ ?_ | refine cFalse hs rfl bd_ ?_))
        exact ⟨1, by omega, hs.sub (Has.all ⟨rfl, rfl, rfl, rfl, rfl, by rw [stL1, ← hq1]; rfl, rfl, rfl, rfl, rfl, rfl, rfl, trivial⟩), by rw [stL1, ← hq1]; exact hm, (by show p1 ev (k : Int) < ev.length; rw [← hq1]; exact hlt2), by omega⟩
    · obtain ⟨q1, hq1⟩ : ∃ q, q = p1 ev (k : Int) := ⟨_, rfl⟩
      have hok1 : q1 < ev.length := by rw [hq1]; exact hok
      rw [stL1, ← hq1] at hs hm
      unfold ftV flV at hm
      dsimp only at hm hs
      have c1 : ∀ w'', Pu wB w'' → Ro w'' g7 0 (flV (fr, fk)) → _ := fun w'' hf hg => h2 w'' hf (q1 + 1) g7 (fr, fk) (by omega) hg
      obtain ⟨q2, hq2⟩ : ∃ q, q = p2 ev (k : Int) (fr, fk) := ⟨_, rfl⟩
      have he : aftF (fouB fr) ev (q1 + 1) = q2 := by rw [hq2]; unfold p2; rw [← hq1]
      dsimp only at c1
      rw [he] at c1
      have hle : q2 ≤ ev.length := by rw [← he]; exact aft_le _ _ _
      by_cases hp : q2 = m
      · have hz : lineF ev (k : Int) (fr, fk) = ⟨k, fr, fk, atE ev q1, -1, -1⟩ := by unfold lineF; rw [if_neg (by rw [← hq1]; omega), if_pos (by rw [← hq2]; omega), stL1, ← hq1]
        rw [hz] at hls
        repeat (first | ((with_reducible refine toL hm ?_); (first | refine oneV hs gw_ rfl rfl (by intro w hm; exact kvR_) ?_ | refine oneN hs rfl rfl rfl rfl rfl rfl rfl ?_ | refine oneU hs rfl rfl rfl rfl rfl rfl ?_); clear hs a; intro a hs) | ((with_reducible apply lCons); first | (refine dv hs gw_ rfl rfl da_ ?_; clear hs hm a; rintro _ w ⟨g, rfl, -, hm⟩ a hs) | (refine stn hs rfl rfl ds_ ?_; clear hs hm a; rintro - w hm a hs) | (refine dv hs gw_ rfl rfl (d_call hs rfl rfl rfl (pl 13 rfl) (c1 _ hm.fr (hm.ro (k := 0) (n := 6) (g := g7) mem_ (cutF_ok rfl)))) ?_; clear hs a; rintro _ w ⟨rfl, hf⟩ a hs; replace hm := hm.pu hf; clear hf)) | (with_reducible first | apply lNilThen | apply lNilBlock | apply lNil | apply wp_seq | apply wp_region_lit | apply wp_block | apply cExit | apply cRet | apply cSkip | apply gThen | apply gBlock | apply eThen | apply eBlockHit | refine eBlock rfl ?_ | apply rThen | apply rBlock) | ((with_reducible apply cCond); first | refine cTrue hs rfl bd_ ?_ | refine cFalse hs rfl bd_ ?_))
        refine dv hs (Wnt.none rfl) rfl rfl (d_append (A := rA) (n := k) (c := rc) (news := [.int .i64 (k : Int), .int .i64 fr, .int .i64 fk, (.int .i64 (atE ev q1)), (.int .i64 (-1)), (.int .i64 (-1))]) hs rfl rfl rfl rfl rfl tab rfl rfl rfl rfl rfl hm mem_ hrow rfl (hm.ro (n := 6) mem_ (cutF_ok rfl)) rfl (by show (k + 1) * 48 ≤ _; omega) (by omega)) ?_
        clear hs
        rintro _ w6 ⟨A2, c2, cs2, rfl, hr2, hM⟩ a hs
        replace hm := (hM _ rep_)
        clear hM
        have hr3 : Row A2 (k + 1) c2 6 ((linesTo ev fs (k + 1)).flatMap ftV) cs2 := by
          rw [hls, List.flatMap_append, List.flatMap_cons, List.flatMap_nil, List.append_nil]
          exact hr2
        repeat (first | ((with_reducible refine toL hm ?_); (first | refine oneV hs gw_ rfl rfl (by intro w hm; exact kvR_) ?_ | refine oneN hs rfl rfl rfl rfl rfl rfl rfl ?_ | refine oneU hs rfl rfl rfl rfl rfl rfl ?_); clear hs a; intro a hs) | ((with_reducible apply lCons); first | (refine dv hs gw_ rfl rfl da_ ?_; clear hs hm a; rintro _ w ⟨g, rfl, -, hm⟩ a hs) | (refine stn hs rfl rfl ds_ ?_; clear hs hm a; rintro - w hm a hs) ) | (with_reducible first | apply lNilThen | apply lNilBlock | apply lNil | apply wp_seq | apply wp_region_lit | apply wp_block | apply cExit | apply cRet | apply cSkip | apply gThen | apply gBlock | apply eThen | apply eBlockHit | refine eBlock rfl ?_ | apply rThen | apply rBlock) | ((with_reducible apply cCond); first | refine cTrue hs rfl bd_ ?_ | refine cFalse hs rfl bd_ ?_))
        exact ⟨⟨k + 1, A2, c2, cs2⟩, by dsimp only; omega, hs.sub (Has.all ⟨rfl, rfl, rfl, rfl, rfl, trivial⟩), hm.sub sub_, by dsimp only; omega, hr3⟩
      · have hlt2 : q2 < ev.length := by omega
        obtain ⟨b2, o2, rfl, hb2, r2⟩ := hy.rd.ro (by rw [flat_len evV 4 evV_len]; dsimp only; omega)
        dsimp only at r2
        have e2 := r2.flat evV_len (k := q2) hlt2
        have hat : atE ev q2 = (ev[q2]).a := by unfold atE; rw [List.getElem?_eq_getElem hlt2]
        generalize ev[q2] = e at e2 hat
        obtain ⟨ea, ek, er, ed⟩ := e
        unfold evV at e2
        dsimp only at e2 hat
        repeat (first | ((with_reducible refine toL hm ?_); (first | refine oneV hs gw_ rfl rfl (by intro w hm; exact kvR_) ?_ | refine oneN hs rfl rfl rfl rfl rfl rfl rfl ?_ | refine oneU hs rfl rfl rfl rfl rfl rfl ?_); clear hs a; intro a hs) | ((with_reducible apply lCons); first | (refine dv hs gw_ rfl rfl da_ ?_; clear hs hm a; rintro _ w ⟨g, rfl, -, hm⟩ a hs) | (refine stn hs rfl rfl ds_ ?_; clear hs hm a; rintro - w hm a hs) | (refine dv hs gw_ rfl rfl (d_call hs rfl rfl rfl (pl 13 rfl) (c1 _ hm.fr (hm.ro (k := 0) (n := 6) (g := g7) mem_ (cutF_ok rfl)))) ?_; clear hs a; rintro _ w ⟨rfl, hf⟩ a hs; replace hm := hm.pu hf; clear hf)) | (with_reducible first | apply lNilThen | apply lNilBlock | apply lNil | apply wp_seq | apply wp_region_lit | apply wp_block | apply cExit | apply cRet | apply cSkip | apply gThen | apply gBlock | apply eThen | apply eBlockHit | refine eBlock rfl ?_ | apply rThen | apply rBlock) | ((with_reducible apply cCond); first | refine cTrue hs rfl bd_ ?_ | refine cFalse hs rfl bd_ ?_))
        obtain ⟨g11, en_⟩ := hs.pt 11 (by exact rfl); subst en_
        refine cMid (fun a w => Sl Tryd.f5.ntmps [(1, .slice (some ⟨b2, o2, none⟩) m d), (5, slv rA k rc), (6, .pointer (some ⟨g6, 0, none⟩)), (7, .pointer (some ⟨g7, 0, none⟩)), (8, .pointer (some ⟨g8, 0, none⟩)), (9, .int .i64 (q2 : Int)), (12, .slice (some ⟨b1, o1, none⟩) n c), (13, .int .i64 (n : Int)), (14, .int .i64 (k : Int)), (34, .slice (some ⟨g34, 0, none⟩) 3 3), (35, .int .i64 3), (36, .int .i64 ((1 : Nat) : Int))] a ∧ Mm (fun _ => False) wB [⟨some g34, 42, [.pointer (some ⟨g8, 3, none⟩), .func (.func 9) #[] #[.pointer (some ⟨g6, 0, none⟩)], .pointer (some ⟨g8, 4, none⟩), .func (.func 10) #[] #[.pointer (some ⟨g7, 0, none⟩)], .pointer (some ⟨g8, 5, none⟩), .func (.func 12) #[] #[.pointer (some ⟨g7, 0, none⟩)]]⟩, ⟨some g8, 34, [.int .i64 (k : Int), .int .i64 fr, .int .i64 fk, (.int .i64 (atE ev q1)), (.int .i64 ea), (.int .i64 (-1))]⟩, ⟨some g7, 28, [.int .i64 0, .int .i64 fr, .int .i64 fk, .int .i64 0, .int .i64 0, .int .i64 0]⟩, ⟨some g6, 3, [.int .i64 (k : Int)]⟩, ⟨rA, 34, rcs⟩] w) ?_ ?_
        · skip
          refine cDraw (n := 9) [⟨some g11, 42, [.pointer (some ⟨g8, 4, none⟩), .func (.func 10) #[] #[.pointer (some ⟨g7, 0, none⟩)]]⟩] hm rfl rfl ?_
          clear hm
          intro w2 hm
          refine hTake 0 hs rfl (by kernel_rfl) (Wnt.none rfl) rfl rfl (by intro w hm; replace hm : Mm _ _ _ w := hm; exact r_val hs tab rfl) (hm.sub sub_) ?_; clear hs a; intro a hs
          refine hTake 1 hs rfl (by kernel_rfl) (Wnt.none rfl) rfl rfl (by intro w hm; replace hm : Mm _ _ _ w := hm; exact klR_) (hm.sub sub_) ?_; clear hs a; intro a hs
          refine hTake 2 hs rfl (by kernel_rfl) (Wnt.none rfl) rfl rfl (by intro w hm; replace hm : Mm _ _ _ w := hm; exact r_val hs tab rfl) (hm.sub sub_) ?_; clear hs a; intro a hs
          refine hTake 3 hs rfl (by kernel_rfl) (Wnt.none rfl) rfl rfl (by intro w hm; replace hm : Mm _ _ _ w := hm; exact r_val hs tab rfl) (hm.sub sub_) ?_; clear hs a; intro a hs
          refine hTake 4 hs rfl (by kernel_rfl) (Wnt.none rfl) rfl rfl (by intro w hm; replace hm : Mm _ _ _ w := hm; (first | exact r_iz hs tab rfl rfl (by omega) | exact r_iy hs tab rfl rfl (by omega))) (hm.sub sub_) ?_; clear hs a; intro a hs
          refine hTake 5 hs rfl (by kernel_rfl) (Wnt.none rfl) rfl rfl (by intro w hm; replace hm : Mm _ _ _ w := hm; exact r_val hs tab rfl) (hm.sub sub_) ?_; clear hs a; intro a hs
          refine hTake 6 hs rfl (by kernel_rfl) (Wnt.none rfl) rfl rfl (by intro w hm; replace hm : Mm _ _ _ w := hm; exact klR_) (hm.sub sub_) ?_; clear hs a; intro a hs
          refine hTake 7 hs rfl (by kernel_rfl) (Wnt.none rfl) rfl rfl (by intro w hm; replace hm : Mm _ _ _ w := hm; exact r_val hs tab rfl) (hm.sub sub_) ?_; clear hs a; intro a hs
          refine hEach [8] (by kernel_rfl) (eDoN hs rfl (Wnt.none rfl) rfl ds_ ?_ eNil)
          clear hs hm
          rintro - w28 hm a hs
          refine ⟨hm.sub sub_, ?_⟩
          refine hDone (by kernel_rfl) ?_
          exact And.intro rfl ⟨hs.sub (Has.all ⟨rfl, rfl, rfl, rfl, rfl, rfl, rfl, rfl, rfl, rfl, rfl, rfl, trivial⟩), hm.sub sub_⟩
        clear hs hm a
        rintro a w2 ⟨hs, hm⟩
        rw [← hat] at hm
        repeat (first | ((with_reducible refine toL hm ?_); (first | refine oneV hs gw_ rfl rfl (by intro w hm; exact kvR_) ?_ | refine oneN hs rfl rfl rfl rfl rfl rfl rfl ?_ | refine oneU hs rfl rfl rfl rfl rfl rfl ?_); clear hs a; intro a hs) | ((with_reducible apply lCons); first | (refine dv hs gw_ rfl rfl da_ ?_; clear hs hm a; rintro _ w ⟨g, rfl, -, hm⟩ a hs) | (refine stn hs rfl rfl ds_ ?_; clear hs hm a; rintro - w hm a hs) ) | (with_reducible first | apply lNilThen | apply lNilBlock | apply lNil | apply wp_seq | apply wp_region_lit | apply wp_block | apply cExit | apply cRet | apply cSkip | apply gThen | apply gBlock | apply eThen | apply eBlockHit | refine eBlock rfl ?_ | apply rThen | apply rBlock) | ((with_reducible apply cCond); first | refine cTrue hs rfl bd_ ?_ | refine cFalse hs rfl bd_ ?_))
        exact ⟨2, by omega, hs.sub (Has.all ⟨rfl, rfl, rfl, rfl, rfl, by rw [stL2, ← hq1, ← hq2]; rfl, rfl, rfl, rfl, rfl, rfl, rfl, trivial⟩), by rw [stL2, ← hq1, ← hq2]; exact hm, ⟨by rw [← hq1]; exact hok1, by rw [← hq2]; exact hlt2⟩, by omega⟩
    · obtain ⟨q1, hq1⟩ : ∃ q, q = p1 ev (k : Int) := ⟨_, rfl⟩
      obtain ⟨q2, hq2⟩ : ∃ q, q = p2 ev (k : Int) (fr, fk) := ⟨_, rfl⟩
      have hok1 : q1 < ev.length := by rw [hq1]; exact hok.1
      have hok2 : q2 < ev.length := by rw [hq2]; exact hok.2
      rw [stL2, ← hq1, ← hq2] at hs hm
      unfold ftV flV at hm
      dsimp only at hm hs
      have c1 : ∀ w'', Pu wB w'' → Ro w'' g7 0 (flV (fr, fk)) → _ := fun w'' hf hg => h3 w'' hf (q2 + 1) g7 (fr, fk) (by omega) hg
      obtain ⟨q3, hq3⟩ : ∃ q, q = p3 ev (k : Int) (fr, fk) := ⟨_, rfl⟩
      have he : aftF (repB fr) ev (q2 + 1) = q3 := by rw [hq3]; unfold p3; rw [← hq2]
      dsimp only at c1
      rw [he] at c1
      have hle : q3 ≤ ev.length := by rw [← he]; exact aft_le _ _ _
      by_cases hp : q3 = m
      · have hz : lineF ev (k : Int) (fr, fk) = ⟨k, fr, fk, atE ev q1, atE ev q2, -1⟩ := by unfold lineF; rw [if_neg (by rw [← hq1]; omega), if_neg (by rw [← hq2]; omega), if_pos (by rw [← hq3]; omega), stL2, ← hq1, ← hq2]
        rw [hz] at hls
        repeat (first | ((with_reducible refine toL hm ?_); (first | refine oneV hs gw_ rfl rfl (by intro w hm; exact kvR_) ?_ | refine oneN hs rfl rfl rfl rfl rfl rfl rfl ?_ | refine oneU hs rfl rfl rfl rfl rfl rfl ?_); clear hs a; intro a hs) | ((with_reducible apply lCons); first | (refine dv hs gw_ rfl rfl da_ ?_; clear hs hm a; rintro _ w ⟨g, rfl, -, hm⟩ a hs) | (refine stn hs rfl rfl ds_ ?_; clear hs hm a; rintro - w hm a hs) | (refine dv hs gw_ rfl rfl (d_call hs rfl rfl rfl (pl 13 rfl) (c1 _ hm.fr (hm.ro (k := 0) (n := 6) (g := g7) mem_ (cutF_ok rfl)))) ?_; clear hs a; rintro _ w ⟨rfl, hf⟩ a hs; replace hm := hm.pu hf; clear hf)) | (with_reducible first | apply lNilThen | apply lNilBlock | apply lNil | apply wp_seq | apply wp_region_lit | apply wp_block | apply cExit | apply cRet | apply cSkip | apply gThen | apply gBlock | apply eThen | apply eBlockHit | refine eBlock rfl ?_ | apply rThen | apply rBlock) | ((with_reducible apply cCond); first | refine cTrue hs rfl bd_ ?_ | refine cFalse hs rfl bd_ ?_))
        refine dv hs (Wnt.none rfl) rfl rfl (d_append (A := rA) (n := k) (c := rc) (news := [.int .i64 (k : Int), .int .i64 fr, .int .i64 fk, (.int .i64 (atE ev q1)), (.int .i64 (atE ev q2)), (.int .i64 (-1))]) hs rfl rfl rfl rfl rfl tab rfl rfl rfl rfl rfl hm mem_ hrow rfl (hm.ro (n := 6) mem_ (cutF_ok rfl)) rfl (by show (k + 1) * 48 ≤ _; omega) (by omega)) ?_
        clear hs
        rintro _ w6 ⟨A2, c2, cs2, rfl, hr2, hM⟩ a hs
        replace hm := (hM _ rep_)
        clear hM
        have hr3 : Row A2 (k + 1) c2 6 ((linesTo ev fs (k + 1)).flatMap ftV) cs2 := by
          rw [hls, List.flatMap_append, List.flatMap_cons, List.flatMap_nil, List.append_nil]
          exact hr2
        repeat (first | ((with_reducible refine toL hm ?_); (first | refine oneV hs gw_ rfl rfl (by intro w hm; exact kvR_) ?_ | refine oneN hs rfl rfl rfl rfl rfl rfl rfl ?_ | refine oneU hs rfl rfl rfl rfl rfl rfl ?_); clear hs a; intro a hs) | ((with_reducible apply lCons); first | (refine dv hs gw_ rfl rfl da_ ?_; clear hs hm a; rintro _ w ⟨g, rfl, -, hm⟩ a hs) | (refine stn hs rfl rfl ds_ ?_; clear hs hm a; rintro - w hm a hs) ) | (with_reducible first | apply lNilThen | apply lNilBlock | apply lNil | apply wp_seq | apply wp_region_lit | apply wp_block | apply cExit | apply cRet | apply cSkip | apply gThen | apply gBlock | apply eThen | apply eBlockHit | refine eBlock rfl ?_ | apply rThen | apply rBlock) | ((with_reducible apply cCond); first | refine cTrue hs rfl bd_ ?_ | refine cFalse hs rfl bd_ ?_))
        exact ⟨⟨k + 1, A2, c2, cs2⟩, by dsimp only; omega, hs.sub (Has.all ⟨rfl, rfl, rfl, rfl, rfl, trivial⟩), hm.sub sub_, by dsimp only; omega, hr3⟩
      · have hlt2 : q3 < ev.length := by omega
        obtain ⟨b2, o2, rfl, hb2, r2⟩ := hy.rd.ro (by rw [flat_len evV 4 evV_len]; dsimp only; omega)
        dsimp only at r2
        have e2 := r2.flat evV_len (k := q3) hlt2
        have hat : atE ev q3 = (ev[q3]).a := by unfold atE; rw [List.getElem?_eq_getElem hlt2]
        generalize ev[q3] = e at e2 hat
        obtain ⟨ea, ek, er, ed⟩ := e
        unfold evV at e2
        dsimp only at e2 hat
        repeat (first | ((with_reducible refine toL hm ?_); (first | refine oneV hs gw_ rfl rfl (by intro w hm; exact kvR_) ?_ | refine oneN hs rfl rfl rfl rfl rfl rfl rfl ?_ | refine oneU hs rfl rfl rfl rfl rfl rfl ?_); clear hs a; intro a hs) | ((with_reducible apply lCons); first | (refine dv hs gw_ rfl rfl da_ ?_; clear hs hm a; rintro _ w ⟨g, rfl, -, hm⟩ a hs) | (refine stn hs rfl rfl ds_ ?_; clear hs hm a; rintro - w hm a hs) | (refine dv hs gw_ rfl rfl (d_call hs rfl rfl rfl (pl 13 rfl) (c1 _ hm.fr (hm.ro (k := 0) (n := 6) (g := g7) mem_ (cutF_ok rfl)))) ?_; clear hs a; rintro _ w ⟨rfl, hf⟩ a hs; replace hm := hm.pu hf; clear hf)) | (with_reducible first | apply lNilThen | apply lNilBlock | apply lNil | apply wp_seq | apply wp_region_lit | apply wp_block | apply cExit | apply cRet | apply cSkip | apply gThen | apply gBlock | apply eThen | apply eBlockHit | refine eBlock rfl ?_ | apply rThen | apply rBlock) | ((with_reducible apply cCond); first | refine cTrue hs rfl bd_ ?_ | refine cFalse hs rfl bd_ ?_))
        obtain ⟨g11, en_⟩ := hs.pt 11 (by exact rfl); subst en_
        refine cMid (fun a w => Sl Tryd.f5.ntmps [(1, .slice (some ⟨b2, o2, none⟩) m d), (5, slv rA k rc), (6, .pointer (some ⟨g6, 0, none⟩)), (7, .pointer (some ⟨g7, 0, none⟩)), (8, .pointer (some ⟨g8, 0, none⟩)), (9, .int .i64 (q3 : Int)), (12, .slice (some ⟨b1, o1, none⟩) n c), (13, .int .i64 (n : Int)), (14, .int .i64 (k : Int)), (34, .slice (some ⟨g34, 0, none⟩) 3 3), (35, .int .i64 3), (36, .int .i64 ((2 : Nat) : Int))] a ∧ Mm (fun _ => False) wB [⟨some g34, 42, [.pointer (some ⟨g8, 3, none⟩), .func (.func 9) #[] #[.pointer (some ⟨g6, 0, none⟩)], .pointer (some ⟨g8, 4, none⟩), .func (.func 10) #[] #[.pointer (some ⟨g7, 0, none⟩)], .pointer (some ⟨g8, 5, none⟩), .func (.func 12) #[] #[.pointer (some ⟨g7, 0, none⟩)]]⟩, ⟨some g8, 34, [.int .i64 (k : Int), .int .i64 fr, .int .i64 fk, (.int .i64 (atE ev q1)), (.int .i64 (atE ev q2)), (.int .i64 ea)]⟩, ⟨some g7, 28, [.int .i64 0, .int .i64 fr, .int .i64 fk, .int .i64 0, .int .i64 0, .int .i64 0]⟩, ⟨some g6, 3, [.int .i64 (k : Int)]⟩, ⟨rA, 34, rcs⟩] w) ?_ ?_
        · skip
          refine cDraw (n := 9) [⟨some g11, 42, [.pointer (some ⟨g8, 5, none⟩), .func (.func 12) #[] #[.pointer (some ⟨g7, 0, none⟩)]]⟩] hm rfl rfl ?_
          clear hm
          intro w2 hm
          refine hTake 0 hs rfl (by kernel_rfl) (Wnt.none rfl) rfl rfl (by intro w hm; replace hm : Mm _ _ _ w := hm; exact r_val hs tab rfl) (hm.sub sub_) ?_; clear hs a; intro a hs
          refine hTake 1 hs rfl (by kernel_rfl) (Wnt.none rfl) rfl rfl (by intro w hm; replace hm : Mm _ _ _ w := hm; exact klR_) (hm.sub sub_) ?_; clear hs a; intro a hs
          refine hTake 2 hs rfl (by kernel_rfl) (Wnt.none rfl) rfl rfl (by intro w hm; replace hm : Mm _ _ _ w := hm; exact r_val hs tab rfl) (hm.sub sub_) ?_; clear hs a; intro a hs
          refine hTake 3 hs rfl (by kernel_rfl) (Wnt.none rfl) rfl rfl (by intro w hm; replace hm : Mm _ _ _ w := hm; exact r_val hs tab rfl) (hm.sub sub_) ?_; clear hs a; intro a hs
          refine hTake 4 hs rfl (by kernel_rfl) (Wnt.none rfl) rfl rfl (by intro w hm; replace hm : Mm _ _ _ w := hm; (first | exact r_iz hs tab rfl rfl (by omega) | exact r_iy hs tab rfl rfl (by omega))) (hm.sub sub_) ?_; clear hs a; intro a hs
          refine hTake 5 hs rfl (by kernel_rfl) (Wnt.none rfl) rfl rfl (by intro w hm; replace hm : Mm _ _ _ w := hm; exact r_val hs tab rfl) (hm.sub sub_) ?_; clear hs a; intro a hs
          refine hTake 6 hs rfl (by kernel_rfl) (Wnt.none rfl) rfl rfl (by intro w hm; replace hm : Mm _ _ _ w := hm; exact klR_) (hm.sub sub_) ?_; clear hs a; intro a hs
          refine hTake 7 hs rfl (by kernel_rfl) (Wnt.none rfl) rfl rfl (by intro w hm; replace hm : Mm _ _ _ w := hm; exact r_val hs tab rfl) (hm.sub sub_) ?_; clear hs a; intro a hs
          refine hEach [8] (by kernel_rfl) (eDoN hs rfl (Wnt.none rfl) rfl ds_ ?_ eNil)
          clear hs hm
          rintro - w28 hm a hs
          refine ⟨hm.sub sub_, ?_⟩
          refine hDone (by kernel_rfl) ?_
          exact And.intro rfl ⟨hs.sub (Has.all ⟨rfl, rfl, rfl, rfl, rfl, rfl, rfl, rfl, rfl, rfl, rfl, rfl, trivial⟩), hm.sub sub_⟩
        clear hs hm a
        rintro a w2 ⟨hs, hm⟩
        rw [← hat] at hm
        repeat (first | ((with_reducible refine toL hm ?_); (first | refine oneV hs gw_ rfl rfl (by intro w hm; exact kvR_) ?_ | refine oneN hs rfl rfl rfl rfl rfl rfl rfl ?_ | refine oneU hs rfl rfl rfl rfl rfl rfl ?_); clear hs a; intro a hs) | ((with_reducible apply lCons); first | (refine dv hs gw_ rfl rfl da_ ?_; clear hs hm a; rintro _ w ⟨g, rfl, -, hm⟩ a hs) | (refine stn hs rfl rfl ds_ ?_; clear hs hm a; rintro - w hm a hs) ) | (with_reducible first | apply lNilThen | apply lNilBlock | apply lNil | apply wp_seq | apply wp_region_lit | apply wp_block | apply cExit | apply cRet | apply cSkip | apply gThen | apply gBlock | apply eThen | apply eBlockHit | refine eBlock rfl ?_ | apply rThen | apply rBlock) | ((with_reducible apply cCond); first | refine cTrue hs rfl bd_ ?_ | refine cFalse hs rfl bd_ ?_))
        exact ⟨3, by omega, hs.sub (Has.all ⟨rfl, rfl, rfl, rfl, rfl, by rw [stL3, ← hq1, ← hq2, ← hq3]; rfl, rfl, rfl, rfl, rfl, rfl, rfl, trivial⟩), by rw [stL3, ← hq1, ← hq2, ← hq3]; exact hm, ⟨by rw [← hq1]; exact hok1, by rw [← hq2]; exact hok2, by rw [← hq3]; exact hlt2⟩, by omega⟩
    · obtain ⟨q1, hq1⟩ : ∃ q, q = p1 ev (k : Int) := ⟨_, rfl⟩
      obtain ⟨q2, hq2⟩ : ∃ q, q = p2 ev (k : Int) (fr, fk) := ⟨_, rfl⟩
      obtain ⟨q3, hq3⟩ : ∃ q, q = p3 ev (k : Int) (fr, fk) := ⟨_, rfl⟩
      have hok1 : q1 < ev.length := by rw [hq1]; exact hok.1
      have hok2 : q2 < ev.length := by rw [hq2]; exact hok.2.1
      have hok3 : q3 < ev.length := by rw [hq3]; exact hok.2.2
      rw [stL3, ← hq1, ← hq2, ← hq3] at hs hm
      unfold ftV flV at hm
      dsimp only at hm hs
      have hz : lineF ev (k : Int) (fr, fk) = ⟨k, fr, fk, atE ev q1, atE ev q2, atE ev q3⟩ := by unfold lineF; rw [if_neg (by rw [← hq1]; omega), if_neg (by rw [← hq2]; omega), if_neg (by rw [← hq3]; omega), stL3, ← hq1, ← hq2, ← hq3]
      rw [hz] at hls
      repeat (first | ((with_reducible refine toL hm ?_); (first | refine oneV hs gw_ rfl rfl (by intro w hm; exact kvR_) ?_ | refine oneN hs rfl rfl rfl rfl rfl rfl rfl ?_ | refine oneU hs rfl rfl rfl rfl rfl rfl ?_); clear hs a; intro a hs) | ((with_reducible apply lCons); first | (refine dv hs gw_ rfl rfl da_ ?_; clear hs hm a; rintro _ w ⟨g, rfl, -, hm⟩ a hs) | (refine stn hs rfl rfl ds_ ?_; clear hs hm a; rintro - w hm a hs) ) | (with_reducible first | apply lNilThen | apply lNilBlock | apply lNil | apply wp_seq | apply wp_region_lit | apply wp_block | apply cExit | apply cRet | apply cSkip | apply gThen | apply gBlock | apply eThen | apply eBlockHit | refine eBlock rfl ?_ | apply rThen | apply rBlock) | ((with_reducible apply cCond); first | refine cTrue hs rfl bd_ ?_ | refine cFalse hs rfl bd_ ?_))
      refine dv hs (Wnt.none rfl) rfl rfl (d_append (A := rA) (n := k) (c := rc) (news := [.int .i64 (k : Int), .int .i64 fr, .int .i64 fk, (.int .i64 (atE ev q1)), (.int .i64 (atE ev q2)), (.int .i64 (atE ev q3))]) hs rfl rfl rfl rfl rfl tab rfl rfl rfl rfl rfl hm mem_ hrow rfl (hm.ro (n := 6) mem_ (cutF_ok rfl)) rfl (by show (k + 1) * 48 ≤ _; omega) (by omega)) ?_
      clear hs
      rintro _ w6 ⟨A2, c2, cs2, rfl, hr2, hM⟩ a hs
      replace hm := (hM _ rep_)
      clear hM
      have hr3 : Row A2 (k + 1) c2 6 ((linesTo ev fs (k + 1)).flatMap ftV) cs2 := by
        rw [hls, List.flatMap_append, List.flatMap_cons, List.flatMap_nil, List.append_nil]
        exact hr2
      repeat (first | ((with_reducible refine toL hm ?_); (first | refine oneV hs gw_ rfl rfl (by intro w hm; exact kvR_) ?_ | refine oneN hs rfl rfl rfl rfl rfl rfl rfl ?_ | refine oneU hs rfl rfl rfl rfl rfl rfl ?_); clear hs a; intro a hs) | ((with_reducible apply lCons); first | (refine dv hs gw_ rfl rfl da_ ?_; clear hs hm a; rintro _ w ⟨g, rfl, -, hm⟩ a hs) | (refine stn hs rfl rfl ds_ ?_; clear hs hm a; rintro - w hm a hs) ) | (with_reducible first | apply lNilThen | apply lNilBlock | apply lNil | apply wp_seq | apply wp_region_lit | apply wp_block | apply cExit | apply cRet | apply cSkip | apply gThen | apply gBlock | apply eThen | apply eBlockHit | refine eBlock rfl ?_ | apply rThen | apply rBlock) | ((with_reducible apply cCond); first | refine cTrue hs rfl bd_ ?_ | refine cFalse hs rfl bd_ ?_))
      exact ⟨⟨k + 1, A2, c2, cs2⟩, by dsimp only; omega, hs.sub (Has.all ⟨rfl, rfl, rfl, rfl, rfl, trivial⟩), hm.sub sub_, by dsimp only; omega, hr3⟩
  · obtain rfl : k = n := by omega
    repeat (first | ((with_reducible refine toL hm ?_); (first | refine oneV hs gw_ rfl rfl (by intro w hm; exact kvR_) ?_ | refine oneN hs rfl rfl rfl rfl rfl rfl rfl ?_ | refine oneU hs rfl rfl rfl rfl rfl rfl ?_); clear hs a; intro a hs) | ((with_reducible apply lCons); first | (refine dv hs gw_ rfl rfl da_ ?_; clear hs hm a; rintro _ w ⟨g, rfl, -, hm⟩ a hs) | (refine stn hs rfl rfl ds_ ?_; clear hs hm a; rintro - w hm a hs) ) | (with_reducible first | apply lNilThen | apply lNilBlock | apply lNil | apply wp_seq | apply wp_region_lit | apply wp_block | apply cExit | apply cRet | apply cSkip | apply gThen | apply gBlock | apply eThen | apply eBlockHit | refine eBlock rfl ?_ | apply rThen | apply rBlock) | ((with_reducible apply cCond); first | refine cTrue hs rfl bd_ ?_ | refine cFalse hs rfl bd_ ?_))
    exact gRet1 hs rfl rfl ⟨⟨rA.map fun g => ⟨g, 0, none⟩, k, rc, linesTo ev fs k⟩, rfl, ⟨linesTo_len _ _ _, hm.rd_row mem_ hrow⟩, rfl, hrow.le, hm.fr⟩
end Go.Proofs.YtlapnhpaedkgcaaDoor
