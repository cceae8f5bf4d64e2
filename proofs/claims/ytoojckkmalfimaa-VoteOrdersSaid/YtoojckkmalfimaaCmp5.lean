/- A copy of bytes; classes that grow. -/
import Derived.Test.YtoojckkmalfimaaCmp4
namespace Go.Proofs.Ytoojckkmalfimaa
open Go.RowKit

theorem Row.room0 (g : Nat) (s : Nat) : Row (some g) 0 0 s [] [] := ⟨(fun e => by cases e), Nat.le_refl _, Nat.zero_le _, by simp, by simp, by simp⟩
theorem isB_one (xs : List Int) : (bys xs).all (·.oneCell') = true := by simp [bys, Value.oneCell']
set_option maxHeartbeats 1000000 in
theorem bclone_c (b : BS) (w : World) (hb : b.ok w) (hn : b.n ≤ 140737488351232) :
    Ret Try.prog 29 [b.v] w (fun v w' => ∃ A c cs, v = slv A b.n c ∧ Row A b.n c 1 (bys b.xs) cs ∧ New w w' [⟨A, 5, cs⟩] ∧ Pu w w') := by
  obtain ⟨A, n, c, xs⟩ := b
  obtain ⟨h1, h2, h3⟩ := hb
  unfold BS.v
  dsimp only at *
  cases A with
  | none =>
    have : xs = [] := by
      cases xs with
      | nil => rfl
      | cons x r => obtain ⟨b, off, e, _⟩ := h2 (by simp [bys]); cases e
    subst this
    have : n = 0 := by simpa using h1.symm
    subst this
    refine enterR Try.func29 rfl rfl rfl fun a hs hm => ?_
    repeat (first
      | ((with_reducible refine toL hm ?_); (first
          | refine oneV hs (by first | exact Wnt.none rfl | exact Wnt.some rfl rfl rfl rfl) rfl rfl (by intro w hm; (first | exact r_val hs tab rfl | exact r_load hs rfl rfl tab rfl rfl (by first | exact hm.cl (by repeat (first | exact mH | apply mT)) (by first | rfl | assumption) | exact Ro.cl (by assumption) hm (by first | exact (fun t => t) | assumption) (by first | rfl | assumption) | exact Ro.cl0 (by assumption) hm (by first | exact (fun t => t) | assumption) (by first | rfl | assumption)) | exact r_loadO hs rfl rfl tab rfl rfl rfl hm (by repeat (first | exact mH | apply mT)) (by rfl) | exact r_loadA hs rfl rfl tab rfl rfl (Ro.ro (by assumption) hm (by first | exact (fun t => t) | assumption)) rfl | exact r_iz hs tab rfl rfl (by omega) | exact r_iy hs tab rfl rfl (by omega) | exact r_cT hs rfl (by omega) | exact r_cF hs rfl (by omega) | exact r_arH hs rfl (by assumption) (by omega) | exact r_ar hs rfl (by omega) | exact r_bi hs rfl | exact r_pick hs rfl rfl rfl rfl)) ?_
          | refine oneN hs rfl rfl rfl rfl rfl rfl rfl ?_
          | refine oneU hs rfl rfl rfl rfl rfl rfl ?_); clear hs a; intro a hs)
      | ((with_reducible apply lCons); (first
          | (refine dv hs (by first | exact Wnt.none rfl | exact Wnt.some rfl rfl rfl rfl) rfl rfl (by first | exact d_alloc rfl tab rfl rfl hm | exact d_box hs rfl rfl rfl hm | exact d_buildSlice0 rfl tab rfl rfl rfl hm | exact d_buildSlice hs rfl tab rfl rfl rfl rfl rfl rfl rfl rfl rfl hm) ?_; clear hs hm a; rintro _ w ⟨g, rfl, -, hm⟩ a hs)
          | (refine stn hs rfl rfl (by first | exact d_store hs rfl rfl rfl tab rfl rfl rfl rfl hm (by repeat (first | exact Rep.head _ _ _ | apply Rep.tail)) (by rfl) | exact d_store1 hs rfl rfl rfl tab rfl rfl rfl rfl hm (by repeat (first | exact Rep.head _ _ _ | apply Rep.tail)) (by first | omega | assumption | (simp; omega))) ?_; clear hs hm a; rintro - w hm a hs)
          ))
      | (with_reducible first | apply lNilThen | apply lNilBlock | apply lNil | apply wp_seq | apply wp_region_lit | apply wp_block | apply cExit | apply cRet | apply cSkip | apply gThen | apply gBlock | apply eThen | apply eBlockHit | refine eBlock rfl ?_ | apply rThen | apply rBlock)
      | ((with_reducible apply cCond); (first | refine cTrue hs rfl (by first | rfl | assumption | exact decide_eq_true (by omega) | exact decide_eq_false (by omega) | exact ndT (by omega) | exact ndF (by omega)) ?_ | refine cFalse hs rfl (by first | rfl | assumption | exact decide_eq_true (by omega) | exact decide_eq_false (by omega) | exact ndT (by omega) | exact ndF (by omega)) ?_))
      )
    exact gRet1 hs rfl rfl ⟨none, 0, [], rfl, Row.empty 1, ⟨fun x hx => (by rcases List.mem_singleton.1 hx with rfl; rfl), ⟨fun x hx => (by cases hx), trivial⟩, fun x hx g hg => (by rcases List.mem_singleton.1 hx with rfl; cases hg)⟩, hm.fr⟩
  | some p =>
    refine enterR Try.func29 rfl rfl rfl fun a hs hm => ?_
    repeat (first
      | ((with_reducible refine toL hm ?_); (first
          | refine oneV hs (by first | exact Wnt.none rfl | exact Wnt.some rfl rfl rfl rfl) rfl rfl (by intro w hm; (first | exact r_val hs tab rfl | exact r_load hs rfl rfl tab rfl rfl (by first | exact hm.cl (by repeat (first | exact mH | apply mT)) (by first | rfl | assumption) | exact Ro.cl (by assumption) hm (by first | exact (fun t => t) | assumption) (by first | rfl | assumption) | exact Ro.cl0 (by assumption) hm (by first | exact (fun t => t) | assumption) (by first | rfl | assumption)) | exact r_loadO hs rfl rfl tab rfl rfl rfl hm (by repeat (first | exact mH | apply mT)) (by rfl) | exact r_loadA hs rfl rfl tab rfl rfl (Ro.ro (by assumption) hm (by first | exact (fun t => t) | assumption)) rfl | exact r_iz hs tab rfl rfl (by omega) | exact r_iy hs tab rfl rfl (by omega) | exact r_cT hs rfl (by omega) | exact r_cF hs rfl (by omega) | exact r_arH hs rfl (by assumption) (by omega) | exact r_ar hs rfl (by omega) | exact r_bi hs rfl | exact r_pick hs rfl rfl rfl rfl)) ?_
          | refine oneN hs rfl rfl rfl rfl rfl rfl rfl ?_
          | refine oneU hs rfl rfl rfl rfl rfl rfl ?_); clear hs a; intro a hs)
      | ((with_reducible apply lCons); (first
          | (refine dv hs (by first | exact Wnt.none rfl | exact Wnt.some rfl rfl rfl rfl) rfl rfl (by first | exact d_alloc rfl tab rfl rfl hm | exact d_box hs rfl rfl rfl hm | exact d_buildSlice0 rfl tab rfl rfl rfl hm | exact d_buildSlice hs rfl tab rfl rfl rfl rfl rfl rfl rfl rfl rfl hm) ?_; clear hs hm a; rintro _ w ⟨g, rfl, -, hm⟩ a hs)
          | (refine stn hs rfl rfl (by first | exact d_store hs rfl rfl rfl tab rfl rfl rfl rfl hm (by repeat (first | exact Rep.head _ _ _ | apply Rep.tail)) (by rfl) | exact d_store1 hs rfl rfl rfl tab rfl rfl rfl rfl hm (by repeat (first | exact Rep.head _ _ _ | apply Rep.tail)) (by first | omega | assumption | (simp; omega))) ?_; clear hs hm a; rintro - w hm a hs)
          ))
      | (with_reducible first | apply lNilThen | apply lNilBlock | apply lNil | apply wp_seq | apply wp_region_lit | apply wp_block | apply cExit | apply cRet | apply cSkip | apply gThen | apply gBlock | apply eThen | apply eBlockHit | refine eBlock rfl ?_ | apply rThen | apply rBlock)
      | ((with_reducible apply cCond); (first | refine cTrue hs rfl (by first | rfl | assumption | exact decide_eq_true (by omega) | exact decide_eq_false (by omega) | exact ndT (by omega) | exact ndF (by omega)) ?_ | refine cFalse hs rfl (by first | rfl | assumption | exact decide_eq_true (by omega) | exact decide_eq_false (by omega) | exact ndT (by omega) | exact ndF (by omega)) ?_))
      )
    refine dv hs (Wnt.none rfl) rfl rfl (d_appendS (A := some g) (n := 0) (c := 0) hs rfl rfl rfl rfl tab rfl rfl rfl rfl rfl hm (List.Mem.head _) (Row.room0 g _) (by rw [bys_len, h1]; exact (Nat.mul_one _).symm) (hm.fr.rd' h2) (isB_one xs) (by show (0 + n) * 1 ≤ _; omega) (by omega)) ?_
    clear hs
    rintro _ w1 ⟨A', c', cs', rfl, hr, hM⟩ a hs
    replace hm := hM _ (Rep.head _ _ _)
    clear hM
    repeat (first
      | ((with_reducible refine toL hm ?_); (first
          | refine oneV hs (by first | exact Wnt.none rfl | exact Wnt.some rfl rfl rfl rfl) rfl rfl (by intro w hm; (first | exact r_val hs tab rfl | exact r_load hs rfl rfl tab rfl rfl (by first | exact hm.cl (by repeat (first | exact mH | apply mT)) (by first | rfl | assumption) | exact Ro.cl (by assumption) hm (by first | exact (fun t => t) | assumption) (by first | rfl | assumption) | exact Ro.cl0 (by assumption) hm (by first | exact (fun t => t) | assumption) (by first | rfl | assumption)) | exact r_loadO hs rfl rfl tab rfl rfl rfl hm (by repeat (first | exact mH | apply mT)) (by rfl) | exact r_loadA hs rfl rfl tab rfl rfl (Ro.ro (by assumption) hm (by first | exact (fun t => t) | assumption)) rfl | exact r_iz hs tab rfl rfl (by omega) | exact r_iy hs tab rfl rfl (by omega) | exact r_cT hs rfl (by omega) | exact r_cF hs rfl (by omega) | exact r_arH hs rfl (by assumption) (by omega) | exact r_ar hs rfl (by omega) | exact r_bi hs rfl | exact r_pick hs rfl rfl rfl rfl)) ?_
          | refine oneN hs rfl rfl rfl rfl rfl rfl rfl ?_
          | refine oneU hs rfl rfl rfl rfl rfl rfl ?_); clear hs a; intro a hs)
      | ((with_reducible apply lCons); (first
          | (refine dv hs (by first | exact Wnt.none rfl | exact Wnt.some rfl rfl rfl rfl) rfl rfl (by first | exact d_alloc rfl tab rfl rfl hm | exact d_box hs rfl rfl rfl hm | exact d_buildSlice0 rfl tab rfl rfl rfl hm | exact d_buildSlice hs rfl tab rfl rfl rfl rfl rfl rfl rfl rfl rfl hm) ?_; clear hs hm a; rintro _ w ⟨g, rfl, -, hm⟩ a hs)
          | (refine stn hs rfl rfl (by first | exact d_store hs rfl rfl rfl tab rfl rfl rfl rfl hm (by repeat (first | exact Rep.head _ _ _ | apply Rep.tail)) (by rfl) | exact d_store1 hs rfl rfl rfl tab rfl rfl rfl rfl hm (by repeat (first | exact Rep.head _ _ _ | apply Rep.tail)) (by first | omega | assumption | (simp; omega))) ?_; clear hs hm a; rintro - w hm a hs)
          ))
      | (with_reducible first | apply lNilThen | apply lNilBlock | apply lNil | apply wp_seq | apply wp_region_lit | apply wp_block | apply cExit | apply cRet | apply cSkip | apply gThen | apply gBlock | apply eThen | apply eBlockHit | refine eBlock rfl ?_ | apply rThen | apply rBlock)
      | ((with_reducible apply cCond); (first | refine cTrue hs rfl (by first | rfl | assumption | exact decide_eq_true (by omega) | exact decide_eq_false (by omega) | exact ndT (by omega) | exact ndF (by omega)) ?_ | refine cFalse hs rfl (by first | rfl | assumption | exact decide_eq_true (by omega) | exact decide_eq_false (by omega) | exact ndT (by omega) | exact ndF (by omega)) ?_))
      )
    refine gRet1 hs rfl rfl ⟨A', c', cs', ?_, ?_, hm.new (List.Sublist.refl _), hm.fr⟩
    · rw [Nat.zero_add]
    · rwa [Nat.zero_add, List.nil_append] at hr

/-- a class that grows: its bytes' and its members' blocks -/
structure OC where
  h : Bool
  bx : List Int
  bA : Option Nat
  bc : Nat
  bcs : List Value
  ms : List Int
  mA : Option Nat
  mc : Nat
  mcs : List Value
def gA (A : Option Nat) : Option Addr := A.map fun g => ⟨g, 0, none⟩
def OC.cl (x : OC) : Cl := ⟨x.h, ⟨gA x.bA, x.bx.length, x.bc, x.bx⟩, ⟨gA x.mA, x.ms.length, x.mc, x.ms⟩⟩
structure OC.ok (x : OC) : Prop where
  b : Row x.bA x.bx.length x.bc 1 (bys x.bx) x.bcs
  m : Row x.mA x.ms.length x.mc 1 (ints x.ms) x.mcs
  i : IsB x.bx
def OC.mh (x : OC) : Hp := ⟨x.mA, 3, x.mcs⟩
def OC.bh (x : OC) : Hp := ⟨x.bA, 5, x.bcs⟩
def hps (l : List OC) : List Hp := l.map OC.mh ++ l.map OC.bh
/-- what a class says -/
def Cl.abs (x : Cl) : Bool × List Int × List Int := (x.h, x.b.xs, x.m.xs)
def OC.abs (x : OC) : Bool × List Int × List Int := (x.h, x.bx, x.ms)
theorem OC.cl_abs (x : OC) : x.cl.abs = x.abs := rfl
theorem oc_ok {S : Nat → Prop} {w0 w : World} {M : List Hp} (hm : Mm S w0 M w) {A : Option Nat} {c : Nat} {cs : List Value} {l : List OC} (hA : (⟨A, 49, cs⟩ : Hp) ∈ M) (hl : ∀ x ∈ hps l, x ∈ M) (hr : Row A l.length c 3 ((l.map OC.cl).flatMap Cl.cs) cs) (ho : ∀ x ∈ l, x.ok) : (CS.mk (gA A) l.length c (l.map OC.cl)).ok w := by
  refine ⟨by simp, hm.rd_row hA hr, fun x hx => ?_⟩
  obtain ⟨y, hy, rfl⟩ := List.mem_map.1 hx
  have h1 := ho y hy
  refine ⟨⟨rfl, hm.rd_row (hl y.bh ?_) h1.b, h1.i⟩, ⟨rfl, hm.rd_row (hl y.mh ?_) h1.m⟩⟩
  · exact List.mem_append_right _ (List.mem_map.2 ⟨y, hy, rfl⟩)
  · exact List.mem_append_left _ (List.mem_map.2 ⟨y, hy, rfl⟩)

/-- where an answer goes -/
def sameC (y : Bool × List Int) (x : Bool × List Int × List Int) : Bool := (y.1 == x.1) && (!y.1 || decide (y.2 = x.2.1))
def addC (l : List (Bool × List Int × List Int)) (y : Bool × List Int) (i : Int) : List (Bool × List Int × List Int) :=
  let k := l.findIdx (sameC y)
  match l[k]? with
  | some x => l.set k (x.1, x.2.1, x.2.2 ++ [i])
  | none => l ++ [(y.1, if y.1 then y.2 else [], [i])]
/-- the classes of the first k answers -/
def clsTo (l : List (Bool × List Int)) (s : List Bool) : Nat → List (Bool × List Int × List Int)
  | 0 => []
  | k + 1 => if s.getD k false then addC (clsTo l s k) (l.getD k (false, [])) k else clsTo l s k
theorem addC_len (l : List (Bool × List Int × List Int)) (y : Bool × List Int) (i : Int) : (addC l y i).length ≤ l.length + 1 := by
  unfold addC
  dsimp only
  split <;> simp
theorem clsTo_len (l : List (Bool × List Int)) (s : List Bool) (k : Nat) : (clsTo l s k).length ≤ k := by
  induction k with
  | zero => simp [clsTo]
  | succ k ih =>
    simp only [clsTo]
    split
    · have := addC_len (clsTo l s k) (l.getD k (false, [])) k
      omega
    · omega
def An.abs (x : An) : Bool × List Int := (x.h, x.b.xs)
theorem fnd_abs (y : An) (l : List OC) : fnd y (l.map OC.cl) = (l.map OC.abs).findIdx (sameC y.abs) := by
  unfold fnd
  rw [List.findIdx_map, List.findIdx_map]
  rfl
end Go.Proofs.Ytoojckkmalfimaa
