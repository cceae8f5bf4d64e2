/- Layer 9: canonical cells; what operations give in two layouts. -/
import Derived.Test.YtfcimpfhfbkgbaaLay11
import Derived.Test.YtfcimpfhfbkgbaaPro9
import Derived.Test.YtfcimpfhfbkgbaaLay5
import Derived.Test.YtfcimpfhfbkgbaaDck5
namespace Go.Proofs.Ytfcimpfhfbkgbaa
open Go.RowKit

/-- the canonical form of a cell -/
def canF (x : LS) (t v : Int) : Int × Int × Int × Int :=
  if t = 0 then (0, v, 0, 0) else if t = 2 then (2, IntKind.u16.wrap (v - x.key), 0, 0) else match resF x.bs x.ss v x.n with
    | some (r, o) => (1, 0, (r : Int), o)
    | none => (1, 0, -1, v)

set_option maxHeartbeats 1000000 in
theorem can_c (x : LS) (t v : Int) (w : World) (hx : x.ok w) (ht : t = 0 ∨ t = 1 ∨ t = 2) (hv : t = 1 → 0 ≤ v ∧ v ≤ 65535) :
    Ret Try.prog 21 [x.l, x.s, clV t v] w (fun u w' => u = cnV (canF x t v).1 (canF x t v).2.1 (canF x t v).2.2.1 (canF x t v).2.2.2 ∧ Pu w w') := by
  rcases ht with rfl | rfl | rfl
  · unfold canF LS.l LS.s clV cnV
    rw [if_pos rfl]
    refine enterR Try.func21 rfl rfl rfl fun a hs hm => ?_
    repeat (first | ((with_reducible refine toL hm ?_); (first | refine oneV hs gw_ rfl rfl (by intro w hm; (first | exact kvR_ | exact r_b2s hs rfl rfl tab rfl rfl rfl rfl rfl rfl (by first | exact Fr.rd' hm.fr (by assumption) | exact Mm.rd_row hm mem_ (by assumption)) (by assumption))) ?_ | refine oneN hs rfl rfl rfl rfl rfl rfl rfl ?_ | refine oneU hs rfl rfl rfl rfl rfl rfl ?_); clear hs a; intro a hs) | ((with_reducible apply lCons); first | (refine dv hs gw_ rfl rfl da_ ?_; clear hs hm a; rintro _ w ⟨g, rfl, -, hm⟩ a hs) | (refine stn hs rfl rfl ds_ ?_; clear hs hm a; rintro - w hm a hs) ) | (with_reducible first | apply lNilThen | apply lNilBlock | apply lNil | apply wp_seq | apply wp_region_lit | apply wp_block | apply cExit | apply cRet | apply cSkip | apply gThen | apply gBlock | apply eThen | apply eBlockHit | refine eBlock rfl ?_ | apply rThen | apply rBlock) | ((with_reducible apply cCond); first | refine cTrue hs rfl bd_ ?_ | refine cFalse hs rfl bd_ ?_))
    exact gRetN tab hs rfl (.cons (.cells rfl rfl rfl rfl (hm.ro (k := 0) (n := 4) mem_ (cutF_ok rfl))) .nil) ⟨rfl, hm.fr⟩
  · have hrs := hx.rrsv (hv rfl)
    replace hv := hv rfl
    have hwk := wrapS hv
    unfold canF
    rw [if_neg (by omega), if_neg (by omega)]
    unfold LS.l LS.s clV cnV at *
    cases hq : resF x.bs x.ss v x.n with
    | none =>
      rw [hq] at hrs
      unfold rsvV at hrs
      refine enterR Try.func21 rfl rfl rfl fun a hs hm => ?_
      repeat (first | ((with_reducible refine toL hm ?_); (first | refine oneV hs gw_ rfl rfl (by intro w hm; (first | exact kvR_ | exact r_b2s hs rfl rfl tab rfl rfl rfl rfl rfl rfl (by first | exact Fr.rd' hm.fr (by assumption) | exact Mm.rd_row hm mem_ (by assumption)) (by assumption))) ?_ | refine oneN hs rfl rfl rfl rfl rfl rfl rfl ?_ | refine oneU hs rfl rfl rfl rfl rfl rfl ?_); clear hs a; intro a hs) | ((with_reducible apply lCons); first | (refine dv hs gw_ rfl rfl da_ ?_; clear hs hm a; rintro _ w ⟨g, rfl, -, hm⟩ a hs) | (refine stn hs rfl rfl ds_ ?_; clear hs hm a; rintro - w hm a hs) | (refine dv hs gw_ rfl rfl (d_call hs rfl rfl rfl (pl 24 rfl) (hrs _ hm.fr)) ?_; clear hs a; rintro _ w ⟨rfl, hf⟩ a hs; replace hm := hm.pu hf; clear hf)) | (with_reducible first | apply lNilThen | apply lNilBlock | apply lNil | apply wp_seq | apply wp_region_lit | apply wp_block | apply cExit | apply cRet | apply cSkip | apply gThen | apply gBlock | apply eThen | apply eBlockHit | refine eBlock rfl ?_ | apply rThen | apply rBlock) | ((with_reducible apply cCond); first | refine cTrue hs rfl bd_ ?_ | refine cFalse hs rfl bd_ ?_))
      rw [hwk] at hm
      exact gRetN tab hs rfl (.cons (.cells rfl rfl rfl rfl (hm.ro (k := 0) (n := 4) mem_ (cutF_ok rfl))) .nil) ⟨rfl, hm.fr⟩
    | some p =>
      obtain ⟨r, o⟩ := p
      rw [hq] at hrs
      unfold rsvV at hrs
      refine enterR Try.func21 rfl rfl rfl fun a hs hm => ?_
      repeat (first | ((with_reducible refine toL hm ?_); (first | refine oneV hs gw_ rfl rfl (by intro w hm; (first | exact kvR_ | exact r_b2s hs rfl rfl tab rfl rfl rfl rfl rfl rfl (by first | exact Fr.rd' hm.fr (by assumption) | exact Mm.rd_row hm mem_ (by assumption)) (by assumption))) ?_ | refine oneN hs rfl rfl rfl rfl rfl rfl rfl ?_ | refine oneU hs rfl rfl rfl rfl rfl rfl ?_); clear hs a; intro a hs) | ((with_reducible apply lCons); first | (refine dv hs gw_ rfl rfl da_ ?_; clear hs hm a; rintro _ w ⟨g, rfl, -, hm⟩ a hs) | (refine stn hs rfl rfl ds_ ?_; clear hs hm a; rintro - w hm a hs) | (refine dv hs gw_ rfl rfl (d_call hs rfl rfl rfl (pl 24 rfl) (hrs _ hm.fr)) ?_; clear hs a; rintro _ w ⟨rfl, hf⟩ a hs; replace hm := hm.pu hf; clear hf)) | (with_reducible first | apply lNilThen | apply lNilBlock | apply lNil | apply wp_seq | apply wp_region_lit | apply wp_block | apply cExit | apply cRet | apply cSkip | apply gThen | apply gBlock | apply eThen | apply eBlockHit | refine eBlock rfl ?_ | apply rThen | apply rBlock) | ((with_reducible apply cCond); first | refine cTrue hs rfl bd_ ?_ | refine cFalse hs rfl bd_ ?_))
      exact gRetN tab hs rfl (.cons (.cells rfl rfl rfl rfl (hm.ro (k := 0) (n := 4) mem_ (cutF_ok rfl))) .nil) ⟨rfl, hm.fr⟩
  · unfold canF LS.l LS.s clV cnV
    rw [if_neg (by omega), if_pos rfl]
    refine enterR Try.func21 rfl rfl rfl fun a hs hm => ?_
    repeat (first | ((with_reducible refine toL hm ?_); (first | refine oneV hs gw_ rfl rfl (by intro w hm; (first | exact kvR_ | exact r_b2s hs rfl rfl tab rfl rfl rfl rfl rfl rfl (by first | exact Fr.rd' hm.fr (by assumption) | exact Mm.rd_row hm mem_ (by assumption)) (by assumption))) ?_ | refine oneN hs rfl rfl rfl rfl rfl rfl rfl ?_ | refine oneU hs rfl rfl rfl rfl rfl rfl ?_); clear hs a; intro a hs) | ((with_reducible apply lCons); first | (refine dv hs gw_ rfl rfl da_ ?_; clear hs hm a; rintro _ w ⟨g, rfl, -, hm⟩ a hs) | (refine stn hs rfl rfl ds_ ?_; clear hs hm a; rintro - w hm a hs) ) | (with_reducible first | apply lNilThen | apply lNilBlock | apply lNil | apply wp_seq | apply wp_region_lit | apply wp_block | apply cExit | apply cRet | apply cSkip | apply gThen | apply gBlock | apply eThen | apply eBlockHit | refine eBlock rfl ?_ | apply rThen | apply rBlock) | ((with_reducible apply cCond); first | refine cTrue hs rfl bd_ ?_ | refine cFalse hs rfl bd_ ?_))
    exact gRetN tab hs rfl (.cons (.cells rfl rfl rfl rfl (hm.ro (k := 0) (n := 4) mem_ (cutF_ok rfl))) .nil) ⟨rfl, hm.fr⟩
/-- cells of two layouts that are canonically equal -/
inductive Rel (x y : LS) : Int → Int → Int → Int → Prop
  | num (v : Int) : Rel x y 0 v 0 v
  | hnd (h : Int) : Rel x y 2 (IntKind.u16.wrap (h + x.key)) 2 (IntKind.u16.wrap (h + y.key))
  | ptr (v u : Int) (r : Nat) (o : Int) (hx : PtrIn x v r o) (hy : PtrIn y u r o) : Rel x y 1 v 1 u
theorem w16 (v : Int) : IntKind.u16.wrap v = v % 65536 := by simp [IntKind.wrap, IntKind.bits, IntKind.signed]
section
variable {x y : LS} {w w' : World}
theorem Rel.tag {t1 v1 t2 v2 : Int} (h : Rel x y t1 v1 t2 v2) : t2 = t1 ∧ (t1 = 0 ∨ t1 = 1 ∨ t1 = 2) := by
  cases h
  · exact ⟨rfl, .inl rfl⟩
  · exact ⟨rfl, .inr (.inr rfl)⟩
  · exact ⟨rfl, .inr (.inl rfl)⟩
theorem Rel.can {t1 v1 t2 v2 : Int} (h : Rel x y t1 v1 t2 v2) : canF x t1 v1 = canF y t2 v2 := by
  cases h with
  | num v => rfl
  | hnd h =>
    unfold canF
    rw [if_neg (by omega), if_pos rfl, if_neg (by omega), if_pos rfl]
    simp only [w16, Prod.mk.injEq, true_and, and_true]
    omega
  | ptr v u r o h1 h2 =>
    unfold canF
    rw [if_neg (by omega), if_neg (by omega), if_neg (by omega), if_neg (by omega), h1.res, h2.res]
theorem Rel.raw (hx : x.ok w) (ha : x.apt) (hb : y.apt) (hy : y.ok w') (hs : y.ss = x.ss) (hn : y.n = x.n) (t v r o : Int) (ht : t = 0 ∨ t = 1 ∨ t = 2) : Rel x y (rawF x t v r o).1.1 (rawF x t v r o).1.2 (rawF y t v r o).1.1 (rawF y t v r o).1.2 := by
  unfold rawF
  rw [hs]
  cases hp : prpF x.ss t v r o
  · rw [if_neg (by simp), if_neg (by simp)]
    exact .num 0
  · rw [if_pos rfl, if_pos rfl]
    rcases ht with rfl | rfl | rfl
    · rw [if_pos rfl, if_pos rfl]
      exact .num v
    · rw [if_neg (by omega), if_neg (by omega), if_neg (by omega), if_neg (by omega)]
      unfold prpF at hp
      rw [if_pos rfl, Bool.and_eq_true] at hp
      obtain ⟨h1, h2, h3, h4⟩ := insF_t.1 hp.2
      obtain ⟨k, rfl⟩ : ∃ k : Nat, r = (k : Int) := ⟨r.toNat, by omega⟩
      rw [Int.toNat_natCast] at h4 ⊢
      have hk : k < x.n := by have := hx.sl; omega
      have p1 := PtrIn.mk' ha hk h3 h4
      have p2 := PtrIn.mk' hb (by rw [hn]; exact hk) h3 (by rw [hs]; exact h4)
      have b1 := p1.bd hx ha
      have b2 := p2.bd hy hb
      dsimp only
      rw [wrap16s (by omega), wrap16s (by omega)]
      exact .ptr _ _ k o p1 p2
    · rw [if_neg (by omega), if_pos rfl, if_neg (by omega), if_pos rfl]
      exact .hnd v
/-- a pointer moved, by its place alone -/
theorem movF_eq {v : Int} {r : Nat} {o : Int} (h : PtrIn x v r o) (hx : x.ok w) (ha : x.apt) (k : Int) (back : Bool) :
    movF x 1 v k back = if 0 ≤ (if back then o + -k else o + k) ∧ (if back then o + -k else o + k) < x.ss.getD r 0 then ((1, x.bs.getD r 0 + (if back then o + -k else o + k)), 0) else ((0, 0), 4) := by
  unfold movF
  rw [if_pos rfl, h.res]
  dsimp only
  generalize (if back = true then o + -k else o + k) = o2
  rw [insF_ptr hx h.rlt]
  by_cases h1 : 0 ≤ o2 ∧ o2 < x.ss.getD r 0
  · have hb := (PtrIn.mk' ha h.rlt h1.1 h1.2).bd hx ha
    rw [if_pos (by rw [decide_eq_true h1.1, decide_eq_true h1.2]; rfl), if_pos h1, wrap16s (by omega)]
  · rw [if_neg (fun h => h1 (by rwa [Bool.and_eq_true, decide_eq_true_eq, decide_eq_true_eq] at h)), if_neg h1]
/-- results that agree -/
def Agr (x y : LS) (p q : (Int × Int) × Int) : Prop := p.2 = q.2 ∧ (p.2 = 0 → Rel x y p.1.1 p.1.2 q.1.1 q.1.2)
theorem Agr.trap (x y : LS) (e : Int) (he : ¬ e = 0) : Agr x y ((0, 0), e) ((0, 0), e) := ⟨rfl, fun h => absurd h he⟩
theorem Agr.num (x y : LS) (v e : Int) : Agr x y ((0, v), e) ((0, v), e) := ⟨rfl, fun _ => .num v⟩
theorem movF_agr (hx : x.ok w) (ha : x.apt) (hb : y.apt) (hy : y.ok w') (hs : y.ss = x.ss) {v u : Int} {r : Nat} {o : Int} (h1 : PtrIn x v r o) (h2 : PtrIn y u r o) (k : Int) (back : Bool) : Agr x y (movF x 1 v k back) (movF y 1 u k back) := by
  rw [movF_eq h1 hx ha, movF_eq h2 hy hb, hs]
  generalize (if back = true then o + -k else o + k) = o2
  by_cases hc : 0 ≤ o2 ∧ o2 < x.ss.getD r 0
  · rw [if_pos hc, if_pos hc]
    exact ⟨rfl, fun _ => .ptr _ _ r o2 (PtrIn.mk' ha h1.rlt hc.1 hc.2) (PtrIn.mk' hb h2.rlt hc.1 (by rw [hs]; exact hc.2))⟩
  · rw [if_neg hc, if_neg hc]
    exact Agr.trap x y 4 (by omega)
theorem aptF_in {v u : Int} {r s : Nat} {o p : Int} (h1 : PtrIn x v r o) (h2 : PtrIn x u s p) : aptF x v u = if r = s then some ((r, o), (s, p)) else none := by
  unfold aptF
  rw [h1.res, h2.res]
theorem rel_eq {t1 v1 t2 v2 s1 u1 s2 u2 : Int} (h : Rel x y t1 v1 t2 v2) (k : Rel x y s1 u1 s2 u2) : (t1 = s1 ∧ v1 = u1) ↔ (t2 = s2 ∧ v2 = u2) := by
  cases h with
  | num v => cases k with
    | num u => exact Iff.rfl
    | hnd h => constructor <;> rintro ⟨h, -⟩ <;> omega
    | ptr a b r o p q => constructor <;> rintro ⟨h, -⟩ <;> omega
  | hnd h => cases k with
    | num u => constructor <;> rintro ⟨h, -⟩ <;> omega
    | hnd g => simp only [w16, true_and]; omega
    | ptr a b r o p q => constructor <;> rintro ⟨h, -⟩ <;> omega
  | ptr a b r o p q => cases k with
    | num u => constructor <;> rintro ⟨h, -⟩ <;> omega
    | hnd g => constructor <;> rintro ⟨h, -⟩ <;> omega
    | ptr c d r2 o2 p2 q2 =>
      constructor
      · rintro ⟨-, rfl⟩
        have e := p.res.symm.trans p2.res
        obtain ⟨rfl, rfl⟩ := Prod.mk.inj (Option.some.inj e)
        exact ⟨rfl, by rw [q.veq, q2.veq]⟩
      · rintro ⟨-, rfl⟩
        have e := q.res.symm.trans q2.res
        obtain ⟨rfl, rfl⟩ := Prod.mk.inj (Option.some.inj e)
        exact ⟨rfl, by rw [p.veq, p2.veq]⟩
theorem do_agr (hx : x.ok w) (ha : x.apt) (hb : y.apt) (hy : y.ok w') (hs : y.ss = x.ss) (op : Int) {t1 v1 t2 v2 s1 u1 s2 u2 : Int} (h : Rel x y t1 v1 t2 v2) (k : Rel x y s1 u1 s2 u2) : Agr x y (doF x op t1 v1 s1 u1) (doF y op t2 v2 s2 u2) := by
  by_cases h1 : op < 3 ∨ 14 < op
  · rw [show doF x op t1 v1 s1 u1 = ((0, 0), 1) from if_pos h1, show doF y op t2 v2 s2 u2 = ((0, 0), 1) from if_pos h1]
    exact Agr.trap x y 1 (by omega)
  by_cases h2 : op = 14
  · have e : ∀ (z : LS) (t v s u : Int), doF z op t v s u = ((0, if t = s ∧ v = u then 1 else 0), 0) := fun z t v s u => by unfold doF; rw [if_neg h1, if_pos h2]
    rw [e, e]
    by_cases hq : t1 = s1 ∧ v1 = u1
    · rw [if_pos hq, if_pos ((rel_eq h k).1 hq)]; exact Agr.num x y 1 0
    · rw [if_neg hq, if_neg (fun hq2 => hq ((rel_eq h k).2 hq2))]; exact Agr.num x y 0 0
  have e3 : ∀ (z : LS) (t v s u : Int), ¬ (t = 0 ∧ s = 0) → ¬ (t = 1 ∧ s = 0 ∧ (op = 3 ∨ op = 4)) → ¬ (t = 0 ∧ s = 1 ∧ op = 3) → ¬ (t = 1 ∧ s = 1 ∧ (op = 4 ∨ op = 13)) → doF z op t v s u = ((0, 0), 3) := fun z t v s u a b c d => by
    unfold doF
    rw [if_neg h1, if_neg h2, if_neg a, if_neg (fun h => b ⟨h.1, h.2.1, .inl h.2.2⟩), if_neg (fun h => b ⟨h.1, h.2.1, .inr h.2.2⟩), if_neg c, if_neg (fun h => d ⟨h.1, h.2.1, .inl h.2.2⟩), if_neg (fun h => d ⟨h.1, h.2.1, .inr h.2.2⟩)]
  cases h with
  | num v => cases k with
    | num u =>
      have e : ∀ (z : LS) (v u : Int), doF z op 0 v 0 u = ((0, (numF op v u).1), (numF op v u).2) := fun z v u => by unfold doF; rw [if_neg h1, if_neg h2, if_pos ⟨rfl, rfl⟩]
      rw [e, e]
      exact Agr.num x y _ _
    | hnd g => rw [e3 _ _ _ _ _ (by omega) (by omega) (by omega) (by omega), e3 _ _ _ _ _ (by omega) (by omega) (by omega) (by omega)]; exact Agr.trap x y 3 (by omega)
    | ptr a b r o p q =>
      by_cases h3 : op = 3
      · subst h3
        have e : ∀ (z : LS) (v a : Int), doF z 3 0 v 1 a = movF z 1 a v false := fun z v a => by simp [doF]
        rw [e, e]
        exact movF_agr hx ha hb hy hs p q _ false
      · rw [e3 _ _ _ _ _ (by omega) (by omega) (by omega) (by omega), e3 _ _ _ _ _ (by omega) (by omega) (by omega) (by omega)]; exact Agr.trap x y 3 (by omega)
  | hnd g => cases k <;>
    (rw [e3 _ _ _ _ _ (by omega) (by omega) (by omega) (by omega), e3 _ _ _ _ _ (by omega) (by omega) (by omega) (by omega)]; exact Agr.trap x y 3 (by omega))
  | ptr a b r o p q => cases k with
    | num u =>
      by_cases h3 : op = 3
      · subst h3
        have e : ∀ (z : LS) (v a : Int), doF z 3 1 v 0 a = movF z 1 v a false := fun z v a => by simp [doF]
        rw [e, e]
        exact movF_agr hx ha hb hy hs p q _ false
      · by_cases h4 : op = 4
        · subst h4
          have e : ∀ (z : LS) (v a : Int), doF z 4 1 v 0 a = movF z 1 v a true := fun z v a => by simp [doF]
          rw [e, e]
          exact movF_agr hx ha hb hy hs p q _ true
        · rw [e3 _ _ _ _ _ (by omega) (by omega) (by omega) (by omega), e3 _ _ _ _ _ (by omega) (by omega) (by omega) (by omega)]; exact Agr.trap x y 3 (by omega)
    | hnd g => rw [e3 _ _ _ _ _ (by omega) (by omega) (by omega) (by omega), e3 _ _ _ _ _ (by omega) (by omega) (by omega) (by omega)]; exact Agr.trap x y 3 (by omega)
    | ptr c d r2 o2 p2 q2 =>
      by_cases h4 : op = 4 ∨ op = 13
      · rw [doF_apt h4, doF_apt h4, aptF_in p p2, aptF_in q q2]
        by_cases hr : r = r2
        · rw [if_pos hr]
          unfold aptR
          dsimp only
          by_cases h5 : op = 4
          · rw [if_pos h5]; exact Agr.num x y _ _
          · rw [if_neg h5]; exact Agr.num x y _ _
        · rw [if_neg hr]
          exact Agr.trap x y 4 (by omega)
      · rw [e3 _ _ _ _ _ (by omega) (by omega) (by omega) (by omega), e3 _ _ _ _ _ (by omega) (by omega) (by omega) (by omega)]; exact Agr.trap x y 3 (by omega)
theorem Rel.bd {t1 v1 t2 v2 : Int} (h : Rel x y t1 v1 t2 v2) (hx : x.ok w) (ha : x.apt) (hb : y.apt) (hy : y.ok w') : (t1 = 1 → 0 ≤ v1 ∧ v1 ≤ 65535) ∧ (t2 = 1 → 0 ≤ v2 ∧ v2 ≤ 65535) := by
  cases h with
  | num v => exact ⟨fun h => by omega, fun h => by omega⟩
  | hnd g => exact ⟨fun _ => u16_bd _, fun _ => u16_bd _⟩
  | ptr a b r o p q =>
    have b1 := p.bd hx ha
    have b2 := q.bd hy hb
    exact ⟨fun _ => by omega, fun _ => by omega⟩
/-- what a walk has made since does not lie in the layout's blocks -/
theorem LS.no.grow {M M' : List Hp} (hn : x.no M) (hx : x.ok w) (h1 : 1 ≤ x.n) (hm : Mm (own M) w M' w') : x.no M' := by
  have hbl := hx.bl
  have hsl := hx.sl
  refine ⟨fun b o e ⟨z, hz, eg⟩ => ?_, fun b o e ⟨z, hz, eg⟩ => ?_⟩
  · obtain ⟨b1, o1, hA, hb1, _⟩ := hx.br.ro (by rw [ints_len]; omega)
    rw [e] at hA
    cases hA
    rcases hm.ow z hz b eg with h | h
    · omega
    · exact hn.a b o e h
  · obtain ⟨b1, o1, hA, hb1, _⟩ := hx.sr.ro (by rw [ints_len]; omega)
    rw [e] at hA
    cases hA
    rcases hm.ow z hz b eg with h | h
    · omega
    · exact hn.b b o e h
end
end Go.Proofs.Ytfcimpfhfbkgbaa
