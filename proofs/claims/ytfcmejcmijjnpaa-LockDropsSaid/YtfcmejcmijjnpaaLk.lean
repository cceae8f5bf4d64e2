/- Locks as they lie in memory; clones. -/
import Derived.Test.YtfcmejcmijjnpaaDck2
import Derived.Test.YtfcmejcmijjnpaaEng14
import Derived.Test.YtfcmejcmijjnpaaEng15
import Derived.Test.YtfcmejcmijjnpaaEng16
namespace Go.Proofs.Ytfcmejcmijjnpaa
open Go.RowKit

/-- an own row of numbers -/
structure RW where
  A : Option Nat
  c : Nat
  cs : List Value
  xs : List Int
def RW.hp (r : RW) : Hp := ⟨r.A, 3, r.cs⟩
def RW.v (r : RW) : Value := slv r.A r.xs.length r.c
def RW.ok (r : RW) : Prop := Row r.A r.xs.length r.c 1 (ints r.xs) r.cs
def RW.is (r : RW) : IS := ⟨r.A.map fun g => ⟨g, 0, none⟩, r.xs.length, r.c, r.xs⟩
theorem RW.is_v (r : RW) : r.is.v = r.v := rfl
/-- locks: owners, and who waits for each -/
structure KS where
  o : IS
  qA : Option Addr
  qc : Nat
  qs : List IS
def KS.v (x : KS) : Value := .agg #[x.o.v, .slice x.qA x.qs.length x.qc]
/-- not great -/
structure KS.sm (x : KS) : Prop where
  o : x.o.n ≤ 1000
  q : x.qs.length ≤ 1000
  qs : ∀ q ∈ x.qs, q.n ≤ 1000
/-- the blocks that it reads -/
def IS.blk (b : IS) (g : Nat) : Prop := b.xs ≠ [] ∧ ∃ o, b.A = some ⟨g, o, none⟩
def KS.blk (x : KS) (g : Nat) : Prop := x.o.blk g ∨ (x.qs ≠ [] ∧ ∃ o, x.qA = some ⟨g, o, none⟩) ∨ ∃ q ∈ x.qs, q.blk g
structure KS.ok (x : KS) (w : World) : Prop where
  o : x.o.ok w
  q : Rd w w.heap.size x.qA (x.qs.map IS.v)
  qs : ∀ q ∈ x.qs, q.ok w
theorem rdV {S : Nat → Prop} {w w' : World} {A : Option Addr} {vs : List Value} (hf : Fr S w w') (h : Rd w w.heap.size A vs) (hn : vs ≠ [] → ∀ g o, A = some ⟨g, o, none⟩ → ¬ S g) : Rd w' w'.heap.size A vs := fun h0 => rdD hf h (hn (by rintro rfl; exact absurd h0 (by simp))) h0
theorem IS.ok.keep {S : Nat → Prop} {b : IS} {w w' : World} (h : b.ok w) (hf : Fr S w w') (hn : ∀ g, b.blk g → ¬ S g) : b.ok w' :=
  ⟨h.1, rdN hf h.2 fun h0 g o e => hn g ⟨h0, o, e⟩⟩
theorem KS.ok.keep {S : Nat → Prop} {x : KS} {w w' : World} (h : x.ok w) (hf : Fr S w w') (hn : ∀ g, x.blk g → ¬ S g) : x.ok w' :=
  ⟨h.o.keep hf fun g hg => hn g (.inl hg), rdV hf h.q fun h0 g o e => hn g (.inr (.inl ⟨by intro e; apply h0; rw [e]; rfl, o, e⟩)), fun q hq => (h.qs q hq).keep hf fun g hg => hn g (.inr (.inr ⟨q, hq, hg⟩))⟩
theorem KS.ok.pu {x : KS} {w w' : World} (h : x.ok w) (hf : Pu w w') : x.ok w' := h.keep hf fun _ _ t => t
theorem IS.blk.lt {b : IS} {g : Nat} {w : World} (h : b.ok w) (hg : b.blk g) : g < w.heap.size := by
  obtain ⟨h0, o, e⟩ := hg
  obtain ⟨b', o', e', hb, _⟩ := h.2.ro (by rw [ints_len]; exact List.length_pos_iff.2 h0)
  rw [e] at e'; cases e'; exact hb
theorem KS.ok.lt {x : KS} {g : Nat} {w : World} (h : x.ok w) (hg : x.blk g) : g < w.heap.size := by
  rcases hg with hg | ⟨h0, o, e⟩ | ⟨q, hq, hg⟩
  · exact hg.lt h.o
  · obtain ⟨b', o', e', hb, _⟩ := h.q.ro (by rw [List.length_map]; exact List.length_pos_iff.2 h0)
    rw [e] at e'; cases e'; exact hb
  · exact hg.lt (h.qs q hq)
def KS.no (x : KS) (M : List Hp) : Prop := ∀ g, x.blk g → ¬ own M g
def KS.new (x : KS) (n : Nat) : Prop := ∀ g, x.blk g → n ≤ g
theorem KS.ok.own {x : KS} {w w' : World} {M M' : List Hp} (h : x.ok w) (hn : x.no M) (hm : Mm (own M) w M' w') : x.ok w' := h.keep hm.fr hn
theorem KS.no.grow {x : KS} {w w' : World} {M M' : List Hp} (hn : x.no M) (h : x.ok w) (hm : Mm (own M) w M' w') : x.no M' := fun g hg ⟨z, hz, e⟩ => by
  rcases hm.ow z hz g e with h1 | h1
  · have := h.lt hg; omega
  · exact hn g hg h1
theorem KS.new.no {S : Nat → Prop} {x : KS} {w0 w : World} {M : List Hp} (h : x.new w.heap.size) (hm : Mm S w0 M w) : x.no M := fun g hg ho => by
  obtain ⟨z, hz, e⟩ := ho
  have := Hp.lt (hm.me z hz) e
  have := h g hg
  omega
/-- what is known of them, without memory -/
structure Ab where
  os : List Int
  qs : List (List Int)
def KS.ab (x : KS) : Ab := ⟨x.o.xs, x.qs.map IS.xs⟩
/-- locks of a walk's own -/
structure KO where
  o : RW
  qA : Option Nat
  qc : Nat
  qcs : List Value
  rs : List RW
def KO.v (y : KO) : Value := .agg #[y.o.v, slv y.qA y.rs.length y.qc]
def KO.hps (y : KO) : List Hp := ⟨y.qA, 22, y.qcs⟩ :: y.o.hp :: y.rs.map RW.hp
structure KO.ok (y : KO) : Prop where
  o : y.o.ok
  q : Row y.qA y.rs.length y.qc 1 (y.rs.map RW.v) y.qcs
  rs : ∀ r ∈ y.rs, r.ok
def KO.ab (y : KO) : Ab := ⟨y.o.xs, y.rs.map RW.xs⟩
theorem RW.ok_is {S : Nat → Prop} {w0 w : World} {M : List Hp} {r : RW} (hm : Mm S w0 M w) (hM : r.hp ∈ M) (h : r.ok) : r.is.ok w := ⟨rfl, hm.rd_row hM h⟩

theorem cln_c (A : Option Addr) (n c : Nat) (vs : List Value) (w : World) (hl : vs.length = n) (hr : Rd w w.heap.size A vs) (h1 : vs.all (·.oneCell') = true) (hn : n ≤ 1000000) :
    Ret Try.prog 28 [.slice A n c] w (fun u w' => ∃ (A' : Option Nat) (c' : Nat) (cs' : List Value), u = slv A' n c' ∧ Row A' n c' 1 vs cs' ∧ New w w' [⟨A', 3, cs'⟩] ∧ Pu w w') := by
  cases hA : A with
  | none =>
    subst hA
    have hv := hr.none_nil
    subst hv
    obtain rfl : n = 0 := hl.symm
    refine enterR Try.func28 rfl rfl rfl fun a hs hm => ?_
    repeat (first | ((with_reducible refine toL hm ?_); (first | refine oneV hs gw_ rfl rfl (by intro w hm; exact kvR_) ?_ | refine oneN hs rfl rfl rfl rfl rfl rfl rfl ?_ | refine oneU hs rfl rfl rfl rfl rfl rfl ?_); clear hs a; intro a hs) | ((with_reducible apply lCons); first | (refine dv hs gw_ rfl rfl da_ ?_; clear hs hm a; rintro _ w ⟨g, rfl, -, hm⟩ a hs) | (refine stn hs rfl rfl ds_ ?_; clear hs hm a; rintro - w hm a hs) ) | (with_reducible first | apply lNilThen | apply lNilBlock | apply lNil | apply wp_seq | apply wp_region_lit | apply wp_block | apply cExit | apply cRet | apply cSkip | apply gThen | apply gBlock | apply eThen | apply eBlockHit | refine eBlock rfl ?_ | apply rThen | apply rBlock) | ((with_reducible apply cCond); first | refine cTrue hs rfl bd_ ?_ | refine cFalse hs rfl bd_ ?_))
    exact gRet1 hs rfl rfl ⟨none, 0, [], rfl, Row.empty 1, New.none_ _ _ _, hm.fr⟩
  | some p =>
    subst hA
    refine enterR Try.func28 rfl rfl rfl fun a hs hm => ?_
    repeat (first | ((with_reducible refine toL hm ?_); (first | refine oneV hs gw_ rfl rfl (by intro w hm; exact kvR_) ?_ | refine oneN hs rfl rfl rfl rfl rfl rfl rfl ?_ | refine oneU hs rfl rfl rfl rfl rfl rfl ?_); clear hs a; intro a hs) | ((with_reducible apply lCons); first | (refine dv hs gw_ rfl rfl da_ ?_; clear hs hm a; rintro _ w ⟨g, rfl, -, hm⟩ a hs) | (refine stn hs rfl rfl ds_ ?_; clear hs hm a; rintro - w hm a hs) ) | (with_reducible first | apply lNilThen | apply lNilBlock | apply lNil | apply wp_seq | apply wp_region_lit | apply wp_block | apply cExit | apply cRet | apply cSkip | apply gThen | apply gBlock | apply eThen | apply eBlockHit | refine eBlock rfl ?_ | apply rThen | apply rBlock) | ((with_reducible apply cCond); first | refine cTrue hs rfl bd_ ?_ | refine cFalse hs rfl bd_ ?_))
    obtain ⟨g5, en_⟩ := hs.ps 5 (by exact rfl); subst en_
    refine dv hs (Wnt.none rfl) rfl rfl (d_appendS (A := some g5) (n := 0) (c := 0) (xs := []) (news := vs) hs rfl rfl rfl rfl tab rfl rfl rfl rfl rfl hm mem_ (Row.room0 g5 1) (by rw [hl]; exact (Nat.mul_one n).symm) (hm.fr.rd' hr) h1 (by show (0 + n) * 8 ≤ _; omega) (by omega)) ?_
    clear hs
    rintro _ w2 ⟨A', c', cs', rfl, hr2, hM⟩ a hs
    replace hm := hM _ rep_
    clear hM
    rw [Nat.zero_add, List.nil_append] at hr2
    rw [Nat.zero_add] at hs
    repeat (first | ((with_reducible refine toL hm ?_); (first | refine oneV hs gw_ rfl rfl (by intro w hm; exact kvR_) ?_ | refine oneN hs rfl rfl rfl rfl rfl rfl rfl ?_ | refine oneU hs rfl rfl rfl rfl rfl rfl ?_); clear hs a; intro a hs) | ((with_reducible apply lCons); first | (refine dv hs gw_ rfl rfl da_ ?_; clear hs hm a; rintro _ w ⟨g, rfl, -, hm⟩ a hs) | (refine stn hs rfl rfl ds_ ?_; clear hs hm a; rintro - w hm a hs) ) | (with_reducible first | apply lNilThen | apply lNilBlock | apply lNil | apply wp_seq | apply wp_region_lit | apply wp_block | apply cExit | apply cRet | apply cSkip | apply gThen | apply gBlock | apply eThen | apply eBlockHit | refine eBlock rfl ?_ | apply rThen | apply rBlock) | ((with_reducible apply cCond); first | refine cTrue hs rfl bd_ ?_ | refine cFalse hs rfl bd_ ?_))
    exact gRet1 hs rfl rfl ⟨A', c', cs', rfl, hr2, hm.new (List.Sublist.refl _), hm.fr⟩
theorem clq_c (A : Option Addr) (n c : Nat) (vs : List Value) (w : World) (hl : vs.length = n) (hr : Rd w w.heap.size A vs) (h1 : vs.all (·.oneCell') = true) (hn : n ≤ 1000000) :
    Ret Try.prog 29 [.slice A n c] w (fun u w' => ∃ (A' : Option Nat) (c' : Nat) (cs' : List Value), u = slv A' n c' ∧ Row A' n c' 1 vs cs' ∧ New w w' [⟨A', 22, cs'⟩] ∧ Pu w w') := by
  cases hA : A with
  | none =>
    subst hA
    have hv := hr.none_nil
    subst hv
    obtain rfl : n = 0 := hl.symm
    refine enterR Try.func29 rfl rfl rfl fun a hs hm => ?_
    repeat (first | ((with_reducible refine toL hm ?_); (first | refine oneV hs gw_ rfl rfl (by intro w hm; exact kvR_) ?_ | refine oneN hs rfl rfl rfl rfl rfl rfl rfl ?_ | refine oneU hs rfl rfl rfl rfl rfl rfl ?_); clear hs a; intro a hs) | ((with_reducible apply lCons); first | (refine dv hs gw_ rfl rfl da_ ?_; clear hs hm a; rintro _ w ⟨g, rfl, -, hm⟩ a hs) | (refine stn hs rfl rfl ds_ ?_; clear hs hm a; rintro - w hm a hs) ) | (with_reducible first | apply lNilThen | apply lNilBlock | apply lNil | apply wp_seq | apply wp_region_lit | apply wp_block | apply cExit | apply cRet | apply cSkip | apply gThen | apply gBlock | apply eThen | apply eBlockHit | refine eBlock rfl ?_ | apply rThen | apply rBlock) | ((with_reducible apply cCond); first | refine cTrue hs rfl bd_ ?_ | refine cFalse hs rfl bd_ ?_))
    exact gRet1 hs rfl rfl ⟨none, 0, [], rfl, Row.empty 1, New.none_ _ _ _, hm.fr⟩
  | some p =>
    subst hA
    refine enterR Try.func29 rfl rfl rfl fun a hs hm => ?_
    repeat (first | ((with_reducible refine toL hm ?_); (first | refine oneV hs gw_ rfl rfl (by intro w hm; exact kvR_) ?_ | refine oneN hs rfl rfl rfl rfl rfl rfl rfl ?_ | refine oneU hs rfl rfl rfl rfl rfl rfl ?_); clear hs a; intro a hs) | ((with_reducible apply lCons); first | (refine dv hs gw_ rfl rfl da_ ?_; clear hs hm a; rintro _ w ⟨g, rfl, -, hm⟩ a hs) | (refine stn hs rfl rfl ds_ ?_; clear hs hm a; rintro - w hm a hs) ) | (with_reducible first | apply lNilThen | apply lNilBlock | apply lNil | apply wp_seq | apply wp_region_lit | apply wp_block | apply cExit | apply cRet | apply cSkip | apply gThen | apply gBlock | apply eThen | apply eBlockHit | refine eBlock rfl ?_ | apply rThen | apply rBlock) | ((with_reducible apply cCond); first | refine cTrue hs rfl bd_ ?_ | refine cFalse hs rfl bd_ ?_))
    obtain ⟨g5, en_⟩ := hs.ps 5 (by exact rfl); subst en_
    refine dv hs (Wnt.none rfl) rfl rfl (d_appendS (A := some g5) (n := 0) (c := 0) (xs := []) (news := vs) hs rfl rfl rfl rfl tab rfl rfl rfl rfl rfl hm mem_ (Row.room0 g5 1) (by rw [hl]; exact (Nat.mul_one n).symm) (hm.fr.rd' hr) h1 (by show (0 + n) * 24 ≤ _; omega) (by omega)) ?_
    clear hs
    rintro _ w2 ⟨A', c', cs', rfl, hr2, hM⟩ a hs
    replace hm := hM _ rep_
    clear hM
    rw [Nat.zero_add, List.nil_append] at hr2
    rw [Nat.zero_add] at hs
    repeat (first | ((with_reducible refine toL hm ?_); (first | refine oneV hs gw_ rfl rfl (by intro w hm; exact kvR_) ?_ | refine oneN hs rfl rfl rfl rfl rfl rfl rfl ?_ | refine oneU hs rfl rfl rfl rfl rfl rfl ?_); clear hs a; intro a hs) | ((with_reducible apply lCons); first | (refine dv hs gw_ rfl rfl da_ ?_; clear hs hm a; rintro _ w ⟨g, rfl, -, hm⟩ a hs) | (refine stn hs rfl rfl ds_ ?_; clear hs hm a; rintro - w hm a hs) ) | (with_reducible first | apply lNilThen | apply lNilBlock | apply lNil | apply wp_seq | apply wp_region_lit | apply wp_block | apply cExit | apply cRet | apply cSkip | apply gThen | apply gBlock | apply eThen | apply eBlockHit | refine eBlock rfl ?_ | apply rThen | apply rBlock) | ((with_reducible apply cCond); first | refine cTrue hs rfl bd_ ?_ | refine cFalse hs rfl bd_ ?_))
    exact gRet1 hs rfl rfl ⟨A', c', cs', rfl, hr2, hm.new (List.Sublist.refl _), hm.fr⟩
end Go.Proofs.Ytfcmejcmijjnpaa
