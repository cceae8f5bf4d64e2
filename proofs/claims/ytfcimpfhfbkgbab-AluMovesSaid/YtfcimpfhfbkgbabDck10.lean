/- The deck: layouts. -/
import Derived.Test.YtfcimpfhfbkgbabDck9
namespace Go.Proofs.Ytfcimpfhfbkgbab
open Go.RowKit

theorem rdDk {w w' : World} {g : Nat} {A B : Option Addr} {n c a0 : Nat} {M : List Hp} {xs : List Value} (hm : Mm (own [dk g A n c a0]) w M w') (h : Rd w w.heap.size B xs) (hne : ∀ b o, B = some ⟨b, o, none⟩ → b ≠ g) : Rd w' w'.heap.size B xs :=
  rdD hm.fr h fun b o e hw => hne b o e (Option.some.inj (own_dk hw)).symm
/-- a layout that came from the deck -/
structure LyR (x : LS) (B : Option Addr) (m d : Nat) (ss : List Int) (w w' : World) : Prop where
  n : x.n = m
  d : x.d = d
  B : x.B = B
  ss : x.ss = ss
  ok : x.ok w'
  apt : x.apt
  new : ∀ b o, x.A = some ⟨b, o, none⟩ → w.heap.size ≤ b
theorem mkLS {gb m d : Nat} {key v : Int} {B : Option Addr} {bs ss : List Int} {s : Nat} {w w' : World} (hl : ss.length = m) (ho : SzOk ss) (hb : Rd w' w'.heap.size (some ⟨gb, 0, none⟩) (ints bs)) (hr : Rd w' w'.heap.size B (ints ss)) (hk : 0 ≤ key ∧ key ≤ 65535) (hI : MkI m s m v bs ss) (hg : w.heap.size ≤ gb) :
    LyR ⟨some ⟨gb, 0, none⟩, m, m, bs, key, B, d, ss⟩ B m d ss w w' := by
  refine ⟨rfl, rfl, rfl, rfl, ⟨hI.len, hl, hb, hr, fun y hy => ?_, ho.bd, ?_⟩, MkI.apt hI (by rw [← hl]; exact ho.four) rfl rfl hk, fun b o e => by cases e; exact hg⟩
  · have := hI.b y hy; omega
  · show m ≤ 4
    rw [← hl]; exact ho.four
theorem Mm.notown {S : Nat → Prop} {w0 w : World} {M : List Hp} {g : Nat} (hm : Mm S w0 M w) (h : w.heap.size ≤ g) : ¬ own M g := fun ⟨x, hx, e⟩ => by
  have := Hp.lt (hm.me x hx) e
  omega
set_option maxHeartbeats 1000000 in
theorem lay_c (gd : Nat) (A : Option Addr) (n c at_ : Nat) (xs : List Int) (B : Option Addr) (m d : Nat) (ss : List Int) (wB : World) (h : Dk gd A n c at_ xs wB) (hl : ss.length = m) (ho : SzOk ss) (hr : Rd wB wB.heap.size B (ints ss)) (hne : ∀ b o, B = some ⟨b, o, none⟩ → b ≠ gd) :
    Ret Try.prog 6 [.pointer (some ⟨gd, 0, none⟩), .slice B m d] wB (fun u w' => ∃ x : LS, u = x.l ∧ LyR x B m d ss wB w' ∧ DkR gd A n c xs wB w') := by
  refine enterR Try.func6 rfl rfl rfl fun a hs hm => ?_
  clear hm
  have hm := h.in_
  repeat (first | ((with_reducible refine toL hm ?_); (first | refine oneV hs gw_ rfl rfl (by intro w hm; exact kv_) ?_ | refine oneN hs rfl rfl rfl rfl rfl rfl rfl ?_ | refine oneU hs rfl rfl rfl rfl rfl rfl ?_); clear hs a; intro a hs) | ((with_reducible apply lCons); first | (refine dv hs gw_ rfl rfl da_ ?_; clear hs hm a; rintro _ w ⟨g, rfl, -, hm⟩ a hs) | (refine stn hs rfl rfl ds_ ?_; clear hs hm a; rintro - w hm a hs) ) | (with_reducible first | apply lNilThen | apply lNilBlock | apply lNil | apply wp_seq | apply wp_region_lit | apply wp_block | apply cExit | apply cRet | apply cSkip | apply gThen | apply gBlock | apply eThen | apply eBlockHit | refine eBlock rfl ?_ | apply rThen | apply rBlock) | ((with_reducible apply cCond); first | refine cTrue hs rfl bd_ ?_ | refine cFalse hs rfl bd_ ?_))
  refine st hs rfl rfl rfl (d_call hs rfl rfl rfl (pl 15 rfl) ((nxt_c gd A n c _ xs 1048576 _ (h.now hm mem_) (by omega) (by omega)))) ?_; clear hs a; rintro _ w1 ⟨s, rfl, hs1, a1, k1, hf⟩ a hs
  replace hm := hm.dkt rep_ k1 hf
  clear hf
  repeat (first | ((with_reducible refine toL hm ?_); (first | refine oneV hs gw_ rfl rfl (by intro w hm; exact kv_) ?_ | refine oneN hs rfl rfl rfl rfl rfl rfl rfl ?_ | refine oneU hs rfl rfl rfl rfl rfl rfl ?_); clear hs a; intro a hs) | ((with_reducible apply lCons); first | (refine dv hs gw_ rfl rfl da_ ?_; clear hs hm a; rintro _ w ⟨g, rfl, -, hm⟩ a hs) | (refine stn hs rfl rfl ds_ ?_; clear hs hm a; rintro - w hm a hs) ) | (with_reducible first | apply lNilThen | apply lNilBlock | apply lNil | apply wp_seq | apply wp_region_lit | apply wp_block | apply cExit | apply cRet | apply cSkip | apply gThen | apply gBlock | apply eThen | apply eBlockHit | refine eBlock rfl ?_ | apply rThen | apply rBlock) | ((with_reducible apply cCond); first | refine cTrue hs rfl bd_ ?_ | refine cFalse hs rfl bd_ ?_))
  refine st hs rfl rfl rfl (d_call hs rfl rfl rfl (pl 16 rfl) ((mke_c B m d ss s _ hl (rdDk hm hr hne) ho (by omega)))) ?_; clear hs a; rintro _ w2 ⟨gb, key, bs, rfl, hgb, hrb, hkb, ⟨v, hI⟩, hf⟩ a hs
  have hle := hm.fr.size
  have hno := hm.notown hgb
  replace hm := hm.pu hf
  clear hf
  have hmB := hm
  clear hm
  have hm := hmB.rebase
  rename World => w3
  repeat (first | ((with_reducible refine toL hm ?_); (first | refine oneV hs gw_ rfl rfl (by intro w hm; exact kv_) ?_ | refine oneN hs rfl rfl rfl rfl rfl rfl rfl ?_ | refine oneU hs rfl rfl rfl rfl rfl rfl ?_); clear hs a; intro a hs) | ((with_reducible apply lCons); first | (refine dv hs gw_ rfl rfl da_ ?_; clear hs hm a; rintro _ w ⟨g, rfl, -, hm⟩ a hs) | (refine stn hs rfl rfl ds_ ?_; clear hs hm a; rintro - w hm a hs) ) | (with_reducible first | apply lNilThen | apply lNilBlock | apply lNil | apply wp_seq | apply wp_region_lit | apply wp_block | apply cExit | apply cRet | apply cSkip | apply gThen | apply gBlock | apply eThen | apply eBlockHit | refine eBlock rfl ?_ | apply rThen | apply rBlock) | ((with_reducible apply cCond); first | refine cTrue hs rfl bd_ ?_ | refine cFalse hs rfl bd_ ?_))
  have hm2 := hmB.trans hm
  have hrb' := rdD hm.fr hrb (fun b o e => by cases e; exact hno)
  exact gRetN tab hs rfl (.cons (.cells rfl rfl rfl rfl (hm.ro (k := 0) (n := 2) mem_ (cutF_ok rfl))) .nil) ⟨_, rfl, mkLS hl ho hrb' (rdDk hm2 hr hne) hkb hI (Nat.le_trans hle hgb), _, h.now hm2 mem_, Dk.out hm2⟩
end Go.Proofs.Ytfcimpfhfbkgbab
