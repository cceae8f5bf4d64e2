/- The deck of redundancymake: numbers that are taken one after the other. -/
import Derived.Test.YtfcmejcmijjnpaaTab
import Derived.Test.YtfcmejcmijjnpaaEng14
import Derived.Test.YtfcmejcmijjnpaaEng15
namespace Go.Proofs.Ytfcmejcmijjnpaa
open Go.RowKit

def modF (v m : Int) : Int := if v.tmod m < 0 then v.tmod m + m else v.tmod m
theorem tmod_bd (v : Int) {m : Int} (hm : 0 < m) : -m < v.tmod m ∧ v.tmod m < m := by
  by_cases h : 0 ≤ v
  · rw [Int.tmod_eq_emod_of_nonneg h]
    have := Int.emod_nonneg v (b := m) (by omega)
    have := Int.emod_lt_of_pos v hm
    omega
  · have e : v.tmod m = -((-v).tmod m) := by rw [Int.neg_tmod, Int.neg_neg]
    rw [e, Int.tmod_eq_emod_of_nonneg (by omega)]
    have := Int.emod_nonneg (-v) (b := m) (by omega)
    have := Int.emod_lt_of_pos (-v) hm
    omega
theorem modF_bd (v : Int) {m : Int} (hm : 0 < m) : 0 ≤ modF v m ∧ modF v m < m := by
  have := tmod_bd v hm
  unfold modF
  split <;> omega
theorem rmod_c (v m : Int) (w : World) (hm : 0 < m) (hm' : m ≤ 2000000) : Ret Try.prog 25 [.int .i64 v, .int .i64 m] w (fun u w' => u = .int .i64 (modF v m) ∧ Pu w w') := by
  have hb := tmod_bd v hm
  generalize hR : modF v m = R
  unfold modF at hR
  refine enterR Try.func25 rfl rfl rfl fun a hs hm => ?_
  repeat (first | ((with_reducible refine toL hm ?_); (first | refine oneV hs gw_ rfl rfl (by intro w hm; (first | exact kv_ | exact r_remH hs rfl rfl rfl (by assumption) (by omega) (by omega) | exact r_rem64 hs rfl rfl rfl (by omega) (by omega) | exact r_rem hs rfl rfl rfl (by omega))) ?_ | refine oneN hs rfl rfl rfl rfl rfl rfl rfl ?_ | refine oneU hs rfl rfl rfl rfl rfl rfl ?_); clear hs a; intro a hs) | ((with_reducible apply lCons); first | (refine dv hs gw_ rfl rfl da_ ?_; clear hs hm a; rintro _ w ⟨g, rfl, -, hm⟩ a hs) | (refine stn hs rfl rfl ds_ ?_; clear hs hm a; rintro - w hm a hs) ) | (with_reducible first | apply lNilThen | apply lNilBlock | apply lNil | apply wp_seq | apply wp_region_lit | apply wp_block | apply cExit | apply cRet | apply cSkip | apply gThen | apply gBlock | apply eThen | apply eBlockHit | refine eBlock rfl ?_ | apply rThen | apply rBlock) | ((with_reducible apply cCond); first | refine cTrue hs rfl bd_ ?_ | refine cFalse hs rfl bd_ ?_))
  generalize v.tmod m = q at *
  by_cases h : q < 0
  · rw [if_pos h] at hR
    repeat (first | ((with_reducible refine toL hm ?_); (first | refine oneV hs gw_ rfl rfl (by intro w hm; (first | exact kv_ | exact r_remH hs rfl rfl rfl (by assumption) (by omega) (by omega) | exact r_rem64 hs rfl rfl rfl (by omega) (by omega) | exact r_rem hs rfl rfl rfl (by omega))) ?_ | refine oneN hs rfl rfl rfl rfl rfl rfl rfl ?_ | refine oneU hs rfl rfl rfl rfl rfl rfl ?_); clear hs a; intro a hs) | ((with_reducible apply lCons); first | (refine dv hs gw_ rfl rfl da_ ?_; clear hs hm a; rintro _ w ⟨g, rfl, -, hm⟩ a hs) | (refine stn hs rfl rfl ds_ ?_; clear hs hm a; rintro - w hm a hs) ) | (with_reducible first | apply lNilThen | apply lNilBlock | apply lNil | apply wp_seq | apply wp_region_lit | apply wp_block | apply cExit | apply cRet | apply cSkip | apply gThen | apply gBlock | apply eThen | apply eBlockHit | refine eBlock rfl ?_ | apply rThen | apply rBlock) | ((with_reducible apply cCond); first | refine cTrue hs rfl bd_ ?_ | refine cFalse hs rfl bd_ ?_))
    exact gRet1 hs rfl rfl ⟨by rw [← hR], hm.fr⟩
  · rw [if_neg h] at hR
    repeat (first | ((with_reducible refine toL hm ?_); (first | refine oneV hs gw_ rfl rfl (by intro w hm; (first | exact kv_ | exact r_remH hs rfl rfl rfl (by assumption) (by omega) (by omega) | exact r_rem64 hs rfl rfl rfl (by omega) (by omega) | exact r_rem hs rfl rfl rfl (by omega))) ?_ | refine oneN hs rfl rfl rfl rfl rfl rfl rfl ?_ | refine oneU hs rfl rfl rfl rfl rfl rfl ?_); clear hs a; intro a hs) | ((with_reducible apply lCons); first | (refine dv hs gw_ rfl rfl da_ ?_; clear hs hm a; rintro _ w ⟨g, rfl, -, hm⟩ a hs) | (refine stn hs rfl rfl ds_ ?_; clear hs hm a; rintro - w hm a hs) ) | (with_reducible first | apply lNilThen | apply lNilBlock | apply lNil | apply wp_seq | apply wp_region_lit | apply wp_block | apply cExit | apply cRet | apply cSkip | apply gThen | apply gBlock | apply eThen | apply eBlockHit | refine eBlock rfl ?_ | apply rThen | apply rBlock) | ((with_reducible apply cCond); first | refine cTrue hs rfl bd_ ?_ | refine cFalse hs rfl bd_ ?_))
    exact gRet1 hs rfl rfl ⟨by rw [← hR], hm.fr⟩
theorem mod_c (v m : Int) (w : World) (hm : 0 < m) (hm' : m ≤ 2000000) : Ret Try.prog 16 [.int .i64 v, .int .i64 m] w (fun u w' => u = .int .i64 (modF v m) ∧ Pu w w') := by
  have hr := fun w => rmod_c v m w hm hm'
  refine enterR Try.func16 rfl rfl rfl fun a hs hm => ?_
  repeat (first | ((with_reducible refine toL hm ?_); (first | refine oneV hs gw_ rfl rfl (by intro w hm; exact kv_) ?_ | refine oneN hs rfl rfl rfl rfl rfl rfl rfl ?_ | refine oneU hs rfl rfl rfl rfl rfl rfl ?_); clear hs a; intro a hs) | ((with_reducible apply lCons); first | (refine dv hs gw_ rfl rfl da_ ?_; clear hs hm a; rintro _ w ⟨g, rfl, -, hm⟩ a hs) | (refine stn hs rfl rfl ds_ ?_; clear hs hm a; rintro - w hm a hs) | (refine dv hs gw_ rfl rfl (d_call hs rfl rfl rfl (pl 25 rfl) (hr _)) ?_; clear hs a; rintro _ w ⟨rfl, hf⟩ a hs; replace hm := hm.pu hf; clear hf)) | (with_reducible first | apply lNilThen | apply lNilBlock | apply lNil | apply wp_seq | apply wp_region_lit | apply wp_block | apply cExit | apply cRet | apply cSkip | apply gThen | apply gBlock | apply eThen | apply eBlockHit | refine eBlock rfl ?_ | apply rThen | apply rBlock) | ((with_reducible apply cCond); first | refine cTrue hs rfl bd_ ?_ | refine cFalse hs rfl bd_ ?_))
  exact gRet1 hs rfl rfl ⟨rfl, hm.fr⟩
/-- the deck's block -/
def dk (g : Nat) (A : Option Addr) (n c at_ : Nat) : Hp := ⟨some g, 45, [.slice A n c, .int .i64 (at_ : Int)]⟩
theorem mk_c (A : Option Addr) (n c : Nat) (w : World) : Ret Try.prog 7 [.slice A n c] w (fun u w' => ∃ g, u = .pointer (some ⟨g, 0, none⟩) ∧ New w w' [dk g A n c 0] ∧ Pu w w') := by
  refine enterR Try.func7 rfl rfl rfl fun a hs hm => ?_
  repeat (first | ((with_reducible refine toL hm ?_); (first | refine oneV hs gw_ rfl rfl (by intro w hm; exact kv_) ?_ | refine oneN hs rfl rfl rfl rfl rfl rfl rfl ?_ | refine oneU hs rfl rfl rfl rfl rfl rfl ?_); clear hs a; intro a hs) | ((with_reducible apply lCons); first | (refine dv hs gw_ rfl rfl da_ ?_; clear hs hm a; rintro _ w ⟨g, rfl, -, hm⟩ a hs) | (refine stn hs rfl rfl ds_ ?_; clear hs hm a; rintro - w hm a hs) ) | (with_reducible first | apply lNilThen | apply lNilBlock | apply lNil | apply wp_seq | apply wp_region_lit | apply wp_block | apply cExit | apply cRet | apply cSkip | apply gThen | apply gBlock | apply eThen | apply eBlockHit | refine eBlock rfl ?_ | apply rThen | apply rBlock) | ((with_reducible apply cCond); first | refine cTrue hs rfl bd_ ?_ | refine cFalse hs rfl bd_ ?_))
  exact gRet1 hs rfl rfl ⟨g, rfl, hm.new (List.Sublist.refl _), hm.fr⟩
theorem dk_adopt {w w' : World} {M : List Hp} {h : Hp} (hm : Mm (fun _ => False) w M w') {g : Nat} (hg : h.g = some g) (hs : h.sat w) : Mm (own [h]) w (h :: M) w' := by
  have hlt : g < w.heap.size := Hp.lt hs hg
  refine ⟨fun x hx => ?_, ⟨hm.fr.os, hm.fr.tape, hm.fr.output, hm.fr.size, fun k hk _ => hm.fr.block k hk (fun t => t)⟩, ⟨fun x hx k hk e => ?_, hm.dj⟩, fun x hx k hk => ?_⟩
  · rcases List.mem_cons.1 hx with rfl | hx
    · exact Hp.sat_fr hm.fr hs fun _ _ t => t
    · exact hm.me x hx
  · rw [hg] at hk
    obtain rfl := Option.some.inj hk
    rcases hm.ow x hx _ e with h | h
    · omega
    · exact h
  · rcases List.mem_cons.1 hx with rfl | hx
    · exact .inr ⟨_, List.mem_singleton.2 rfl, hk⟩
    · rcases hm.ow x hx k hk with h | h
      · exact .inl h
      · exact h.elim
theorem own_dk {g k : Nat} {A : Option Addr} {n c at_ : Nat} (h : own [dk g A n c at_] k) : (some g : Option Nat) = some k := by
  obtain ⟨y, hy, e⟩ := h
  rcases List.mem_singleton.1 hy with rfl
  exact e
/-- the next number: where the deck stands then, and what came -/
def dkAt (n at_ : Nat) : Nat := if at_ < n then at_ + 1 else at_
def dkV (xs : List Int) (at_ : Nat) (m : Int) : Int := match xs[at_]? with
  | some v => modF v m
  | none => 0
theorem dkV_bd (xs : List Int) (at_ : Nat) {m : Int} (hm : 0 < m) : 0 ≤ dkV xs at_ m ∧ dkV xs at_ m < m := by
  unfold dkV
  split
  · exact modF_bd _ hm
  · omega
set_option maxHeartbeats 1000000 in
theorem dnext_c (g : Nat) (A : Option Addr) (n c at_ : Nat) (xs : List Int) (m : Int) (w : World) (hs' : (dk g A n c at_).sat w) (hl : xs.length = n) (hr : Rd w w.heap.size A (ints xs)) (hg : xs ≠ [] → ∀ b o, A = some ⟨b, o, none⟩ → b ≠ g) (hm0 : 0 < m) (hm1 : m ≤ 2000000) (hn : n ≤ 9223372036854775807) :
    Ret Try.prog 9 [.pointer (some ⟨g, 0, none⟩), .int .i64 m] w (fun u w' => u = .int .i64 (dkV xs at_ m) ∧ (dk g A n c (dkAt n at_)).sat w' ∧ Fr (fun k => (some g : Option Nat) = some k) w w') := by
  generalize hR : dkV xs at_ m = R
  unfold dkV at hR
  by_cases h : at_ < n
  · have hat : dkAt n at_ = at_ + 1 := by unfold dkAt; rw [if_pos h]
    rw [hat]
    have hx : xs[at_]? = some (xs[at_]'(by omega)) := List.getElem?_eq_getElem (by omega)
    have e1 := ints_some (xs := xs) (k := at_) (by omega)
    rw [hx] at hR
    dsimp only at hR
    obtain ⟨b1, o1, rfl, hb1, r1⟩ := hr.ro (by rw [ints_len]; omega)
    have hno : ¬ own [dk g (some ⟨b1, o1, none⟩) n c at_] b1 := fun hw => hg (List.ne_nil_of_length_pos (by omega)) b1 o1 rfl (Option.some.inj (own_dk hw)).symm
    generalize xs[at_]'(_) = v at *
    have hmd := fun w => mod_c v m w hm0 hm1
    rw [hR] at hmd
    have hpr : (at_ : Int) + 1 - 1 = (at_ : Int) := by omega
    refine enterR Try.func9 rfl rfl rfl fun a hs hm => ?_
    replace hm := dk_adopt hm rfl hs'
    unfold dk at hm hno
    repeat (first | ((with_reducible first | refine toL hm ?_ | refine toQ ?_); (first | refine oneV hs gw_ rfl rfl (by intro w hm; exact kv_) ?_ | refine oneN hs rfl rfl rfl rfl rfl rfl rfl ?_ | refine oneU hs rfl rfl rfl rfl rfl rfl ?_); clear hs a; intro a hs) | ((with_reducible apply lCons); first | (refine dv hs gw_ rfl rfl da_ ?_; clear hs hm a; rintro _ w ⟨g, rfl, -, hm⟩ a hs) | (refine stn hs rfl rfl ds_ ?_; clear hs hm a; rintro - w hm a hs) | (refine dv hs gw_ rfl rfl (d_call hs rfl rfl rfl (pl 16 rfl) (hmd _)) ?_; clear hs a; rintro _ w ⟨rfl, hf⟩ a hs; replace hm := hm.pu hf; clear hf)) | ((with_reducible apply qCons); first | (refine qwcall hs gw_ rfl rfl rfl rfl rfl (pl 16 rfl) (by intro w hm; exact Ret.mono (hmd _) (fun _ _ ⟨h1, h2⟩ => ⟨h1, hm.pu h2⟩)) ?_; clear hs a; intro a hs)) | ((with_reducible apply qNil); clear hm; intro w hm) | ((with_reducible refine cQuiet hm ?_ ?_ ?_ ?_); rfl; kernel_rfl; kernel_rfl) | (with_reducible first | apply lNilThen | apply lNilBlock | apply lNil | apply wp_seq | apply wp_region_lit | apply wp_block | apply cExit | apply cRet | apply cSkip | apply gThen | apply gBlock | apply eThen | apply eBlockHit | refine eBlock rfl ?_ | apply rThen | apply rBlock) | ((with_reducible apply cCond); first | refine cTrue hs rfl bd_ ?_ | refine cFalse hs rfl bd_ ?_))
    exact gRet1 hs rfl rfl ⟨rfl, hm.me _ (List.Mem.head _), hm.fr.mono fun _ _ hw => own_dk hw⟩
  · have hat : dkAt n at_ = at_ := by unfold dkAt; rw [if_neg h]
    rw [hat]
    rw [List.getElem?_eq_none (by omega)] at hR
    dsimp only at hR
    subst hR
    refine enterR Try.func9 rfl rfl rfl fun a hs hm => ?_
    replace hm := dk_adopt hm rfl hs'
    unfold dk at hm
    repeat (first | ((with_reducible first | refine toL hm ?_ | refine toQ ?_); (first | refine oneV hs gw_ rfl rfl (by intro w hm; exact kv_) ?_ | refine oneN hs rfl rfl rfl rfl rfl rfl rfl ?_ | refine oneU hs rfl rfl rfl rfl rfl rfl ?_); clear hs a; intro a hs) | ((with_reducible apply lCons); first | (refine dv hs gw_ rfl rfl da_ ?_; clear hs hm a; rintro _ w ⟨g, rfl, -, hm⟩ a hs) | (refine stn hs rfl rfl ds_ ?_; clear hs hm a; rintro - w hm a hs) ) | ((with_reducible apply qNil); clear hm; intro w hm) | ((with_reducible refine cQuiet hm ?_ ?_ ?_ ?_); rfl; kernel_rfl; kernel_rfl) | (with_reducible first | apply lNilThen | apply lNilBlock | apply lNil | apply wp_seq | apply wp_region_lit | apply wp_block | apply cExit | apply cRet | apply cSkip | apply gThen | apply gBlock | apply eThen | apply eBlockHit | refine eBlock rfl ?_ | apply rThen | apply rBlock) | ((with_reducible apply cCond); first | refine cTrue hs rfl bd_ ?_ | refine cFalse hs rfl bd_ ?_))
    exact gRet1 hs rfl rfl ⟨rfl, hm.me _ (List.Mem.head _), hm.fr.mono fun _ _ hw => own_dk hw⟩
end Go.Proofs.Ytfcmejcmijjnpaa
