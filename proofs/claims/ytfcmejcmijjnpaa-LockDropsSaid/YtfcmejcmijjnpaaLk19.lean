/- Drop: a row without a thread; the library's walk. -/
import Derived.Test.YtfcmejcmijjnpaaLk18
import Derived.Test.YtfcmejcmijjnpaaLk16
import Derived.Test.YtfcmejcmijjnpaaLkOrdL
namespace Go.Proofs.Ytfcmejcmijjnpaa
open Go.RowKit

/-- a block that was there becomes own -/
theorem Mm.adopt {w w' : World} {M : List Hp} {g : Nat} {t : TypeId} {cs : List Value} (hm : Mm (fun _ => False) w M w') (hg : (⟨some g, t, cs⟩ : Hp).sat w) : Mm (own [⟨some g, t, cs⟩]) w (⟨some g, t, cs⟩ :: M) w' := by
  have hlt : g < w.heap.size := Hp.lt hg rfl
  refine ⟨fun x hx => ?_, ⟨hm.fr.os, hm.fr.tape, hm.fr.output, hm.fr.size, fun k hk _ => hm.fr.block k hk (fun t => t)⟩, ⟨fun x hx k hk e => ?_, hm.dj⟩, fun x hx k hk => ?_⟩
  · rcases List.mem_cons.1 hx with rfl | hx
    · exact Hp.sat_fr hm.fr hg fun _ _ t => t
    · exact hm.me x hx
  · have e' : g = k := Option.some.inj hk
    subst e'
    rcases hm.ow x hx g e with h | h
    · omega
    · exact h
  · rcases List.mem_cons.1 hx with rfl | hx
    · exact .inr ⟨_, List.mem_singleton.2 rfl, hk⟩
    · rcases hm.ow x hx k hk with h | h
      · exact .inl h
      · exact h.elim

set_option maxHeartbeats 4000000 in
theorem del_c (A n c : Nat) (xs : List Int) (cs : List Value) (t : Int) (g : Nat) (wB : World) (hr : Row (some A) n c 1 (ints xs) cs) (hb : (⟨some A, 3, cs⟩ : Hp).sat wB) (hn : n ≤ 1000) (hg : Ro wB g 0 [.int .i64 t]) (hne : A ≠ g) :
    Ret Try.prog 26 [slv (some A) n c, .func (.func 27) #[] #[.pointer (some ⟨g, 0, none⟩)]] wB (fun u w' => ∃ m cs', m ≤ n ∧ u = slv (some A) m c ∧ Row (some A) m c 1 (ints (xs.filter (· ≠ t))) cs' ∧ Mm (own [⟨some A, 3, cs⟩]) wB [⟨some A, 3, cs'⟩] w') := by
  have hxl : xs.length = n := by have := hr.xl; rwa [ints_len, Nat.mul_one] at this
  have hle := hr.le
  have hcm := hr.cm
  have hcl : cs.length = c := by rw [hr.len, Nat.mul_one]
  have hng : ¬ own [⟨some A, 3, cs⟩] g := fun ⟨z, hz, e⟩ => by
    rcases List.mem_singleton.1 hz with rfl
    exact hne (Option.some.inj e)
  refine enterR Try.func26 rfl rfl rfl fun a hs hm => ?_
  replace hm := hm.adopt hb
  have hsl : slv (some A) n c = .slice (some ⟨A, 0, none⟩) n c := rfl
  rw [hsl] at hs
  repeat (first | ((with_reducible refine toL hm ?_); (first | refine oneV hs gw_ rfl rfl (by intro w hm; (first | exact kvR_ | exact r_sliceArr hs rfl rfl tab rfl rfl rfl | exact r_sliceArrTo hs rfl rfl rfl tab rfl rfl rfl (by omega) (by omega) | exact r_sliceTo hs rfl rfl rfl tab rfl rfl rfl (by omega) (by omega) | exact r_sliceFrom hs rfl rfl rfl tab rfl rfl rfl (by omega) (by omega))) ?_ | refine oneN hs rfl rfl rfl rfl rfl rfl rfl ?_ | refine oneU hs rfl rfl rfl rfl rfl rfl ?_); clear hs a; intro a hs) | ((with_reducible apply lCons); first | (refine dv hs gw_ rfl rfl da_ ?_; clear hs hm a; rintro _ w ⟨g, rfl, -, hm⟩ a hs) | (refine stn hs rfl rfl ds_ ?_; clear hs hm a; rintro - w hm a hs) ) | (with_reducible first | apply lNilThen | apply lNilBlock | apply lNil | apply wp_seq | apply wp_region_lit | apply wp_block | apply cExit | apply cRet | apply cSkip | apply gThen | apply gBlock | apply eThen | apply eBlockHit | refine eBlock rfl ?_ | apply rThen | apply rBlock) | ((with_reducible apply cCond); first | refine cTrue hs rfl bd_ ?_ | refine cFalse hs rfl bd_ ?_))
  refine st hs rfl rfl rfl (d_call hs rfl rfl rfl (pl 34 rfl) ((ixd_c ⟨some ⟨A, 0, none⟩, n, c, xs⟩ t g _ (RowO.is_ok (A := some A) hm mem_ hr.rowO) hn (fun j v hj => hm.fr.cl (hg j v hj) hng)))) ?_; clear hs a; rintro _ w1 ⟨hix, hf⟩ a hs
  replace hm := hm.pu hf
  clear hf
  rcases hix with ⟨rfl, hno⟩ | ⟨k, rfl, ⟨hk, hkt⟩, hlt⟩
  · repeat (first | ((with_reducible refine toL hm ?_); (first | refine oneV hs gw_ rfl rfl (by intro w hm; (first | exact kvR_ | exact r_sliceArr hs rfl rfl tab rfl rfl rfl | exact r_sliceArrTo hs rfl rfl rfl tab rfl rfl rfl (by omega) (by omega) | exact r_sliceTo hs rfl rfl rfl tab rfl rfl rfl (by omega) (by omega) | exact r_sliceFrom hs rfl rfl rfl tab rfl rfl rfl (by omega) (by omega))) ?_ | refine oneN hs rfl rfl rfl rfl rfl rfl rfl ?_ | refine oneU hs rfl rfl rfl rfl rfl rfl ?_); clear hs a; intro a hs) | ((with_reducible apply lCons); first | (refine dv hs gw_ rfl rfl da_ ?_; clear hs hm a; rintro _ w ⟨g, rfl, -, hm⟩ a hs) | (refine stn hs rfl rfl ds_ ?_; clear hs hm a; rintro - w hm a hs) ) | (with_reducible first | apply lNilThen | apply lNilBlock | apply lNil | apply wp_seq | apply wp_region_lit | apply wp_block | apply cExit | apply cRet | apply cSkip | apply gThen | apply gBlock | apply eThen | apply eBlockHit | refine eBlock rfl ?_ | apply rThen | apply rBlock) | ((with_reducible apply cCond); first | refine cTrue hs rfl bd_ ?_ | refine cFalse hs rfl bd_ ?_))
    exact gRet1 hs rfl rfl ⟨n, cs, Nat.le_refl _, rfl, by rw [List.filter_eq_self.2 (fun v hv => by obtain ⟨i, hi, rfl⟩ := List.getElem_of_mem hv; simpa using hno i hi)]; exact hr, hm⟩
  · dsimp only at hk hkt hlt
    repeat (first | ((with_reducible refine toL hm ?_); (first | refine oneV hs gw_ rfl rfl (by intro w hm; (first | exact kvR_ | exact r_sliceArr hs rfl rfl tab rfl rfl rfl | exact r_sliceArrTo hs rfl rfl rfl tab rfl rfl rfl (by omega) (by omega) | exact r_sliceTo hs rfl rfl rfl tab rfl rfl rfl (by omega) (by omega) | exact r_sliceFrom hs rfl rfl rfl tab rfl rfl rfl (by omega) (by omega))) ?_ | refine oneN hs rfl rfl rfl rfl rfl rfl rfl ?_ | refine oneU hs rfl rfl rfl rfl rfl rfl ?_); clear hs a; intro a hs) | ((with_reducible apply lCons); first | (refine dv hs gw_ rfl rfl da_ ?_; clear hs hm a; rintro _ w ⟨g, rfl, -, hm⟩ a hs) | (refine stn hs rfl rfl ds_ ?_; clear hs hm a; rintro - w hm a hs) ) | (with_reducible first | apply lNilThen | apply lNilBlock | apply lNil | apply wp_seq | apply wp_region_lit | apply wp_block | apply cExit | apply cRet | apply cSkip | apply gThen | apply gBlock | apply eThen | apply eBlockHit | refine eBlock rfl ?_ | apply rThen | apply rBlock) | ((with_reducible apply cCond); first | refine cTrue hs rfl bd_ ?_ | refine cFalse hs rfl bd_ ?_))
    refine cLoop (X := Nat × Nat × List Value) (fun X a w' => Sl Try.f26.ntmps [(0, .slice (some ⟨A, 0, none⟩) n c), (1, .func (.func 27) #[] #[.pointer (some ⟨g, 0, none⟩)]), (5, .int .i64 (X.2.1 : Int)), (6, .int .i64 (X.1 : Int))] a ∧ Mm (own [⟨some A, 3, cs⟩]) wB [⟨some A, 3, X.2.2⟩] w' ∧ DI xs t c X.1 X.2.1 X.2.2) (fun X => n - X.1) (k + 1, k, cs) ⟨hs.sub (Has.all ⟨rfl, rfl, rfl, rfl, trivial⟩), hm, DI.start (fun p v hp => hr.get hp) hcl (by omega) hk hkt hlt⟩ ?_
    clear hs hm a
    rintro ⟨j, m, cs2⟩ a w' ⟨hs, hm, hD⟩
    dsimp only at hs hm hD
    have hjn := hD.jn
    have hmj := hD.mj
    have hc2 := hD.cl
    by_cases hjl : j < n
    · obtain ⟨v, hv⟩ : ∃ v, xs[j] = v := ⟨_, rfl⟩
      have hcell := hD.td j (by omega) (Nat.le_refl _)
      rw [hv] at hcell
      have hc := fun w M (hm : Mm (own [⟨some A, 3, cs⟩]) wB M w) => dcl_c v t g w (fun j v hj => hm.fr.cl (hg j v hj) hng)
      by_cases h : v = t
      · rw [decide_eq_true h] at hc
        repeat (first | ((with_reducible refine toL hm ?_); (first | refine oneV hs gw_ rfl rfl (by intro w hm; (first | exact kvR_ | exact r_sliceArr hs rfl rfl tab rfl rfl rfl | exact r_sliceArrTo hs rfl rfl rfl tab rfl rfl rfl (by omega) (by omega) | exact r_sliceTo hs rfl rfl rfl tab rfl rfl rfl (by omega) (by omega) | exact r_sliceFrom hs rfl rfl rfl tab rfl rfl rfl (by omega) (by omega))) ?_ | refine oneN hs rfl rfl rfl rfl rfl rfl rfl ?_ | refine oneU hs rfl rfl rfl rfl rfl rfl ?_); clear hs a; intro a hs) | ((with_reducible apply lCons); first | (refine dv hs gw_ rfl rfl da_ ?_; clear hs hm a; rintro _ w ⟨g, rfl, -, hm⟩ a hs) | (refine stn hs rfl rfl ds_ ?_; clear hs hm a; rintro - w hm a hs) | (refine dv hs gw_ rfl rfl (d_callC hs rfl rfl rfl (pl 27 rfl) (hc _ _ hm)) ?_; clear hs a; rintro _ w ⟨rfl, hf⟩ a hs; replace hm := hm.pu hf; clear hf)) | (with_reducible first | apply lNilThen | apply lNilBlock | apply lNil | apply wp_seq | apply wp_region_lit | apply wp_block | apply cExit | apply cRet | apply cSkip | apply gThen | apply gBlock | apply eThen | apply eBlockHit | refine eBlock rfl ?_ | apply rThen | apply rBlock) | ((with_reducible apply cCond); first | refine cTrue hs rfl bd_ ?_ | refine cFalse hs rfl bd_ ?_))
        exact ⟨(j + 1, m, cs2), by dsimp only; omega, hs.sub (Has.all ⟨rfl, rfl, rfl, rfl, trivial⟩), hm, hD.skip (by omega) (hv.trans h)⟩
      · rw [decide_eq_false h] at hc
        have hD2 := hD.keep (by omega) (by rw [hv]; exact h)
        rw [hv] at hD2
        repeat (first | ((with_reducible refine toL hm ?_); (first | refine oneV hs gw_ rfl rfl (by intro w hm; (first | exact kvR_ | exact r_sliceArr hs rfl rfl tab rfl rfl rfl | exact r_sliceArrTo hs rfl rfl rfl tab rfl rfl rfl (by omega) (by omega) | exact r_sliceTo hs rfl rfl rfl tab rfl rfl rfl (by omega) (by omega) | exact r_sliceFrom hs rfl rfl rfl tab rfl rfl rfl (by omega) (by omega))) ?_ | refine oneN hs rfl rfl rfl rfl rfl rfl rfl ?_ | refine oneU hs rfl rfl rfl rfl rfl rfl ?_); clear hs a; intro a hs) | ((with_reducible apply lCons); first | (refine dv hs gw_ rfl rfl da_ ?_; clear hs hm a; rintro _ w ⟨g, rfl, -, hm⟩ a hs) | (refine stn hs rfl rfl ds_ ?_; clear hs hm a; rintro - w hm a hs) | (refine dv hs gw_ rfl rfl (d_callC hs rfl rfl rfl (pl 27 rfl) (hc _ _ hm)) ?_; clear hs a; rintro _ w ⟨rfl, hf⟩ a hs; replace hm := hm.pu hf; clear hf)) | (with_reducible first | apply lNilThen | apply lNilBlock | apply lNil | apply wp_seq | apply wp_region_lit | apply wp_block | apply cExit | apply cRet | apply cSkip | apply gThen | apply gBlock | apply eThen | apply eBlockHit | refine eBlock rfl ?_ | apply rThen | apply rBlock) | ((with_reducible apply cCond); first | refine cTrue hs rfl bd_ ?_ | refine cFalse hs rfl bd_ ?_))
        exact ⟨(j + 1, m + 1, cs2.set m (.int .i64 v)), by dsimp only; omega, hs.sub (Has.all ⟨rfl, rfl, rfl, rfl, trivial⟩), hm, hD2⟩
    · obtain rfl : j = xs.length := by omega
      have hfin := hD.fin (A := A) hcm
      rw [hxl] at hfin
      repeat (first | ((with_reducible refine toL hm ?_); (first | refine oneV hs gw_ rfl rfl (by intro w hm; (first | exact kvR_ | exact r_sliceArr hs rfl rfl tab rfl rfl rfl | exact r_sliceArrTo hs rfl rfl rfl tab rfl rfl rfl (by omega) (by omega) | exact r_sliceTo hs rfl rfl rfl tab rfl rfl rfl (by omega) (by omega) | exact r_sliceFrom hs rfl rfl rfl tab rfl rfl rfl (by omega) (by omega))) ?_ | refine oneN hs rfl rfl rfl rfl rfl rfl rfl ?_ | refine oneU hs rfl rfl rfl rfl rfl rfl ?_); clear hs a; intro a hs) | ((with_reducible apply lCons); first | (refine dv hs gw_ rfl rfl da_ ?_; clear hs hm a; rintro _ w ⟨g, rfl, -, hm⟩ a hs) | (refine stn hs rfl rfl ds_ ?_; clear hs hm a; rintro - w hm a hs) ) | (with_reducible first | apply lNilThen | apply lNilBlock | apply lNil | apply wp_seq | apply wp_region_lit | apply wp_block | apply cExit | apply cRet | apply cSkip | apply gThen | apply gBlock | apply eThen | apply eBlockHit | refine eBlock rfl ?_ | apply rThen | apply rBlock) | ((with_reducible apply cCond); first | refine cTrue hs rfl bd_ ?_ | refine cFalse hs rfl bd_ ?_))
      rw [Int.toNat_natCast, if_neg (show ¬ c = m by omega)] at hs
      have e38 : Option.map (fun x : Addr => x.add (m * 1)) (some ⟨A, 0, none⟩) = some ⟨A, m, none⟩ := by simp [Addr.add]; omega
      dsimp only at hs
      rw [e38] at hs
      replace hs := hs.sub (L' := [(38, .slice (some ⟨A, m, none⟩) (n - m) (c - m)), (0, .slice (some ⟨A, 0, none⟩) n c), (5, .int .i64 (m : Int))]) (Has.all ⟨rfl, rfl, rfl, trivial⟩)
      refine stn hs rfl rfl (d_clear hs rfl rfl rfl tab rfl rfl rfl rfl rfl (by omega) hm mem_ (by omega)) ?_
      clear hs
      rintro _ w6 hM a hs
      replace hm := hM _ rep_
      clear hM
      repeat (first | ((with_reducible refine toL hm ?_); (first | refine oneV hs gw_ rfl rfl (by intro w hm; (first | exact kvR_ | exact r_sliceArr hs rfl rfl tab rfl rfl rfl | exact r_sliceArrTo hs rfl rfl rfl tab rfl rfl rfl (by omega) (by omega) | exact r_sliceTo hs rfl rfl rfl tab rfl rfl rfl (by omega) (by omega) | exact r_sliceFrom hs rfl rfl rfl tab rfl rfl rfl (by omega) (by omega))) ?_ | refine oneN hs rfl rfl rfl rfl rfl rfl rfl ?_ | refine oneU hs rfl rfl rfl rfl rfl rfl ?_); clear hs a; intro a hs) | ((with_reducible apply lCons); first | (refine dv hs gw_ rfl rfl da_ ?_; clear hs hm a; rintro _ w ⟨g, rfl, -, hm⟩ a hs) | (refine stn hs rfl rfl ds_ ?_; clear hs hm a; rintro - w hm a hs) ) | (with_reducible first | apply lNilThen | apply lNilBlock | apply lNil | apply wp_seq | apply wp_region_lit | apply wp_block | apply cExit | apply cRet | apply cSkip | apply gThen | apply gBlock | apply eThen | apply eBlockHit | refine eBlock rfl ?_ | apply rThen | apply rBlock) | ((with_reducible apply cCond); first | refine cTrue hs rfl bd_ ?_ | refine cFalse hs rfl bd_ ?_))
      exact gRet1 hs rfl rfl ⟨m, _, by omega, rfl, hfin, hm⟩
end Go.Proofs.Ytfcmejcmijjnpaa
