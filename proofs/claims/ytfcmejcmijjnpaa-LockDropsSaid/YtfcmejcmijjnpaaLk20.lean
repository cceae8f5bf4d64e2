/- Drop: a row without a thread, as the caller sees it. -/
import Derived.Test.YtfcmejcmijjnpaaLk19
namespace Go.Proofs.Ytfcmejcmijjnpaa
open Go.RowKit

/-- one own block has been changed by a call -/
theorem Mm.into {S : Nat → Prop} {w0 w w' : World} {M M' : List Hp} {h h' : Hp} (hm : Mm S w0 M w) (hk : Mm (own [h]) w [h'] w') (hg : h'.g = h.g) (hR : Rep M h h' M') : Mm S w0 M' w' := by
  refine hm.turn hR ⟨hk.fr.os, hk.fr.tape, hk.fr.output, hk.fr.size, fun k hk' hne => hk.fr.block k hk' fun ⟨z, hz, e⟩ => hne ?_⟩ (hk.me _ (List.mem_singleton.2 rfl)) fun g hg' => .inl (by rw [← hg]; exact hg')
  rcases List.mem_singleton.1 hz with rfl
  exact e
theorem rep_row {rs : List RW} {k : Nat} {r r' : RW} (h : rs[k]? = some r) : Rep (rs.map RW.hp) r.hp r'.hp ((rs.set k r').map RW.hp) := by
  induction rs generalizing k with
  | nil => simp at h
  | cons a l ih =>
    cases k with
    | zero =>
      simp at h
      subst h
      exact Rep.head _ _ _
    | succ k =>
      simp only [List.getElem?_cons_succ] at h
      exact Rep.tail _ (ih h)
theorem delR_c (r : RW) (t : Int) (g : Nat) (wB : World) (hr : r.ok) (hb : r.hp.sat wB) (hn : r.xs.length ≤ 1000) (hg : Ro wB g 0 [.int .i64 t]) (hne : r.A ≠ some g) :
    Ret Try.prog 26 [r.v, .func (.func 27) #[] #[.pointer (some ⟨g, 0, none⟩)]] wB (fun u w' => ∃ r' : RW, u = r'.v ∧ r'.ok ∧ r'.A = r.A ∧ r'.xs = r.xs.filter (· ≠ t) ∧ Mm (own [r.hp]) wB [r'.hp] w') := by
  obtain ⟨A, c, cs, xs⟩ := r
  cases A with
  | some A =>
    refine (del_c A xs.length c xs cs t g wB hr hb hn hg fun e => hne (by rw [e])).mono ?_
    rintro u w' ⟨m, cs', hmn, rfl, hr2, hm⟩
    have hm2 : m = (xs.filter (· ≠ t)).length := by have := hr2.xl; rw [ints_len, Nat.mul_one] at this; exact this.symm
    subst hm2
    exact ⟨⟨some A, c, cs', xs.filter (· ≠ t)⟩, rfl, hr2, rfl, rfl, hm⟩
  | none =>
    obtain ⟨hx0, hc0⟩ := Row.nil hr rfl
    have hx : xs = [] := List.eq_nil_of_length_eq_zero hx0
    have hc : c = 0 := hc0
    subst hx; subst hc
    have hv : (RW.mk none 0 cs []).v = .slice none 0 0 := rfl
    rw [hv]
    refine enterR Try.func26 rfl rfl rfl fun a hs hm => ?_
    repeat (first | ((with_reducible refine toL hm ?_); (first | refine oneV hs gw_ rfl rfl (by intro w hm; (first | exact kv_ | exact r_sliceArr hs rfl rfl tab rfl rfl rfl | exact r_sliceArrTo hs rfl rfl rfl tab rfl rfl rfl (by omega) (by omega) | exact r_sliceTo hs rfl rfl rfl tab rfl rfl rfl (by omega) (by omega) | exact r_sliceFrom hs rfl rfl rfl tab rfl rfl rfl (by omega) (by omega))) ?_ | refine oneN hs rfl rfl rfl rfl rfl rfl rfl ?_ | refine oneU hs rfl rfl rfl rfl rfl rfl ?_); clear hs a; intro a hs) | ((with_reducible apply lCons); first | (refine dv hs gw_ rfl rfl da_ ?_; clear hs hm a; rintro _ w ⟨g, rfl, -, hm⟩ a hs) | (refine stn hs rfl rfl ds_ ?_; clear hs hm a; rintro - w hm a hs) ) | (with_reducible first | apply lNilThen | apply lNilBlock | apply lNil | apply wp_seq | apply wp_region_lit | apply wp_block | apply cExit | apply cRet | apply cSkip | apply gThen | apply gBlock | apply eThen | apply eBlockHit | refine eBlock rfl ?_ | apply rThen | apply rBlock) | ((with_reducible apply cCond); first | refine cTrue hs rfl bd_ ?_ | refine cFalse hs rfl bd_ ?_))
    refine st hs rfl rfl rfl (d_call hs rfl rfl rfl (pl 34 rfl) ((ixd_c ⟨none, 0, 0, []⟩ t g _ ⟨rfl, fun h0 => absurd h0 (by simp [ints])⟩ (by simp) (fun j v hj => hm.fr.cl (hg j v hj) (fun t => t))))) ?_; clear hs a; rintro _ w1 ⟨hix, hf⟩ a hs
    replace hm := hm.pu hf
    clear hf
    rcases hix with ⟨rfl, hno⟩ | ⟨k, rfl, ⟨hk, hkt⟩, hlt⟩
    · repeat (first | ((with_reducible refine toL hm ?_); (first | refine oneV hs gw_ rfl rfl (by intro w hm; (first | exact kv_ | exact r_sliceArr hs rfl rfl tab rfl rfl rfl | exact r_sliceArrTo hs rfl rfl rfl tab rfl rfl rfl (by omega) (by omega) | exact r_sliceTo hs rfl rfl rfl tab rfl rfl rfl (by omega) (by omega) | exact r_sliceFrom hs rfl rfl rfl tab rfl rfl rfl (by omega) (by omega))) ?_ | refine oneN hs rfl rfl rfl rfl rfl rfl rfl ?_ | refine oneU hs rfl rfl rfl rfl rfl rfl ?_); clear hs a; intro a hs) | ((with_reducible apply lCons); first | (refine dv hs gw_ rfl rfl da_ ?_; clear hs hm a; rintro _ w ⟨g, rfl, -, hm⟩ a hs) | (refine stn hs rfl rfl ds_ ?_; clear hs hm a; rintro - w hm a hs) ) | (with_reducible first | apply lNilThen | apply lNilBlock | apply lNil | apply wp_seq | apply wp_region_lit | apply wp_block | apply cExit | apply cRet | apply cSkip | apply gThen | apply gBlock | apply eThen | apply eBlockHit | refine eBlock rfl ?_ | apply rThen | apply rBlock) | ((with_reducible apply cCond); first | refine cTrue hs rfl bd_ ?_ | refine cFalse hs rfl bd_ ?_))
      refine gRet1 hs rfl rfl ⟨⟨none, 0, cs, []⟩, rfl, hr, rfl, rfl, ?_⟩
      have hcs : cs = [] := hb
      subst hcs
      exact ⟨fun z hz => by rcases List.mem_singleton.1 hz with rfl; rfl, ⟨hm.fr.os, hm.fr.tape, hm.fr.output, hm.fr.size, fun k hk _ => hm.fr.block k hk (fun t => t)⟩, ⟨fun x hx => (by cases hx), trivial⟩, fun z hz k hk => by rcases List.mem_singleton.1 hz with rfl; cases hk⟩
    · exact absurd hk (Nat.not_lt_zero _)
end Go.Proofs.Ytfcmejcmijjnpaa
