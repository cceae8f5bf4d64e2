/- Layer 9 by the engine: Move and apart of the program. -/
import Derived.Test.YtfcimpfhfbkgbabLay2
namespace Go.Proofs.Ytfcimpfhfbkgbab
open Go.RowKit

theorem wrapS {v : Int} (h : 0 ≤ v ∧ v ≤ 65535) : IntKind.i64.wrap v = v := by simp [IntKind.wrap, IntKind.bits, IntKind.signed]; omega
theorem LS.ok.rsv {x : LS} {w : World} (hx : x.ok w) {v : Int} (hv : 0 ≤ v ∧ v ≤ 65535) (w'' : World) (hf : Pu w w'') : Ret Try.prog 19 [x.l, x.s, .int .i64 (IntKind.i64.wrap v)] w'' (fun u w' => u = rsvV (resF x.bs x.ss v x.n) ∧ Pu w'' w') := by
  rw [wrapS hv]
  exact rsv_c x.A x.n x.c x.bs x.key x.B x.d x.ss v w'' hx.bl hx.sl (hf.rd' hx.br) (hf.rd' hx.sr) hx.b hx.s hv (by have := hx.n; omega)
theorem LS.ok.rrsv {x : LS} {w : World} (hx : x.ok w) {v : Int} (hv : 0 ≤ v ∧ v ≤ 65535) (w'' : World) (hf : Pu w w'') : Ret Try.prog 21 [x.l, x.s, .int .i64 (IntKind.i64.wrap v)] w'' (fun u w' => u = rsvV (resF x.bs x.ss v x.n) ∧ Pu w'' w') := by
  rw [wrapS hv]
  exact rrsv_c x.A x.n x.c x.bs x.key x.B x.d x.ss v w'' hx.bl hx.sl (hf.rd' hx.br) (hf.rd' hx.sr) hx.b hx.s hv (by have := hx.n; omega)
theorem LS.ok.off {x : LS} {w : World} (hx : x.ok w) {v : Int} {r : Nat} {o : Int} (h : resF x.bs x.ss v x.n = some (r, o)) : r < x.n ∧ 0 ≤ o ∧ o ≤ 32 ∧ o = v - x.bs.getD r 0 := by
  obtain ⟨h1, h2, h3, h4⟩ := resF_at h
  have hl := hx.sl
  have hs := hx.s (x.ss[r]'(by omega)) (List.getElem_mem _)
  rw [getI (by omega)] at h4
  exact ⟨h1, h3, by omega, h2⟩

set_option maxHeartbeats 2000000 in
theorem mov_c (x : LS) (t v k : Int) (back : Bool) (w : World) (hx : x.ok w) (hv : 0 ≤ v ∧ v ≤ 65535) (hk : 0 ≤ k ∧ k ≤ 65535) :
    Ret Try.prog 9 [x.l, x.s, clV t v, .int .u16 k, .bool back] w (fun u w' => u = .tuple #[clV (movF x t v k back).1.1 (movF x t v k back).1.2, .int .i64 (movF x t v k back).2] ∧ Pu w w') := by
  have hrs := hx.rsv hv
  have hwk := wrapS hk
  have hoff := fun r o => hx.off (v := v) (r := r) (o := o)
  have had := fun (r : Nat) (o : Int) w'' (hf : Pu w w'') => adr_c x (r : Int) o w'' (hx.pu hf)
  generalize hR : movF x t v k back = R
  unfold movF at hR
  unfold adrF at had
  unfold LS.l LS.s clV at *
  by_cases ht : t = 1
  · rw [if_pos ht] at hR
    cases hq : resF x.bs x.ss v x.n with
    | none =>
      rw [hq] at hrs hR
      unfold rsvV at hrs
      subst hR
      refine enterR Try.func9 rfl rfl rfl fun a hs hm => ?_
      repeat (first | ((with_reducible refine toL hm ?_); (first | refine oneV hs gw_ rfl rfl (by intro w hm; (first | exact kvR_ | exact r_neg64 hs rfl rfl (by omega) | exact r_neg hs rfl rfl | exact r_b2s hs rfl rfl tab rfl rfl rfl rfl rfl rfl (by first | exact Fr.rd' hm.fr (by assumption) | exact Mm.rd_row hm mem_ (by assumption)) (by assumption))) ?_ | refine oneN hs rfl rfl rfl rfl rfl rfl rfl ?_ | refine oneU hs rfl rfl rfl rfl rfl rfl ?_); clear hs a; intro a hs) | ((with_reducible apply lCons); first | (refine dv hs gw_ rfl rfl da_ ?_; clear hs hm a; rintro _ w ⟨g, rfl, -, hm⟩ a hs) | (refine stn hs rfl rfl ds_ ?_; clear hs hm a; rintro - w hm a hs) | (refine dv hs gw_ rfl rfl (d_call hs rfl rfl rfl (pl 19 rfl) (hrs _ hm.fr)) ?_; clear hs a; rintro _ w ⟨rfl, hf⟩ a hs; replace hm := hm.pu hf; clear hf)) | (with_reducible first | apply lNilThen | apply lNilBlock | apply lNil | apply wp_seq | apply wp_region_lit | apply wp_block | apply cExit | apply cRet | apply cSkip | apply gThen | apply gBlock | apply eThen | apply eBlockHit | refine eBlock rfl ?_ | apply rThen | apply rBlock) | ((with_reducible apply cCond); first | refine cTrue hs rfl bd_ ?_ | refine cFalse hs rfl bd_ ?_))
      exact gRetN tab hs rfl (.cons (.cells rfl rfl rfl rfl (hm.ro (k := 0) (n := 2) mem_ (cutF_ok rfl))) (.cons (.tmp rfl) .nil)) ⟨rfl, hm.fr⟩
    | some p =>
      obtain ⟨r, o⟩ := p
      obtain ⟨f1, f2, f3, f4⟩ := hoff r o hq
      rw [hq] at hrs hR
      unfold rsvV at hrs
      dsimp only at hR
      cases back
      · have had2 := had r (o + IntKind.i64.wrap k)
        rw [show (o + IntKind.i64.wrap k) = o + k by rw [hwk]] at had2
        replace had2 : ∀ w'', Pu w w'' → Ret Try.prog 20 [.agg #[.slice x.A x.n x.c, .int .u16 x.key], .slice x.B x.n x.d, .agg #[.int .i64 (r : Int), .int .i64 (o + IntKind.i64.wrap k)]] w'' _ := fun w'' hf => by rw [hwk]; exact had2 w'' hf
        rw [if_neg (show ¬ false = true by simp)] at hR
        cases hi : insF x.ss (r : Int) (o + k)
        · rw [hi, if_neg (show ¬ false = true by simp)] at hR
          rw [hi, if_neg (show ¬ false = true by simp)] at had2
          subst hR
          refine enterR Try.func9 rfl rfl rfl fun a hs hm => ?_
          repeat (first | ((with_reducible refine toL hm ?_); (first | refine oneV hs gw_ rfl rfl (by intro w hm; (first | exact kvR_ | exact r_neg64 hs rfl rfl (by omega) | exact r_neg hs rfl rfl | exact r_b2s hs rfl rfl tab rfl rfl rfl rfl rfl rfl (by first | exact Fr.rd' hm.fr (by assumption) | exact Mm.rd_row hm mem_ (by assumption)) (by assumption))) ?_ | refine oneN hs rfl rfl rfl rfl rfl rfl rfl ?_ | refine oneU hs rfl rfl rfl rfl rfl rfl ?_); clear hs a; intro a hs) | ((with_reducible apply lCons); first | (refine dv hs gw_ rfl rfl da_ ?_; clear hs hm a; rintro _ w ⟨g, rfl, -, hm⟩ a hs) | (refine stn hs rfl rfl ds_ ?_; clear hs hm a; rintro - w hm a hs) | (refine dv hs gw_ rfl rfl (d_call hs rfl rfl rfl (pl 19 rfl) (hrs _ hm.fr)) ?_; clear hs a; rintro _ w ⟨rfl, hf⟩ a hs; replace hm := hm.pu hf; clear hf) | (refine dv hs gw_ rfl rfl (d_call hs rfl rfl rfl (pl 20 rfl) (had2 _ hm.fr)) ?_; clear hs a; rintro _ w ⟨rfl, hf⟩ a hs; replace hm := hm.pu hf; clear hf)) | (with_reducible first | apply lNilThen | apply lNilBlock | apply lNil | apply wp_seq | apply wp_region_lit | apply wp_block | apply cExit | apply cRet | apply cSkip | apply gThen | apply gBlock | apply eThen | apply eBlockHit | refine eBlock rfl ?_ | apply rThen | apply rBlock) | ((with_reducible apply cCond); first | refine cTrue hs rfl bd_ ?_ | refine cFalse hs rfl bd_ ?_))
          exact gRetN tab hs rfl (.cons (.cells rfl rfl rfl rfl (hm.ro (k := 0) (n := 2) mem_ (cutF_ok rfl))) (.cons (.tmp rfl) .nil)) ⟨rfl, hm.fr⟩
        · rw [hi, if_pos (show true = true from rfl)] at hR
          rw [hi, if_pos (show true = true from rfl), Int.toNat_natCast] at had2
          subst hR
          refine enterR Try.func9 rfl rfl rfl fun a hs hm => ?_
          repeat (first | ((with_reducible refine toL hm ?_); (first | refine oneV hs gw_ rfl rfl (by intro w hm; (first | exact kvR_ | exact r_neg64 hs rfl rfl (by omega) | exact r_neg hs rfl rfl | exact r_b2s hs rfl rfl tab rfl rfl rfl rfl rfl rfl (by first | exact Fr.rd' hm.fr (by assumption) | exact Mm.rd_row hm mem_ (by assumption)) (by assumption))) ?_ | refine oneN hs rfl rfl rfl rfl rfl rfl rfl ?_ | refine oneU hs rfl rfl rfl rfl rfl rfl ?_); clear hs a; intro a hs) | ((with_reducible apply lCons); first | (refine dv hs gw_ rfl rfl da_ ?_; clear hs hm a; rintro _ w ⟨g, rfl, -, hm⟩ a hs) | (refine stn hs rfl rfl ds_ ?_; clear hs hm a; rintro - w hm a hs) | (refine dv hs gw_ rfl rfl (d_call hs rfl rfl rfl (pl 19 rfl) (hrs _ hm.fr)) ?_; clear hs a; rintro _ w ⟨rfl, hf⟩ a hs; replace hm := hm.pu hf; clear hf) | (refine dv hs gw_ rfl rfl (d_call hs rfl rfl rfl (pl 20 rfl) (had2 _ hm.fr)) ?_; clear hs a; rintro _ w ⟨rfl, hf⟩ a hs; replace hm := hm.pu hf; clear hf)) | (with_reducible first | apply lNilThen | apply lNilBlock | apply lNil | apply wp_seq | apply wp_region_lit | apply wp_block | apply cExit | apply cRet | apply cSkip | apply gThen | apply gBlock | apply eThen | apply eBlockHit | refine eBlock rfl ?_ | apply rThen | apply rBlock) | ((with_reducible apply cCond); first | refine cTrue hs rfl bd_ ?_ | refine cFalse hs rfl bd_ ?_))
          exact gRetN tab hs rfl (.cons (.cells rfl rfl rfl rfl (hm.ro (k := 0) (n := 2) mem_ (cutF_ok rfl))) (.cons (.tmp rfl) .nil)) ⟨rfl, hm.fr⟩
      · have had2 := had r (o + -IntKind.i64.wrap k)
        rw [show (o + -IntKind.i64.wrap k) = o + -k by rw [hwk]] at had2
        replace had2 : ∀ w'', Pu w w'' → Ret Try.prog 20 [.agg #[.slice x.A x.n x.c, .int .u16 x.key], .slice x.B x.n x.d, .agg #[.int .i64 (r : Int), .int .i64 (o + -IntKind.i64.wrap k)]] w'' _ := fun w'' hf => by rw [hwk]; exact had2 w'' hf
        rw [if_pos (show true = true from rfl)] at hR
        cases hi : insF x.ss (r : Int) (o + -k)
        · rw [hi, if_neg (show ¬ false = true by simp)] at hR
          rw [hi, if_neg (show ¬ false = true by simp)] at had2
          subst hR
          refine enterR Try.func9 rfl rfl rfl fun a hs hm => ?_
          repeat (first | ((with_reducible refine toL hm ?_); (first | refine oneV hs gw_ rfl rfl (by intro w hm; (first | exact kvR_ | exact r_neg64 hs rfl rfl (by omega) | exact r_neg hs rfl rfl | exact r_b2s hs rfl rfl tab rfl rfl rfl rfl rfl rfl (by first | exact Fr.rd' hm.fr (by assumption) | exact Mm.rd_row hm mem_ (by assumption)) (by assumption))) ?_ | refine oneN hs rfl rfl rfl rfl rfl rfl rfl ?_ | refine oneU hs rfl rfl rfl rfl rfl rfl ?_); clear hs a; intro a hs) | ((with_reducible apply lCons); first | (refine dv hs gw_ rfl rfl da_ ?_; clear hs hm a; rintro _ w ⟨g, rfl, -, hm⟩ a hs) | (refine stn hs rfl rfl ds_ ?_; clear hs hm a; rintro - w hm a hs) | (refine dv hs gw_ rfl rfl (d_call hs rfl rfl rfl (pl 19 rfl) (hrs _ hm.fr)) ?_; clear hs a; rintro _ w ⟨rfl, hf⟩ a hs; replace hm := hm.pu hf; clear hf) | (refine dv hs gw_ rfl rfl (d_call hs rfl rfl rfl (pl 20 rfl) (had2 _ hm.fr)) ?_; clear hs a; rintro _ w ⟨rfl, hf⟩ a hs; replace hm := hm.pu hf; clear hf)) | (with_reducible first | apply lNilThen | apply lNilBlock | apply lNil | apply wp_seq | apply wp_region_lit | apply wp_block | apply cExit | apply cRet | apply cSkip | apply gThen | apply gBlock | apply eThen | apply eBlockHit | refine eBlock rfl ?_ | apply rThen | apply rBlock) | ((with_reducible apply cCond); first | refine cTrue hs rfl bd_ ?_ | refine cFalse hs rfl bd_ ?_))
          exact gRetN tab hs rfl (.cons (.cells rfl rfl rfl rfl (hm.ro (k := 0) (n := 2) mem_ (cutF_ok rfl))) (.cons (.tmp rfl) .nil)) ⟨rfl, hm.fr⟩
        · rw [hi, if_pos (show true = true from rfl)] at hR
          rw [hi, if_pos (show true = true from rfl), Int.toNat_natCast] at had2
          subst hR
          refine enterR Try.func9 rfl rfl rfl fun a hs hm => ?_
          repeat (first | ((with_reducible refine toL hm ?_); (first | refine oneV hs gw_ rfl rfl (by intro w hm; (first | exact kvR_ | exact r_neg64 hs rfl rfl (by omega) | exact r_neg hs rfl rfl | exact r_b2s hs rfl rfl tab rfl rfl rfl rfl rfl rfl (by first | exact Fr.rd' hm.fr (by assumption) | exact Mm.rd_row hm mem_ (by assumption)) (by assumption))) ?_ | refine oneN hs rfl rfl rfl rfl rfl rfl rfl ?_ | refine oneU hs rfl rfl rfl rfl rfl rfl ?_); clear hs a; intro a hs) | ((with_reducible apply lCons); first | (refine dv hs gw_ rfl rfl da_ ?_; clear hs hm a; rintro _ w ⟨g, rfl, -, hm⟩ a hs) | (refine stn hs rfl rfl ds_ ?_; clear hs hm a; rintro - w hm a hs) | (refine dv hs gw_ rfl rfl (d_call hs rfl rfl rfl (pl 19 rfl) (hrs _ hm.fr)) ?_; clear hs a; rintro _ w ⟨rfl, hf⟩ a hs; replace hm := hm.pu hf; clear hf) | (refine dv hs gw_ rfl rfl (d_call hs rfl rfl rfl (pl 20 rfl) (had2 _ hm.fr)) ?_; clear hs a; rintro _ w ⟨rfl, hf⟩ a hs; replace hm := hm.pu hf; clear hf)) | (with_reducible first | apply lNilThen | apply lNilBlock | apply lNil | apply wp_seq | apply wp_region_lit | apply wp_block | apply cExit | apply cRet | apply cSkip | apply gThen | apply gBlock | apply eThen | apply eBlockHit | refine eBlock rfl ?_ | apply rThen | apply rBlock) | ((with_reducible apply cCond); first | refine cTrue hs rfl bd_ ?_ | refine cFalse hs rfl bd_ ?_))
          exact gRetN tab hs rfl (.cons (.cells rfl rfl rfl rfl (hm.ro (k := 0) (n := 2) mem_ (cutF_ok rfl))) (.cons (.tmp rfl) .nil)) ⟨rfl, hm.fr⟩
  · rw [if_neg ht] at hR
    subst hR
    refine enterR Try.func9 rfl rfl rfl fun a hs hm => ?_
    repeat (first | ((with_reducible refine toL hm ?_); (first | refine oneV hs gw_ rfl rfl (by intro w hm; (first | exact kvR_ | exact r_neg64 hs rfl rfl (by omega) | exact r_neg hs rfl rfl | exact r_b2s hs rfl rfl tab rfl rfl rfl rfl rfl rfl (by first | exact Fr.rd' hm.fr (by assumption) | exact Mm.rd_row hm mem_ (by assumption)) (by assumption))) ?_ | refine oneN hs rfl rfl rfl rfl rfl rfl rfl ?_ | refine oneU hs rfl rfl rfl rfl rfl rfl ?_); clear hs a; intro a hs) | ((with_reducible apply lCons); first | (refine dv hs gw_ rfl rfl da_ ?_; clear hs hm a; rintro _ w ⟨g, rfl, -, hm⟩ a hs) | (refine stn hs rfl rfl ds_ ?_; clear hs hm a; rintro - w hm a hs) ) | (with_reducible first | apply lNilThen | apply lNilBlock | apply lNil | apply wp_seq | apply wp_region_lit | apply wp_block | apply cExit | apply cRet | apply cSkip | apply gThen | apply gBlock | apply eThen | apply eBlockHit | refine eBlock rfl ?_ | apply rThen | apply rBlock) | ((with_reducible apply cCond); first | refine cTrue hs rfl bd_ ?_ | refine cFalse hs rfl bd_ ?_))
    exact gRetN tab hs rfl (.cons (.cells rfl rfl rfl rfl (hm.ro (k := 0) (n := 2) mem_ (cutF_ok rfl))) (.cons (.tmp rfl) .nil)) ⟨rfl, hm.fr⟩
/-- the difference of two pointers in one region -/
def aptF (x : LS) (v u : Int) : Option ((Nat × Int) × (Nat × Int)) := match resF x.bs x.ss v x.n with
  | none => none
  | some p => match resF x.bs x.ss u x.n with
    | none => none
    | some q => if p.1 = q.1 then some (p, q) else none
def aptV : Option ((Nat × Int) × (Nat × Int)) → Value
  | none => .tuple #[.int .i64 0, .int .i64 4]
  | some (p, q) => .tuple #[.int .i64 (p.2 - q.2), .int .i64 0]
set_option maxHeartbeats 2000000 in
theorem apt_c (x : LS) (t v s u : Int) (w : World) (hx : x.ok w) (hv : 0 ≤ v ∧ v ≤ 65535) (hu : 0 ≤ u ∧ u ≤ 65535) :
    Ret Try.prog 31 [x.l, x.s, clV t v, clV s u] w (fun z w' => z = aptV (aptF x v u) ∧ Pu w w') := by
  have h1 := hx.rsv hv
  have h2 := hx.rsv hu
  have o1 := fun r o => hx.off (v := v) (r := r) (o := o)
  have o2 := fun r o => hx.off (v := u) (r := r) (o := o)
  unfold aptF LS.l LS.s clV at *
  cases hq1 : resF x.bs x.ss v x.n with
  | none =>
    rw [hq1] at h1
    cases hq2 : resF x.bs x.ss u x.n with
    | none =>
      rw [hq2] at h2
      unfold rsvV at h1 h2
      refine enterR Try.func31 rfl rfl rfl fun a hs hm => ?_
      repeat (first | ((with_reducible refine toL hm ?_); (first | refine oneV hs gw_ rfl rfl (by intro w hm; (first | exact kvR_ | exact r_b2s hs rfl rfl tab rfl rfl rfl rfl rfl rfl (by first | exact Fr.rd' hm.fr (by assumption) | exact Mm.rd_row hm mem_ (by assumption)) (by assumption))) ?_ | refine oneN hs rfl rfl rfl rfl rfl rfl rfl ?_ | refine oneU hs rfl rfl rfl rfl rfl rfl ?_); clear hs a; intro a hs) | ((with_reducible apply lCons); first | (refine dv hs gw_ rfl rfl da_ ?_; clear hs hm a; rintro _ w ⟨g, rfl, -, hm⟩ a hs) | (refine stn hs rfl rfl ds_ ?_; clear hs hm a; rintro - w hm a hs) | (refine dv hs gw_ rfl rfl (d_call hs rfl rfl rfl (pl 19 rfl) (h1 _ hm.fr)) ?_; clear hs a; rintro _ w ⟨rfl, hf⟩ a hs; replace hm := hm.pu hf; clear hf) | (refine dv hs gw_ rfl rfl (d_call hs rfl rfl rfl (pl 19 rfl) (h2 _ hm.fr)) ?_; clear hs a; rintro _ w ⟨rfl, hf⟩ a hs; replace hm := hm.pu hf; clear hf)) | (with_reducible first | apply lNilThen | apply lNilBlock | apply lNil | apply wp_seq | apply wp_region_lit | apply wp_block | apply cExit | apply cRet | apply cSkip | apply gThen | apply gBlock | apply eThen | apply eBlockHit | refine eBlock rfl ?_ | apply rThen | apply rBlock) | ((with_reducible apply cCond); first | refine cTrue hs rfl bd_ ?_ | refine cFalse hs rfl bd_ ?_))
      exact gRetN tab hs rfl (.cons (.tmp rfl) (.cons (.tmp rfl) .nil)) ⟨rfl, hm.fr⟩
    | some q =>
      obtain ⟨r2, p2⟩ := q
      rw [hq2] at h2
      unfold rsvV at h1 h2
      refine enterR Try.func31 rfl rfl rfl fun a hs hm => ?_
      repeat (first | ((with_reducible refine toL hm ?_); (first | refine oneV hs gw_ rfl rfl (by intro w hm; (first | exact kvR_ | exact r_b2s hs rfl rfl tab rfl rfl rfl rfl rfl rfl (by first | exact Fr.rd' hm.fr (by assumption) | exact Mm.rd_row hm mem_ (by assumption)) (by assumption))) ?_ | refine oneN hs rfl rfl rfl rfl rfl rfl rfl ?_ | refine oneU hs rfl rfl rfl rfl rfl rfl ?_); clear hs a; intro a hs) | ((with_reducible apply lCons); first | (refine dv hs gw_ rfl rfl da_ ?_; clear hs hm a; rintro _ w ⟨g, rfl, -, hm⟩ a hs) | (refine stn hs rfl rfl ds_ ?_; clear hs hm a; rintro - w hm a hs) | (refine dv hs gw_ rfl rfl (d_call hs rfl rfl rfl (pl 19 rfl) (h1 _ hm.fr)) ?_; clear hs a; rintro _ w ⟨rfl, hf⟩ a hs; replace hm := hm.pu hf; clear hf) | (refine dv hs gw_ rfl rfl (d_call hs rfl rfl rfl (pl 19 rfl) (h2 _ hm.fr)) ?_; clear hs a; rintro _ w ⟨rfl, hf⟩ a hs; replace hm := hm.pu hf; clear hf)) | (with_reducible first | apply lNilThen | apply lNilBlock | apply lNil | apply wp_seq | apply wp_region_lit | apply wp_block | apply cExit | apply cRet | apply cSkip | apply gThen | apply gBlock | apply eThen | apply eBlockHit | refine eBlock rfl ?_ | apply rThen | apply rBlock) | ((with_reducible apply cCond); first | refine cTrue hs rfl bd_ ?_ | refine cFalse hs rfl bd_ ?_))
      exact gRetN tab hs rfl (.cons (.tmp rfl) (.cons (.tmp rfl) .nil)) ⟨rfl, hm.fr⟩
  | some p =>
    obtain ⟨r1, p1⟩ := p
    obtain ⟨f1, f2, f3, f4⟩ := o1 r1 p1 hq1
    rw [hq1] at h1
    cases hq2 : resF x.bs x.ss u x.n with
    | none =>
      rw [hq2] at h2
      unfold rsvV at h1 h2
      refine enterR Try.func31 rfl rfl rfl fun a hs hm => ?_
      repeat (first | ((with_reducible refine toL hm ?_); (first | refine oneV hs gw_ rfl rfl (by intro w hm; (first | exact kvR_ | exact r_b2s hs rfl rfl tab rfl rfl rfl rfl rfl rfl (by first | exact Fr.rd' hm.fr (by assumption) | exact Mm.rd_row hm mem_ (by assumption)) (by assumption))) ?_ | refine oneN hs rfl rfl rfl rfl rfl rfl rfl ?_ | refine oneU hs rfl rfl rfl rfl rfl rfl ?_); clear hs a; intro a hs) | ((with_reducible apply lCons); first | (refine dv hs gw_ rfl rfl da_ ?_; clear hs hm a; rintro _ w ⟨g, rfl, -, hm⟩ a hs) | (refine stn hs rfl rfl ds_ ?_; clear hs hm a; rintro - w hm a hs) | (refine dv hs gw_ rfl rfl (d_call hs rfl rfl rfl (pl 19 rfl) (h1 _ hm.fr)) ?_; clear hs a; rintro _ w ⟨rfl, hf⟩ a hs; replace hm := hm.pu hf; clear hf) | (refine dv hs gw_ rfl rfl (d_call hs rfl rfl rfl (pl 19 rfl) (h2 _ hm.fr)) ?_; clear hs a; rintro _ w ⟨rfl, hf⟩ a hs; replace hm := hm.pu hf; clear hf)) | (with_reducible first | apply lNilThen | apply lNilBlock | apply lNil | apply wp_seq | apply wp_region_lit | apply wp_block | apply cExit | apply cRet | apply cSkip | apply gThen | apply gBlock | apply eThen | apply eBlockHit | refine eBlock rfl ?_ | apply rThen | apply rBlock) | ((with_reducible apply cCond); first | refine cTrue hs rfl bd_ ?_ | refine cFalse hs rfl bd_ ?_))
      exact gRetN tab hs rfl (.cons (.tmp rfl) (.cons (.tmp rfl) .nil)) ⟨rfl, hm.fr⟩
    | some q =>
      obtain ⟨r2, p2⟩ := q
      obtain ⟨i1, i2, i3, i4⟩ := o2 r2 p2 hq2
      rw [hq2] at h2
      unfold rsvV at h1 h2
      dsimp only
      by_cases hr : r1 = r2
      · rw [if_pos hr]
        refine enterR Try.func31 rfl rfl rfl fun a hs hm => ?_
        repeat (first | ((with_reducible refine toL hm ?_); (first | refine oneV hs gw_ rfl rfl (by intro w hm; (first | exact kvR_ | exact r_b2s hs rfl rfl tab rfl rfl rfl rfl rfl rfl (by first | exact Fr.rd' hm.fr (by assumption) | exact Mm.rd_row hm mem_ (by assumption)) (by assumption))) ?_ | refine oneN hs rfl rfl rfl rfl rfl rfl rfl ?_ | refine oneU hs rfl rfl rfl rfl rfl rfl ?_); clear hs a; intro a hs) | ((with_reducible apply lCons); first | (refine dv hs gw_ rfl rfl da_ ?_; clear hs hm a; rintro _ w ⟨g, rfl, -, hm⟩ a hs) | (refine stn hs rfl rfl ds_ ?_; clear hs hm a; rintro - w hm a hs) | (refine dv hs gw_ rfl rfl (d_call hs rfl rfl rfl (pl 19 rfl) (h1 _ hm.fr)) ?_; clear hs a; rintro _ w ⟨rfl, hf⟩ a hs; replace hm := hm.pu hf; clear hf) | (refine dv hs gw_ rfl rfl (d_call hs rfl rfl rfl (pl 19 rfl) (h2 _ hm.fr)) ?_; clear hs a; rintro _ w ⟨rfl, hf⟩ a hs; replace hm := hm.pu hf; clear hf)) | (with_reducible first | apply lNilThen | apply lNilBlock | apply lNil | apply wp_seq | apply wp_region_lit | apply wp_block | apply cExit | apply cRet | apply cSkip | apply gThen | apply gBlock | apply eThen | apply eBlockHit | refine eBlock rfl ?_ | apply rThen | apply rBlock) | ((with_reducible apply cCond); first | refine cTrue hs rfl bd_ ?_ | refine cFalse hs rfl bd_ ?_))
        exact gRetN tab hs rfl (.cons (.tmp rfl) (.cons (.tmp rfl) .nil)) ⟨rfl, hm.fr⟩
      · rw [if_neg hr]
        refine enterR Try.func31 rfl rfl rfl fun a hs hm => ?_
        repeat (first | ((with_reducible refine toL hm ?_); (first | refine oneV hs gw_ rfl rfl (by intro w hm; (first | exact kvR_ | exact r_b2s hs rfl rfl tab rfl rfl rfl rfl rfl rfl (by first | exact Fr.rd' hm.fr (by assumption) | exact Mm.rd_row hm mem_ (by assumption)) (by assumption))) ?_ | refine oneN hs rfl rfl rfl rfl rfl rfl rfl ?_ | refine oneU hs rfl rfl rfl rfl rfl rfl ?_); clear hs a; intro a hs) | ((with_reducible apply lCons); first | (refine dv hs gw_ rfl rfl da_ ?_; clear hs hm a; rintro _ w ⟨g, rfl, -, hm⟩ a hs) | (refine stn hs rfl rfl ds_ ?_; clear hs hm a; rintro - w hm a hs) | (refine dv hs gw_ rfl rfl (d_call hs rfl rfl rfl (pl 19 rfl) (h1 _ hm.fr)) ?_; clear hs a; rintro _ w ⟨rfl, hf⟩ a hs; replace hm := hm.pu hf; clear hf) | (refine dv hs gw_ rfl rfl (d_call hs rfl rfl rfl (pl 19 rfl) (h2 _ hm.fr)) ?_; clear hs a; rintro _ w ⟨rfl, hf⟩ a hs; replace hm := hm.pu hf; clear hf)) | (with_reducible first | apply lNilThen | apply lNilBlock | apply lNil | apply wp_seq | apply wp_region_lit | apply wp_block | apply cExit | apply cRet | apply cSkip | apply gThen | apply gBlock | apply eThen | apply eBlockHit | refine eBlock rfl ?_ | apply rThen | apply rBlock) | ((with_reducible apply cCond); first | refine cTrue hs rfl bd_ ?_ | refine cFalse hs rfl bd_ ?_))
        exact gRetN tab hs rfl (.cons (.tmp rfl) (.cons (.tmp rfl) .nil)) ⟨rfl, hm.fr⟩
end Go.Proofs.Ytfcimpfhfbkgbab
