/- WatchRaw: the walk. -/
import Derived.Test.YtlgimjinaijhlaaWrg
import Derived.Test.YtlgimjinaijhlaaWat5
namespace Go.Proofs.Ytlgimjinaijhlaa
open Go.RowKit

theorem wawk_c (w : World) : Ret Try.prog 7 [] w (fun u w' => u = .bool true ∧ Pu w w') :=
  ⟨Calls.mono (awake_any w) fun _ _ ⟨h, e⟩ => ⟨_, h, rfl, e⟩⟩
theorem newW_len (n k : Int) : (newW n k).2.length ≤ 5 := by
  unfold newW
  split
  · rw [List.length_replicate]; omega
  · simp
theorem Ro.pu_ {w w' : World} {b o : Nat} {vs : List Value} (h : Ro w b o vs) (hf : Pu w w') : Ro w' b o vs := fun j v hj => hf.cl (h j v hj) (fun t => t)

set_option maxHeartbeats 8000000 in
theorem wraw_c (x : Wt) (p q : TS) (n k : Int) (y : HS) (r t : Int) (wB : World) (hx : x.ok wB) (hp : p.ok wB) (hq : q.ok wB) (hy : y.ok wB) (hxn : x.m.n ≤ 140737488351232) (hpn : p.n ≤ 140737488351232) (hqn : q.n ≤ 140737488351232) (hyn : y.n ≤ 140737488351232) (ht : I64 t) :
    Ret Try.prog 3 [x.v, p.v, q.v, .int .i64 n, .int .i64 k, y.v, .int .i64 r, .int .i64 t] wB (fun u w' => u = .bool true ∧ Pu wB w') := by
  have haw := fun w => wawk_c w
  by_cases hbig : 200 < (x.m.n : Int) + p.n + q.n + y.n
  · unfold Wt.v TS.v HS.v IS.v
    refine enterR Try.func3 rfl rfl rfl fun a hs hm => ?_
    repeat (first | ((with_reducible refine toL hm ?_); (first | refine oneV hs gw_ rfl rfl (by intro w hm; exact kvR_) ?_ | refine oneN hs rfl rfl rfl rfl rfl rfl rfl ?_ | refine oneU hs rfl rfl rfl rfl rfl rfl ?_); clear hs a; intro a hs) | ((with_reducible apply lCons); first | (refine dv hs gw_ rfl rfl da_ ?_; clear hs hm a; rintro _ w ⟨g, rfl, -, hm⟩ a hs) | (refine stn hs rfl rfl ds_ ?_; clear hs hm a; rintro - w hm a hs) | (refine dv hs gw_ rfl rfl (d_call hs rfl rfl rfl (pl 7 rfl) (haw _)) ?_; clear hs a; rintro _ w ⟨rfl, hf⟩ a hs; replace hm := hm.pu hf; clear hf)) | (with_reducible first | apply lNilThen | apply lNilBlock | apply lNil | apply wp_seq | apply wp_region_lit | apply wp_block | apply cExit | apply cRet | apply cSkip | apply gThen | apply gBlock | apply eThen | apply eBlockHit | refine eBlock rfl ?_ | apply rThen | apply rBlock) | ((with_reducible apply cCond); first | refine cTrue hs rfl bd_ ?_ | refine cFalse hs rfl bd_ ?_))
    exact gRet1 hs rfl rfl ⟨rfl, hm.fr⟩
  · have hn1 := fun w => wnew_c n k w
    have hn2 := fun w => wrnew_c n k w
    have hs1 := fun w'' (hf : Pu wB w'') => wstp_c x p q w'' (Wt.ok.pu hx hf) (hp.pu hf) (hq.pu hf) (by omega)
    have hs2 := fun w'' (hf : Pu wB w'') => wrstp_c x p q w'' (Wt.ok.pu hx hf) (hp.pu hf) (hq.pu hf) (by omega)
    have hc1 := fun w'' (hf : Pu wB w'') => wchk_c x w'' (Wt.ok.pu hx hf)
    have hc2 := fun w'' (hf : Pu wB w'') => wrchk_c x w'' (Wt.ok.pu hx hf)
    have hl1 := fun w'' (hf : Pu wB w'') => wsil_c y r t w'' (hy.pu hf) (by omega) ht
    have hl2 := fun w'' (hf : Pu wB w'') => wrsil_c y r t w'' (hy.pu hf) (by omega) ht
    have hnl := newW_len n k
    have hsn : (stpW x.most x.m.xs p.xs q.xs).1.length ≤ 1000 ∧ (stpW x.most x.m.xs p.xs q.xs).2.1.length ≤ 1000 := by
      have h1 := hx.1
      have h2 := lostW_le x.most x.m.xs p.xs q.xs x.m.xs.length
      unfold stpW
      split
      · exact ⟨by dsimp only; omega, by simp⟩
      · split
        · exact ⟨by dsimp only; omega, by simp⟩
        · exact ⟨by dsimp only; rw [outW_len]; omega, by dsimp only; omega⟩
    unfold NewWR at hn1 hn2
    unfold StpWR at hs1 hs2
    generalize newW n k = NW at *
    generalize limF n k = le at *
    generalize stpW x.most x.m.xs p.xs q.xs = SW at *
    generalize wchkF x.most x.m.xs = ce at *
    generalize y.l.any (hangs r t) = sb at *
    unfold Wt.v TS.v HS.v IS.v at *
    refine enterR Try.func3 rfl rfl rfl fun a hs hm => ?_
    repeat (first | ((with_reducible refine toL hm ?_); (first | refine oneV hs gw_ rfl rfl (by intro w hm; exact kvR_) ?_ | refine oneN hs rfl rfl rfl rfl rfl rfl rfl ?_ | refine oneU hs rfl rfl rfl rfl rfl rfl ?_); clear hs a; intro a hs) | ((with_reducible apply lCons); first | (refine dv hs gw_ rfl rfl da_ ?_; clear hs hm a; rintro _ w ⟨g, rfl, -, hm⟩ a hs) | (refine stn hs rfl rfl ds_ ?_; clear hs hm a; rintro - w hm a hs) ) | (with_reducible first | apply lNilThen | apply lNilBlock | apply lNil | apply wp_seq | apply wp_region_lit | apply wp_block | apply cExit | apply cRet | apply cSkip | apply gThen | apply gBlock | apply eThen | apply eBlockHit | refine eBlock rfl ?_ | apply rThen | apply rBlock) | ((with_reducible apply cCond); first | refine cTrue hs rfl bd_ ?_ | refine cFalse hs rfl bd_ ?_))
    obtain ⟨g8, en_⟩ := hs.pt 8 (by exact rfl); subst en_
    have r8 := hm.ro (k := 0) (n := 2) (g := g8) mem_ (cutF_ok rfl)
    have hF := hm.fr
    clear hm
    rename World => w0
    have hm := Mm.nil (fun _ => False) w0
    refine st hs rfl rfl rfl (d_call hs rfl rfl rfl (pl 8 rfl) ((hn1 _))) ?_; clear hs a; rintro _ w1 ⟨u1, rfl, hu1, ha1, hf⟩ a hs
    replace hm := hm.pu hf
    replace hF := hF.pu hm.fr
    replace r8 := r8.pu_ hm.fr
    clear hf hm
    have hm := Mm.nil (fun _ => False) w1
    repeat (first | ((with_reducible refine toL hm ?_); (first | refine oneV hs gw_ rfl rfl (by intro w hm; exact kvR_) ?_ | refine oneN hs rfl rfl rfl rfl rfl rfl rfl ?_ | refine oneU hs rfl rfl rfl rfl rfl rfl ?_); clear hs a; intro a hs) | ((with_reducible apply lCons); first | (refine dv hs gw_ rfl rfl da_ ?_; clear hs hm a; rintro _ w ⟨g, rfl, -, hm⟩ a hs) | (refine stn hs rfl rfl ds_ ?_; clear hs hm a; rintro - w hm a hs) ) | (with_reducible first | apply lNilThen | apply lNilBlock | apply lNil | apply wp_seq | apply wp_region_lit | apply wp_block | apply cExit | apply cRet | apply cSkip | apply gThen | apply gBlock | apply eThen | apply eBlockHit | refine eBlock rfl ?_ | apply rThen | apply rBlock) | ((with_reducible apply cCond); first | refine cTrue hs rfl bd_ ?_ | refine cFalse hs rfl bd_ ?_))
    refine st hs rfl rfl rfl (d_call hs rfl rfl rfl (pl 9 rfl) ((hn2 _))) ?_; clear hs a; rintro _ w2 ⟨u2, rfl, hu2, ha2, hf⟩ a hs
    replace hm := hm.pu hf
    obtain ⟨g17, en_⟩ := hs.pt 17 (by exact rfl); subst en_
    have r17 := hm.ro (k := 0) (n := 2) (g := g17) mem_ (cutF_ok rfl)
    replace hF := hF.pu hm.fr
    replace r8 := r8.pu_ hm.fr
    replace hu1 := hu1.pu hm.fr
    clear hf hm
    have hm := Mm.nil (fun _ => False) w2
    repeat (first | ((with_reducible refine toL hm ?_); (first | refine oneV hs gw_ rfl rfl (by intro w hm; exact kvR_) ?_ | refine oneN hs rfl rfl rfl rfl rfl rfl rfl ?_ | refine oneU hs rfl rfl rfl rfl rfl rfl ?_); clear hs a; intro a hs) | ((with_reducible apply lCons); first | (refine dv hs gw_ rfl rfl da_ ?_; clear hs hm a; rintro _ w ⟨g, rfl, -, hm⟩ a hs) | (refine stn hs rfl rfl ds_ ?_; clear hs hm a; rintro - w hm a hs) ) | (with_reducible first | apply lNilThen | apply lNilBlock | apply lNil | apply wp_seq | apply wp_region_lit | apply wp_block | apply cExit | apply cRet | apply cSkip | apply gThen | apply gBlock | apply eThen | apply eBlockHit | refine eBlock rfl ?_ | apply rThen | apply rBlock) | ((with_reducible apply cCond); first | refine cTrue hs rfl bd_ ?_ | refine cFalse hs rfl bd_ ?_))
    refine st hs rfl rfl rfl (d_call hs rfl rfl rfl (pl 10 rfl) ((hs1 _ (hF.pu hm.fr)))) ?_; clear hs a; rintro _ w3 ⟨x1, l1, rfl, hx1, ho1, hb1, hd1, hf⟩ a hs
    replace hm := hm.pu hf
    obtain ⟨g19, en_⟩ := hs.pt 19 (by exact rfl); subst en_
    have r19 := hm.ro (k := 0) (n := 2) (g := g19) mem_ (cutF_ok rfl)
    replace hF := hF.pu hm.fr
    replace r8 := r8.pu_ hm.fr
    replace r17 := r17.pu_ hm.fr
    replace hu1 := hu1.pu hm.fr
    replace hu2 := hu2.pu hm.fr
    clear hf hm
    have hm := Mm.nil (fun _ => False) w3
    repeat (first | ((with_reducible refine toL hm ?_); (first | refine oneV hs gw_ rfl rfl (by intro w hm; exact kvR_) ?_ | refine oneN hs rfl rfl rfl rfl rfl rfl rfl ?_ | refine oneU hs rfl rfl rfl rfl rfl rfl ?_); clear hs a; intro a hs) | ((with_reducible apply lCons); first | (refine dv hs gw_ rfl rfl da_ ?_; clear hs hm a; rintro _ w ⟨g, rfl, -, hm⟩ a hs) | (refine stn hs rfl rfl ds_ ?_; clear hs hm a; rintro - w hm a hs) ) | (with_reducible first | apply lNilThen | apply lNilBlock | apply lNil | apply wp_seq | apply wp_region_lit | apply wp_block | apply cExit | apply cRet | apply cSkip | apply gThen | apply gBlock | apply eThen | apply eBlockHit | refine eBlock rfl ?_ | apply rThen | apply rBlock) | ((with_reducible apply cCond); first | refine cTrue hs rfl bd_ ?_ | refine cFalse hs rfl bd_ ?_))
    refine st hs rfl rfl rfl (d_call hs rfl rfl rfl (pl 11 rfl) ((hs2 _ (hF.pu hm.fr)))) ?_; clear hs a; rintro _ w4 ⟨x2, l2, rfl, hx2, ho2, hb2, hd2, hf⟩ a hs
    replace hm := hm.pu hf
    obtain ⟨g21, en_⟩ := hs.pt 21 (by exact rfl); subst en_
    have r21 := hm.ro (k := 0) (n := 2) (g := g21) mem_ (cutF_ok rfl)
    replace hF := hF.pu hm.fr
    replace r8 := r8.pu_ hm.fr
    replace r17 := r17.pu_ hm.fr
    replace r19 := r19.pu_ hm.fr
    replace hu1 := hu1.pu hm.fr
    replace hu2 := hu2.pu hm.fr
    replace hx1 := hx1.pu hm.fr
    replace ho1 := ho1.pu hm.fr
    clear hf hm
    have hm := Mm.nil (fun _ => False) w4
    have z1 := fun w'' (hf : Pu w4 w'') => weq_c u1 u2 w'' (Wt.ok.pu hu1 hf) (Wt.ok.pu hu2 hf) (by have := hu1.1; have := congrArg (fun z => z.2.length) ha1; unfold Wt.ab at this; dsimp only at this; omega) (by have := hu2.1; have := congrArg (fun z => z.2.length) ha2; unfold Wt.ab at this; dsimp only at this; omega)
    have z2 := fun w'' (hf : Pu w4 w'') => weq_c x1 x2 w'' (Wt.ok.pu hx1 hf) (Wt.ok.pu hx2 hf) (by have := hx1.1; have := congrArg (fun z => z.2.length) hb1; unfold Wt.ab at this; dsimp only at this; omega) (by have := hx2.1; have := congrArg (fun z => z.2.length) hb2; unfold Wt.ab at this; dsimp only at this; omega)
    have z3 := fun w'' (hf : Pu w4 w'') => wsam_c l1 l2 w'' (IS.ok.pu ho1 hf) (IS.ok.pu ho2 hf) (by have := ho1.1; rw [hd1] at this; omega) (by have := ho2.1; rw [hd2] at this; omega)
    rw [ha1, ha2, decide_eq_true rfl] at z1
    rw [hb1, hb2, decide_eq_true rfl] at z2
    rw [hd1, hd2, decide_eq_true rfl] at z3
    have c1 := fun w'' (hf : Pu w4 w'') => hc1 w'' (hF.pu hf)
    have c2 := fun w'' (hf : Pu w4 w'') => hc2 w'' (hF.pu hf)
    have c3 := fun w'' (hf : Pu w4 w'') => hl1 w'' (hF.pu hf)
    have c4 := fun w'' (hf : Pu w4 w'') => hl2 w'' (hF.pu hf)
    clear hc1 hc2 hl1 hl2 hs1 hs2 hn1 hn2
    unfold Wt.v IS.v at *
    cases sb
    · repeat (first | ((with_reducible first | refine toL hm ?_ | refine toQ ?_); (first | refine oneV hs gw_ rfl rfl (by intro w hm; exact kvR_) ?_ | refine oneN hs rfl rfl rfl rfl rfl rfl rfl ?_ | refine oneU hs rfl rfl rfl rfl rfl rfl ?_); clear hs a; intro a hs) | ((with_reducible apply lCons); first | (refine dv hs gw_ rfl rfl da_ ?_; clear hs hm a; rintro _ w ⟨g, rfl, -, hm⟩ a hs) | (refine stn hs rfl rfl ds_ ?_; clear hs hm a; rintro - w hm a hs) | (refine dv hs gw_ rfl rfl (d_call hs rfl rfl rfl (pl 12 rfl) (z1 _ hm.fr)) ?_; clear hs a; rintro _ w ⟨rfl, hf⟩ a hs; replace hm := hm.pu hf; clear hf) | (refine dv hs gw_ rfl rfl (d_call hs rfl rfl rfl (pl 12 rfl) (z2 _ hm.fr)) ?_; clear hs a; rintro _ w ⟨rfl, hf⟩ a hs; replace hm := hm.pu hf; clear hf) | (refine dv hs gw_ rfl rfl (d_call hs rfl rfl rfl (pl 13 rfl) (z3 _ hm.fr)) ?_; clear hs a; rintro _ w ⟨rfl, hf⟩ a hs; replace hm := hm.pu hf; clear hf) | (refine dv hs gw_ rfl rfl (d_call hs rfl rfl rfl (pl 14 rfl) (c1 _ hm.fr)) ?_; clear hs a; rintro _ w ⟨rfl, hf⟩ a hs; replace hm := hm.pu hf; clear hf) | (refine dv hs gw_ rfl rfl (d_call hs rfl rfl rfl (pl 15 rfl) (c2 _ hm.fr)) ?_; clear hs a; rintro _ w ⟨rfl, hf⟩ a hs; replace hm := hm.pu hf; clear hf) | (refine dv hs gw_ rfl rfl (d_call hs rfl rfl rfl (pl 16 rfl) (c3 _ hm.fr)) ?_; clear hs a; rintro _ w ⟨rfl, hf⟩ a hs; replace hm := hm.pu hf; clear hf) | (refine dv hs gw_ rfl rfl (d_call hs rfl rfl rfl (pl 17 rfl) (c4 _ hm.fr)) ?_; clear hs a; rintro _ w ⟨rfl, hf⟩ a hs; replace hm := hm.pu hf; clear hf) | (refine dv hs gw_ rfl rfl (d_call hs rfl rfl rfl (pl 7 rfl) (haw _)) ?_; clear hs a; rintro _ w ⟨rfl, hf⟩ a hs; replace hm := hm.pu hf; clear hf)) | ((with_reducible apply qCons); first | (refine qwcall hs gw_ rfl rfl rfl rfl rfl (pl 12 rfl) (by intro w hm; exact Ret.mono (z1 _ hm.fr) (fun _ _ ⟨h1, h2⟩ => ⟨h1, hm.pu h2⟩)) ?_; clear hs a; intro a hs) | (refine qwcall hs gw_ rfl rfl rfl rfl rfl (pl 12 rfl) (by intro w hm; exact Ret.mono (z2 _ hm.fr) (fun _ _ ⟨h1, h2⟩ => ⟨h1, hm.pu h2⟩)) ?_; clear hs a; intro a hs) | (refine qwcall hs gw_ rfl rfl rfl rfl rfl (pl 13 rfl) (by intro w hm; exact Ret.mono (z3 _ hm.fr) (fun _ _ ⟨h1, h2⟩ => ⟨h1, hm.pu h2⟩)) ?_; clear hs a; intro a hs) | (refine qwcall hs gw_ rfl rfl rfl rfl rfl (pl 14 rfl) (by intro w hm; exact Ret.mono (c1 _ hm.fr) (fun _ _ ⟨h1, h2⟩ => ⟨h1, hm.pu h2⟩)) ?_; clear hs a; intro a hs) | (refine qwcall hs gw_ rfl rfl rfl rfl rfl (pl 15 rfl) (by intro w hm; exact Ret.mono (c2 _ hm.fr) (fun _ _ ⟨h1, h2⟩ => ⟨h1, hm.pu h2⟩)) ?_; clear hs a; intro a hs) | (refine qwcall hs gw_ rfl rfl rfl rfl rfl (pl 16 rfl) (by intro w hm; exact Ret.mono (c3 _ hm.fr) (fun _ _ ⟨h1, h2⟩ => ⟨h1, hm.pu h2⟩)) ?_; clear hs a; intro a hs) | (refine qwcall hs gw_ rfl rfl rfl rfl rfl (pl 17 rfl) (by intro w hm; exact Ret.mono (c4 _ hm.fr) (fun _ _ ⟨h1, h2⟩ => ⟨h1, hm.pu h2⟩)) ?_; clear hs a; intro a hs) | (refine qwcall hs gw_ rfl rfl rfl rfl rfl (pl 7 rfl) (by intro w hm; exact Ret.mono (haw _) (fun _ _ ⟨h1, h2⟩ => ⟨h1, hm.pu h2⟩)) ?_; clear hs a; intro a hs)) | ((with_reducible apply qNil); clear hm; intro w hm) | ((with_reducible refine cQuiet hm ?_ ?_ ?_ ?_); rfl; kernel_rfl; kernel_rfl) | (with_reducible first | apply lNilThen | apply lNilBlock | apply lNil | apply wp_seq | apply wp_region_lit | apply wp_block | apply cExit | apply cRet | apply cSkip | apply gThen | apply gBlock | apply eThen | apply eBlockHit | refine eBlock rfl ?_ | apply rThen | apply rBlock) | ((with_reducible apply cCond); first | refine cTrue hs rfl bd_ ?_ | refine cFalse hs rfl bd_ ?_))
      exact gRet1 hs rfl rfl ⟨rfl, hF.pu hm.fr⟩
    · repeat (first | ((with_reducible first | refine toL hm ?_ | refine toQ ?_); (first | refine oneV hs gw_ rfl rfl (by intro w hm; exact kvR_) ?_ | refine oneN hs rfl rfl rfl rfl rfl rfl rfl ?_ | refine oneU hs rfl rfl rfl rfl rfl rfl ?_); clear hs a; intro a hs) | ((with_reducible apply lCons); first | (refine dv hs gw_ rfl rfl da_ ?_; clear hs hm a; rintro _ w ⟨g, rfl, -, hm⟩ a hs) | (refine stn hs rfl rfl ds_ ?_; clear hs hm a; rintro - w hm a hs) | (refine dv hs gw_ rfl rfl (d_call hs rfl rfl rfl (pl 12 rfl) (z1 _ hm.fr)) ?_; clear hs a; rintro _ w ⟨rfl, hf⟩ a hs; replace hm := hm.pu hf; clear hf) | (refine dv hs gw_ rfl rfl (d_call hs rfl rfl rfl (pl 12 rfl) (z2 _ hm.fr)) ?_; clear hs a; rintro _ w ⟨rfl, hf⟩ a hs; replace hm := hm.pu hf; clear hf) | (refine dv hs gw_ rfl rfl (d_call hs rfl rfl rfl (pl 13 rfl) (z3 _ hm.fr)) ?_; clear hs a; rintro _ w ⟨rfl, hf⟩ a hs; replace hm := hm.pu hf; clear hf) | (refine dv hs gw_ rfl rfl (d_call hs rfl rfl rfl (pl 14 rfl) (c1 _ hm.fr)) ?_; clear hs a; rintro _ w ⟨rfl, hf⟩ a hs; replace hm := hm.pu hf; clear hf) | (refine dv hs gw_ rfl rfl (d_call hs rfl rfl rfl (pl 15 rfl) (c2 _ hm.fr)) ?_; clear hs a; rintro _ w ⟨rfl, hf⟩ a hs; replace hm := hm.pu hf; clear hf) | (refine dv hs gw_ rfl rfl (d_call hs rfl rfl rfl (pl 16 rfl) (c3 _ hm.fr)) ?_; clear hs a; rintro _ w ⟨rfl, hf⟩ a hs; replace hm := hm.pu hf; clear hf) | (refine dv hs gw_ rfl rfl (d_call hs rfl rfl rfl (pl 17 rfl) (c4 _ hm.fr)) ?_; clear hs a; rintro _ w ⟨rfl, hf⟩ a hs; replace hm := hm.pu hf; clear hf) | (refine dv hs gw_ rfl rfl (d_call hs rfl rfl rfl (pl 7 rfl) (haw _)) ?_; clear hs a; rintro _ w ⟨rfl, hf⟩ a hs; replace hm := hm.pu hf; clear hf)) | ((with_reducible apply qCons); first | (refine qwcall hs gw_ rfl rfl rfl rfl rfl (pl 12 rfl) (by intro w hm; exact Ret.mono (z1 _ hm.fr) (fun _ _ ⟨h1, h2⟩ => ⟨h1, hm.pu h2⟩)) ?_; clear hs a; intro a hs) | (refine qwcall hs gw_ rfl rfl rfl rfl rfl (pl 12 rfl) (by intro w hm; exact Ret.mono (z2 _ hm.fr) (fun _ _ ⟨h1, h2⟩ => ⟨h1, hm.pu h2⟩)) ?_; clear hs a; intro a hs) | (refine qwcall hs gw_ rfl rfl rfl rfl rfl (pl 13 rfl) (by intro w hm; exact Ret.mono (z3 _ hm.fr) (fun _ _ ⟨h1, h2⟩ => ⟨h1, hm.pu h2⟩)) ?_; clear hs a; intro a hs) | (refine qwcall hs gw_ rfl rfl rfl rfl rfl (pl 14 rfl) (by intro w hm; exact Ret.mono (c1 _ hm.fr) (fun _ _ ⟨h1, h2⟩ => ⟨h1, hm.pu h2⟩)) ?_; clear hs a; intro a hs) | (refine qwcall hs gw_ rfl rfl rfl rfl rfl (pl 15 rfl) (by intro w hm; exact Ret.mono (c2 _ hm.fr) (fun _ _ ⟨h1, h2⟩ => ⟨h1, hm.pu h2⟩)) ?_; clear hs a; intro a hs) | (refine qwcall hs gw_ rfl rfl rfl rfl rfl (pl 16 rfl) (by intro w hm; exact Ret.mono (c3 _ hm.fr) (fun _ _ ⟨h1, h2⟩ => ⟨h1, hm.pu h2⟩)) ?_; clear hs a; intro a hs) | (refine qwcall hs gw_ rfl rfl rfl rfl rfl (pl 17 rfl) (by intro w hm; exact Ret.mono (c4 _ hm.fr) (fun _ _ ⟨h1, h2⟩ => ⟨h1, hm.pu h2⟩)) ?_; clear hs a; intro a hs) | (refine qwcall hs gw_ rfl rfl rfl rfl rfl (pl 7 rfl) (by intro w hm; exact Ret.mono (haw _) (fun _ _ ⟨h1, h2⟩ => ⟨h1, hm.pu h2⟩)) ?_; clear hs a; intro a hs)) | ((with_reducible apply qNil); clear hm; intro w hm) | ((with_reducible refine cQuiet hm ?_ ?_ ?_ ?_); rfl; kernel_rfl; kernel_rfl) | (with_reducible first | apply lNilThen | apply lNilBlock | apply lNil | apply wp_seq | apply wp_region_lit | apply wp_block | apply cExit | apply cRet | apply cSkip | apply gThen | apply gBlock | apply eThen | apply eBlockHit | refine eBlock rfl ?_ | apply rThen | apply rBlock) | ((with_reducible apply cCond); first | refine cTrue hs rfl bd_ ?_ | refine cFalse hs rfl bd_ ?_))
      exact gRet1 hs rfl rfl ⟨rfl, hF.pu hm.fr⟩
theorem walk_WatchRaw (x : Wt) (p q : TS) (n k : Int) (y : HS) (r t : Int) (w : World) (hx : x.ok w ∧ x.m.n ≤ 140737488351232) (hp : p.ok w ∧ p.n ≤ 140737488351232) (hq : q.ok w ∧ q.n ≤ 140737488351232) (_ : (Lit.int .i64 n).wf = true) (_ : (Lit.int .i64 k).wf = true) (hy : y.ok w ∧ y.n ≤ 140737488351232) (_ : (Lit.int .i64 r).wf = true) (ht : (Lit.int .i64 t).wf = true) : Calls Try.prog 3 #[x.v, p.v, q.v, .int .i64 n, .int .i64 k, y.v, .int .i64 r, .int .i64 t] w (fun e w' => e = .returned (.bool true) ∧ Pu w w') :=
  (wraw_c x p q n k y r t w hx.1 hp.1 hq.1 hy.1 hx.2 hp.2 hq.2 hy.2 (i64_in ht)).law
end Go.Proofs.Ytlgimjinaijhlaa
