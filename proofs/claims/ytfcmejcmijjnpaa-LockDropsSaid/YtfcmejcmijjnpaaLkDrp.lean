/- LockDrops: the walk. -/
import Derived.Test.YtfcmejcmijjnpaaLkApart
import Derived.Test.YtfcmejcmijjnpaaLk21
import Derived.Test.YtfcmejcmijjnpaaLk23
namespace Go.Proofs.Ytfcmejcmijjnpaa
open Go.RowKit


def hdT (q : List Int) (t : Int) (j : Nat) : Int := (((q.take j).filter (· ≠ t)).head?).getD (-1)
theorem hdT_succ {q : List Int} {t : Int} {j : Nat} (h0 : ∀ u ∈ q, 0 ≤ u) (hj : j < q.length) : hdT q t (j + 1) = if q[j] ≠ t ∧ hdT q t j = -1 then q[j] else hdT q t j := by
  unfold hdT
  rw [List.take_succ_eq_append_getElem hj, List.filter_append]
  cases hf : (q.take j).filter (· ≠ t) with
  | nil =>
    by_cases c : q[j] = t
    · rw [if_neg (fun e => e.1 c)]; simp [c]
    · rw [if_pos ⟨c, rfl⟩]; simp [c]
  | cons u l =>
    have hu : u ∈ q := List.mem_of_mem_take (List.mem_filter.1 (by rw [hf]; exact List.mem_cons_self ..)).1
    have := h0 u hu
    rw [if_neg (fun e => by have := e.2; simp at this; omega)]
    simp
theorem wantN_len (t : Int) (a : Ab) (i : Nat) : (wantN t a i).length ≤ i := by
  induction i with
  | zero => exact Nat.le_refl _
  | succ i ih =>
    rw [wantN_succ]
    split
    · rw [List.length_append, List.length_singleton]; omega
    · omega

set_option maxHeartbeats 8000000 in
theorem drops_c (A : Option Addr) (n c : Nat) (xs : List Int) (tt : Int) (w0 : World) (hI : IsInts .i64 w0 A n c xs) :
    Ret Try.prog 6 [.slice A n c, .int .i64 tt] w0 (fun v w' => v = .bool true ∧ Pu w0 w') := by
  obtain ⟨hl, hnc, hc63, hrx, hwx⟩ := hI
  have hn63 : n ≤ 9223372036854775807 := by omega
  obtain ⟨t, ht, ht4⟩ : ∃ t : Int, modF tt 4 = t ∧ 0 ≤ t ∧ t < 4 := ⟨_, rfl, modF_bd tt (m := 4) (by omega)⟩
  have m2 := fun w => mod_c tt 4 w (by omega) (by omega)
  rw [ht] at m2
  refine enterR Try.func6 rfl rfl rfl fun a hs hm => ?_
  repeat (first | ((with_reducible refine toL hm ?_); (first | refine oneV hs gw_ rfl rfl (by intro w hm; exact kvR_) ?_ | refine oneN hs rfl rfl rfl rfl rfl rfl rfl ?_ | refine oneU hs rfl rfl rfl rfl rfl rfl ?_); clear hs a; intro a hs) | ((with_reducible apply lCons); first | (refine dv hs gw_ rfl rfl da_ ?_; clear hs hm a; rintro _ w ⟨g, rfl, -, hm⟩ a hs) | (refine stn hs rfl rfl ds_ ?_; clear hs hm a; rintro - w hm a hs) ) | (with_reducible first | apply lNilThen | apply lNilBlock | apply lNil | apply wp_seq | apply wp_region_lit | apply wp_block | apply cExit | apply cRet | apply cSkip | apply gThen | apply gBlock | apply eThen | apply eBlockHit | refine eBlock rfl ?_ | apply rThen | apply rBlock) | ((with_reducible apply cCond); first | refine cTrue hs rfl bd_ ?_ | refine cFalse hs rfl bd_ ?_))
  have hrA := hm.fr.rd' hrx
  refine st hs rfl rfl rfl (d_call hs rfl rfl rfl (pl 7 rfl) ((mk_c A n c _))) ?_; clear hs a; rintro _ w1 ⟨gd, rfl, hN, hf⟩ a hs
  have hD := Dk.start hl hrA hn63 hN hf
  replace hm := hm.gain hf hN
  clear hN hf hrA
  refine st hs rfl rfl rfl (d_call hs rfl rfl rfl (pl 15 rfl) ((lks_c gd A n c 0 xs _ hD))) ?_; clear hs a; rintro _ w2 ⟨x, rfl, hx, -, hva, a1, k1, hf⟩ a hs
  replace hm := hm.dkt (Rep.head _ _ _) k1 hf
  have hF := hm.fr
  clear hm hf k1 hD
  have hm := Mm.nil (fun _ => False) w2
  unfold KS.v IS.v at hs
  repeat (first | ((with_reducible refine toL hm ?_); (first | refine oneV hs gw_ rfl rfl (by intro w hm; exact kvR_) ?_ | refine oneN hs rfl rfl rfl rfl rfl rfl rfl ?_ | refine oneU hs rfl rfl rfl rfl rfl rfl ?_); clear hs a; intro a hs) | ((with_reducible apply lCons); first | (refine dv hs gw_ rfl rfl da_ ?_; clear hs hm a; rintro _ w ⟨g, rfl, -, hm⟩ a hs) | (refine stn hs rfl rfl ds_ ?_; clear hs hm a; rintro - w hm a hs) | (refine dv hs gw_ rfl rfl (d_call hs rfl rfl rfl (pl 16 rfl) (m2 _)) ?_; clear hs a; rintro _ w ⟨rfl, hf⟩ a hs; replace hm := hm.pu hf; clear hf)) | (with_reducible first | apply lNilThen | apply lNilBlock | apply lNil | apply wp_seq | apply wp_region_lit | apply wp_block | apply cExit | apply cRet | apply cSkip | apply gThen | apply gBlock | apply eThen | apply eBlockHit | refine eBlock rfl ?_ | apply rThen | apply rBlock) | ((with_reducible apply cCond); first | refine cTrue hs rfl bd_ ?_ | refine cFalse hs rfl bd_ ?_))
  refine st hs rfl rfl rfl (d_call hs rfl rfl rfl (pl 18 rfl) ((drp_c x t _ (hx.pu hm.fr) hva))) ?_; clear hs a; rintro _ w3 ⟨y, b, rfl, hy, hb, hbn, hya, hbx, hf⟩ a hs
  replace hm := hm.pu hf
  clear hf
  obtain ⟨g5, en_⟩ := hs.pt 5 (by exact rfl); subst en_
  have q5 := hm.ro (k := 0) (n := 2) (g := g5) mem_ (cutF_ok rfl)
  replace hx := hx.pu hm.fr
  replace hF := hF.pu hm.fr
  clear hm
  rename World => wD
  have hm := Mm.nil (fun _ => False) wD
  unfold KS.v IS.v at hs
  have hvy : VA y.ab := by
    rw [hya]
    exact dropN_va (va_filter hva) 4 (Nat.le_refl _)
  have hD := dn_all (t := t) (a := ⟨x.ab.os, x.ab.qs.map (fun q => q.filter (· ≠ t))⟩) hva.o (by dsimp only; rw [List.length_map]; exact hva.q) 4 (Nat.le_refl _)
  have hye : y.ab = (dropN t ⟨x.ab.os, x.ab.qs.map (fun q => q.filter (· ≠ t))⟩ 4).1 := hya
  have hbe : b.xs = wantN t ⟨x.ab.os, x.ab.qs.map (fun q => q.filter (· ≠ t))⟩ 4 := hbx.trans hD.we
  have hoe := hD.oe
  have hqe := hD.qe
  rw [← hye] at hoe hqe
  clear hD hye hya hbx
  have hsx := KS.sm_of hx hva.sh
  have hsy := KS.sm_of hy hvy.sh
  have cV := fun w (hf : Pu wD w) => val_c y w (hy.pu hf) hvy
  unfold KS.v IS.v at cV
  obtain ⟨xb, xo, xoc, xos, xb2, xo2, xqc, xqs, rfl, hx4, hxq4, xr1, xr2⟩ := KS.open_ hx hva
  obtain ⟨yb, yo, yoc, yos, yb2, yo2, yqc, yqs, rfl, hy4, hyq4, yr1, yr2⟩ := KS.open_ hy hvy
  unfold KS.ab at hoe hqe hbe
  dsimp only at hs cV q5 hoe hqe hbe
  repeat (first | ((with_reducible refine toL hm ?_); (first | refine oneV hs gw_ rfl rfl (by intro w hm; exact kvR_) ?_ | refine oneN hs rfl rfl rfl rfl rfl rfl rfl ?_ | refine oneU hs rfl rfl rfl rfl rfl rfl ?_); clear hs a; intro a hs) | ((with_reducible apply lCons); first | (refine dv hs gw_ rfl rfl da_ ?_; clear hs hm a; rintro _ w ⟨g, rfl, -, hm⟩ a hs) | (refine stn hs rfl rfl ds_ ?_; clear hs hm a; rintro - w hm a hs) | (refine dv hs gw_ rfl rfl (d_call hs rfl rfl rfl (pl 12 rfl) (cV _ hm.fr)) ?_; clear hs a; rintro _ w ⟨rfl, hf⟩ a hs; replace hm := hm.pu hf; clear hf)) | (with_reducible first | apply lNilThen | apply lNilBlock | apply lNil | apply wp_seq | apply wp_region_lit | apply wp_block | apply cExit | apply cRet | apply cSkip | apply gThen | apply gBlock | apply eThen | apply eBlockHit | refine eBlock rfl ?_ | apply rThen | apply rBlock) | ((with_reducible apply cCond); first | refine cTrue hs rfl bd_ ?_ | refine cFalse hs rfl bd_ ?_))
  obtain ⟨g6, en_⟩ := hs.pt 6 (by exact rfl); subst en_
  have q6 := hm.ro (k := 0) (n := 2) (g := g6) mem_ (cutF_ok rfl)
  have p5 := q5.ro hm (fun t => t)
  have px1 := xr1.ro hm (fun t => t)
  have px2 := xr2.ro hm (fun t => t)
  have py1 := yr1.ro hm (fun t => t)
  have py2 := yr2.ro hm (fun t => t)
  replace hx := hx.pu hm.fr
  replace hy := hy.pu hm.fr
  replace hb := hb.keep hm.fr (fun _ _ t => t)
  replace hF := hF.pu hm.fr
  clear hm q5 xr1 xr2 yr1 yr2 cV
  rename World => wG
  have hm := (Mm.nil (fun _ => False) wG).zero 3
  obtain ⟨a1, ha1⟩ : ∃ a1 : Ab, a1 = ⟨xos, (xqs.map IS.xs).map (fun q => q.filter (· ≠ t))⟩ := ⟨_, rfl⟩
  rw [← ha1] at hbe
  refine cLoop (X := Nat × Option Nat × Nat × List Value) (fun X a w' => Sl Try.f6.ntmps [(1, .int .i64 t), (4, .bool false), (5, .pointer (some ⟨g5, 0, none⟩)), (6, .pointer (some ⟨g6, 0, none⟩)), (7, .slice b.A b.n b.c), (8, slv X.2.1 (wantN t a1 X.1).length X.2.2.1), (31, .int .i64 4), (32, .int .i64 (X.1 : Int))] a ∧ Mm (fun _ => False) wG [⟨X.2.1, 3, X.2.2.2⟩] w' ∧ Row X.2.1 (wantN t a1 X.1).length X.2.2.1 1 (ints (wantN t a1 X.1)) X.2.2.2 ∧ X.1 ≤ 4) (fun X => 4 - X.1) (0, none, 0, []) ⟨hs.sub (Has.all ⟨rfl, rfl, rfl, rfl, rfl, rfl, rfl, rfl, trivial⟩), hm, Row.empty 1, Nat.zero_le _⟩ ?_
  clear hs hm a
  rintro ⟨i, wA, wc, wcs⟩ a w' ⟨hs, hm, hrow, hi⟩
  dsimp only at hs hm hrow hi
  by_cases hlt : i < 4
  · have hFi : ((xqs.map IS.xs).map (fun q => q.filter (· ≠ t))).getD i [] = xqs[i].xs.filter (· ≠ t) := by
      rw [List.getD_eq_getElem?_getD, List.getElem?_map, List.getElem?_map, List.getElem?_eq_getElem (by omega)]
      rfl
    have hoi := hoe i hlt
    have hqi := hqe i hlt
    rw [hFi, qs_at (by omega)] at hqi
    unfold hdQ at hoi
    rw [hFi, getI (by omega), getI (by omega)] at hoi
    rw [getI (by omega)] at hqi
    have hnt : ∀ j (hj : j < yqs[i].xs.length), yqs[i].xs[j] ≠ t := fun j hj => by
      have hm9 : yqs[i].xs[j] ∈ xqs[i].xs.filter (· ≠ t) := by
        have h9 := List.getElem_mem hj
        generalize yqs[i].xs[j] = v9 at h9 ⊢
        rw [hqi] at h9
        split at h9
        · exact List.mem_of_mem_tail h9
        · exact h9
      simpa using (List.mem_filter.1 hm9).2
    have ex1 := ints_some (xs := xos) (k := i) (by omega)
    have ey1 := ints_some (xs := yos) (k := i) (by omega)
    have ex2 := qv_at (qs := xqs) (i := i) (by omega)
    have ey2 := qv_at (qs := yqs) (i := i) (by omega)
    have hxq := hx.qs xqs[i] (List.getElem_mem _)
    have hyq := hy.qs yqs[i] (List.getElem_mem _)
    have hyn := hsy.qs yqs[i] (List.getElem_mem _)
    have hxn := hsx.qs xqs[i] (List.getElem_mem _)
    repeat (first | ((with_reducible refine toL hm ?_); (first | refine oneV hs gw_ rfl rfl (by intro w hm; exact kvR_) ?_ | refine oneN hs rfl rfl rfl rfl rfl rfl rfl ?_ | refine oneU hs rfl rfl rfl rfl rfl rfl ?_); clear hs a; intro a hs) | ((with_reducible apply lCons); first | (refine dv hs gw_ rfl rfl da_ ?_; clear hs hm a; rintro _ w ⟨g, rfl, -, hm⟩ a hs) | (refine stn hs rfl rfl ds_ ?_; clear hs hm a; rintro - w hm a hs) ) | (with_reducible first | apply lNilThen | apply lNilBlock | apply lNil | apply wp_seq | apply wp_region_lit | apply wp_block | apply cExit | apply cRet | apply cSkip | apply gThen | apply gBlock | apply eThen | apply eBlockHit | refine eBlock rfl ?_ | apply rThen | apply rBlock) | ((with_reducible apply cCond); first | refine cTrue hs rfl bd_ ?_ | refine cFalse hs rfl bd_ ?_))
    refine cLoop (X := Nat) (fun j a w' => Sl Try.f6.ntmps [(1, .int .i64 t), (4, .bool false), (5, .pointer (some ⟨g5, 0, none⟩)), (6, .pointer (some ⟨g6, 0, none⟩)), (7, .slice b.A b.n b.c), (8, slv wA (wantN t a1 i).length wc), (31, .int .i64 4), (32, .int .i64 (i : Int)), (9, .int .i64 (i : Int)), (39, .slice yqs[i].A yqs[i].n yqs[i].c), (40, .int .i64 (yqs[i].n : Int)), (41, .int .i64 (j : Int))] a ∧ Mm (fun _ => False) wG [⟨wA, 3, wcs⟩] w' ∧ j ≤ yqs[i].n) (fun j => yqs[i].n - j) 0 ⟨hs.sub (Has.all ⟨rfl, rfl, rfl, rfl, rfl, rfl, rfl, rfl, rfl, rfl, rfl, rfl, trivial⟩), hm, Nat.zero_le _⟩ ?_
    clear hs hm a
    rintro j a w' ⟨hs, hm, hj⟩
    have hyl := hyq.1
    by_cases hjl : j < yqs[i].n
    · obtain ⟨b1, o1, hA, hb1, r1⟩ := hyq.2.ro (by rw [ints_len]; omega)
      have e1 := ints_some (xs := yqs[i].xs) (k := j) (by omega)
      have hvt := hnt j (by omega)
      obtain ⟨v, hv⟩ : ∃ v, yqs[i].xs[j] = v := ⟨_, rfl⟩
      rw [hv] at e1 hvt
      rw [hA] at hs
      repeat (first | ((with_reducible refine toL hm ?_); (first | refine oneV hs gw_ rfl rfl (by intro w hm; exact kvR_) ?_ | refine oneN hs rfl rfl rfl rfl rfl rfl rfl ?_ | refine oneU hs rfl rfl rfl rfl rfl rfl ?_); clear hs a; intro a hs) | ((with_reducible apply lCons); first | (refine dv hs gw_ rfl rfl da_ ?_; clear hs hm a; rintro _ w ⟨g, rfl, -, hm⟩ a hs) | (refine stn hs rfl rfl ds_ ?_; clear hs hm a; rintro - w hm a hs) ) | (with_reducible first | apply lNilThen | apply lNilBlock | apply lNil | apply wp_seq | apply wp_region_lit | apply wp_block | apply cExit | apply cRet | apply cSkip | apply gThen | apply gBlock | apply eThen | apply eBlockHit | refine eBlock rfl ?_ | apply rThen | apply rBlock) | ((with_reducible apply cCond); first | refine cTrue hs rfl bd_ ?_ | refine cFalse hs rfl bd_ ?_))
      rw [← hA] at hs
      exact ⟨j + 1, by omega, hs.sub (Has.all ⟨rfl, rfl, rfl, rfl, rfl, rfl, rfl, rfl, rfl, rfl, rfl, rfl, trivial⟩), hm, by omega⟩
    · repeat (first | ((with_reducible refine toL hm ?_); (first | refine oneV hs gw_ rfl rfl (by intro w hm; exact kvR_) ?_ | refine oneN hs rfl rfl rfl rfl rfl rfl rfl ?_ | refine oneU hs rfl rfl rfl rfl rfl rfl ?_); clear hs a; intro a hs) | ((with_reducible apply lCons); first | (refine dv hs gw_ rfl rfl da_ ?_; clear hs hm a; rintro _ w ⟨g, rfl, -, hm⟩ a hs) | (refine stn hs rfl rfl ds_ ?_; clear hs hm a; rintro - w hm a hs) ) | (with_reducible first | apply lNilThen | apply lNilBlock | apply lNil | apply wp_seq | apply wp_region_lit | apply wp_block | apply cExit | apply cRet | apply cSkip | apply gThen | apply gBlock | apply eThen | apply eBlockHit | refine eBlock rfl ?_ | apply rThen | apply rBlock) | ((with_reducible apply cCond); first | refine cTrue hs rfl bd_ ?_ | refine cFalse hs rfl bd_ ?_))
      refine cLoop (X := Nat) (fun j a w' => Sl Try.f6.ntmps [(1, .int .i64 t), (4, .bool false), (5, .pointer (some ⟨g5, 0, none⟩)), (6, .pointer (some ⟨g6, 0, none⟩)), (7, .slice b.A b.n b.c), (8, slv wA (wantN t a1 i).length wc), (31, .int .i64 4), (32, .int .i64 (i : Int)), (9, .int .i64 (i : Int)), (12, .int .i64 (hdT xqs[i].xs t j)), (53, .slice xqs[i].A xqs[i].n xqs[i].c), (54, .int .i64 (xqs[i].n : Int)), (55, .int .i64 (j : Int))] a ∧ Mm (fun _ => False) wG [⟨wA, 3, wcs⟩] w' ∧ j ≤ xqs[i].n) (fun j => xqs[i].n - j) 0 ⟨hs.sub (Has.all ⟨rfl, rfl, rfl, rfl, rfl, rfl, rfl, rfl, rfl, rfl, rfl, rfl, rfl, trivial⟩), hm, Nat.zero_le _⟩ ?_
      clear hs hm a
      rintro j a w' ⟨hs, hm, hj⟩
      have hxl := hxq.1
      obtain ⟨f, hf⟩ : ∃ f, hdT xqs[i].xs t j = f := ⟨_, rfl⟩
      by_cases hjl : j < xqs[i].n
      · obtain ⟨b1, o1, hA, hb1, r1⟩ := hxq.2.ro (by rw [ints_len]; omega)
        have e1 := ints_some (xs := xqs[i].xs) (k := j) (by omega)
        have hst := hdT_succ (q := xqs[i].xs) (t := t) (j := j) (fun u hu => (hva.qb xqs[i].xs (show _ ∈ xqs.map IS.xs from List.mem_map_of_mem (List.getElem_mem _)) u hu).1) (by omega)
        obtain ⟨v, hv⟩ : ∃ v, xqs[i].xs[j] = v := ⟨_, rfl⟩
        rw [hv] at e1 hst
        rw [hf] at hs hst
        rw [hA] at hs
        by_cases c1 : v = t
        · rw [if_neg (fun e => e.1 c1)] at hst
          repeat (first | ((with_reducible refine toL hm ?_); (first | refine oneV hs gw_ rfl rfl (by intro w hm; exact kvR_) ?_ | refine oneN hs rfl rfl rfl rfl rfl rfl rfl ?_ | refine oneU hs rfl rfl rfl rfl rfl rfl ?_); clear hs a; intro a hs) | ((with_reducible apply lCons); first | (refine dv hs gw_ rfl rfl da_ ?_; clear hs hm a; rintro _ w ⟨g, rfl, -, hm⟩ a hs) | (refine stn hs rfl rfl ds_ ?_; clear hs hm a; rintro - w hm a hs) ) | (with_reducible first | apply lNilThen | apply lNilBlock | apply lNil | apply wp_seq | apply wp_region_lit | apply wp_block | apply cExit | apply cRet | apply cSkip | apply gThen | apply gBlock | apply eThen | apply eBlockHit | refine eBlock rfl ?_ | apply rThen | apply rBlock) | ((with_reducible apply cCond); first | refine cTrue hs rfl bd_ ?_ | refine cFalse hs rfl bd_ ?_))
          rw [← hA, ← hst] at hs
          exact ⟨j + 1, by omega, hs.sub (Has.all ⟨rfl, rfl, rfl, rfl, rfl, rfl, rfl, rfl, rfl, rfl, rfl, rfl, rfl, trivial⟩), hm, by omega⟩
        · by_cases c2 : f = -1
          · rw [if_pos ⟨c1, c2⟩] at hst
            repeat (first | ((with_reducible refine toL hm ?_); (first | refine oneV hs gw_ rfl rfl (by intro w hm; exact kvR_) ?_ | refine oneN hs rfl rfl rfl rfl rfl rfl rfl ?_ | refine oneU hs rfl rfl rfl rfl rfl rfl ?_); clear hs a; intro a hs) | ((with_reducible apply lCons); first | (refine dv hs gw_ rfl rfl da_ ?_; clear hs hm a; rintro _ w ⟨g, rfl, -, hm⟩ a hs) | (refine stn hs rfl rfl ds_ ?_; clear hs hm a; rintro - w hm a hs) ) | (with_reducible first | apply lNilThen | apply lNilBlock | apply lNil | apply wp_seq | apply wp_region_lit | apply wp_block | apply cExit | apply cRet | apply cSkip | apply gThen | apply gBlock | apply eThen | apply eBlockHit | refine eBlock rfl ?_ | apply rThen | apply rBlock) | ((with_reducible apply cCond); first | refine cTrue hs rfl bd_ ?_ | refine cFalse hs rfl bd_ ?_))
            rw [← hA, ← hst] at hs
            exact ⟨j + 1, by omega, hs.sub (Has.all ⟨rfl, rfl, rfl, rfl, rfl, rfl, rfl, rfl, rfl, rfl, rfl, rfl, rfl, trivial⟩), hm, by omega⟩
          · rw [if_neg (fun e => c2 e.2)] at hst
            repeat (first | ((with_reducible refine toL hm ?_); (first | refine oneV hs gw_ rfl rfl (by intro w hm; exact kvR_) ?_ | refine oneN hs rfl rfl rfl rfl rfl rfl rfl ?_ | refine oneU hs rfl rfl rfl rfl rfl rfl ?_); clear hs a; intro a hs) | ((with_reducible apply lCons); first | (refine dv hs gw_ rfl rfl da_ ?_; clear hs hm a; rintro _ w ⟨g, rfl, -, hm⟩ a hs) | (refine stn hs rfl rfl ds_ ?_; clear hs hm a; rintro - w hm a hs) ) | (with_reducible first | apply lNilThen | apply lNilBlock | apply lNil | apply wp_seq | apply wp_region_lit | apply wp_block | apply cExit | apply cRet | apply cSkip | apply gThen | apply gBlock | apply eThen | apply eBlockHit | refine eBlock rfl ?_ | apply rThen | apply rBlock) | ((with_reducible apply cCond); first | refine cTrue hs rfl bd_ ?_ | refine cFalse hs rfl bd_ ?_))
            rw [← hA, ← hst] at hs
            exact ⟨j + 1, by omega, hs.sub (Has.all ⟨rfl, rfl, rfl, rfl, rfl, rfl, rfl, rfl, rfl, rfl, rfl, rfl, rfl, trivial⟩), hm, by omega⟩
      · have hfe : (((xqs[i].xs.filter (· ≠ t)).head?).getD (-1)) = f := by
          rw [← hf]
          unfold hdT
          rw [List.take_of_length_le (by omega)]
        rw [hfe] at hoi
        rw [hf] at hs
        have hw : wantN t a1 (i + 1) = if xos[i] = t ∧ f ≠ -1 then wantN t a1 i ++ [f] else wantN t a1 i := by
          rw [wantN_succ, ha1]
          unfold hdQ
          dsimp only
          rw [hFi, getI (by omega), hfe]
        obtain ⟨xv, hxv⟩ : ∃ v, xos[i] = v := ⟨_, rfl⟩
        obtain ⟨yv, hyv⟩ : ∃ v, yos[i] = v := ⟨_, rfl⟩
        rw [hxv] at ex1 hw hoi
        rw [hyv] at ey1 hoi
        by_cases c1 : xv = t
        · rw [if_pos ⟨hlt, c1⟩] at hoi
          by_cases c2 : f = -1
          · rw [if_neg (fun e => e.2 c2)] at hw
            repeat (first | ((with_reducible refine toL hm ?_); (first | refine oneV hs gw_ rfl rfl (by intro w hm; exact kvR_) ?_ | refine oneN hs rfl rfl rfl rfl rfl rfl rfl ?_ | refine oneU hs rfl rfl rfl rfl rfl rfl ?_); clear hs a; intro a hs) | ((with_reducible apply lCons); first | (refine dv hs gw_ rfl rfl da_ ?_; clear hs hm a; rintro _ w ⟨g, rfl, -, hm⟩ a hs) | (refine stn hs rfl rfl ds_ ?_; clear hs hm a; rintro - w hm a hs) ) | (with_reducible first | apply lNilThen | apply lNilBlock | apply lNil | apply wp_seq | apply wp_region_lit | apply wp_block | apply cExit | apply cRet | apply cSkip | apply gThen | apply gBlock | apply eThen | apply eBlockHit | refine eBlock rfl ?_ | apply rThen | apply rBlock) | ((with_reducible apply cCond); first | refine cTrue hs rfl bd_ ?_ | refine cFalse hs rfl bd_ ?_))
            repeat (first | ((with_reducible first | refine toL hm ?_ | refine toQ ?_); (first | refine oneV hs gw_ rfl rfl (by intro w hm; exact kvR_) ?_ | refine oneN hs rfl rfl rfl rfl rfl rfl rfl ?_ | refine oneU hs rfl rfl rfl rfl rfl rfl ?_); clear hs a; intro a hs) | ((with_reducible apply lCons); first | (refine dv hs gw_ rfl rfl da_ ?_; clear hs hm a; rintro _ w ⟨g, rfl, -, hm⟩ a hs) | (refine stn hs rfl rfl ds_ ?_; clear hs hm a; rintro - w hm a hs) ) | ((with_reducible apply qNil); clear hm; intro w hm) | ((with_reducible refine cQuiet hm ?_ ?_ ?_ ?_); rfl; kernel_rfl; kernel_rfl) | (with_reducible first | apply lNilThen | apply lNilBlock | apply lNil | apply wp_seq | apply wp_region_lit | apply wp_block | apply cExit | apply cRet | apply cSkip | apply gThen | apply gBlock | apply eThen | apply eBlockHit | refine eBlock rfl ?_ | apply rThen | apply rBlock) | ((with_reducible apply cCond); first | refine cTrue hs rfl bd_ ?_ | refine cFalse hs rfl bd_ ?_))
            exact ⟨(i + 1, wA, wc, wcs), by dsimp only; omega, by dsimp only; rw [hw]; exact hs.sub (Has.all ⟨rfl, rfl, rfl, rfl, rfl, rfl, rfl, rfl, trivial⟩), hm, by dsimp only; rw [hw]; exact hrow, by dsimp only; omega⟩
          · rw [if_pos ⟨c1, c2⟩] at hw
            have hwl := wantN_len t a1 i
            have hwl2 : (wantN t a1 i ++ [f]).length = (wantN t a1 i).length + 1 := by rw [List.length_append, List.length_singleton]
            repeat (first | ((with_reducible refine toL hm ?_); (first | refine oneV hs gw_ rfl rfl (by intro w hm; exact kvR_) ?_ | refine oneN hs rfl rfl rfl rfl rfl rfl rfl ?_ | refine oneU hs rfl rfl rfl rfl rfl rfl ?_); clear hs a; intro a hs) | ((with_reducible apply lCons); first | (refine dv hs gw_ rfl rfl da_ ?_; clear hs hm a; rintro _ w ⟨g, rfl, -, hm⟩ a hs) | (refine stn hs rfl rfl ds_ ?_; clear hs hm a; rintro - w hm a hs) ) | (with_reducible first | apply lNilThen | apply lNilBlock | apply lNil | apply wp_seq | apply wp_region_lit | apply wp_block | apply cExit | apply cRet | apply cSkip | apply gThen | apply gBlock | apply eThen | apply eBlockHit | refine eBlock rfl ?_ | apply rThen | apply rBlock) | ((with_reducible apply cCond); first | refine cTrue hs rfl bd_ ?_ | refine cFalse hs rfl bd_ ?_))
            repeat (first | ((with_reducible first | refine toL hm ?_ | refine toQ ?_); (first | refine oneV hs gw_ rfl rfl (by intro w hm; exact kvR_) ?_ | refine oneN hs rfl rfl rfl rfl rfl rfl rfl ?_ | refine oneU hs rfl rfl rfl rfl rfl rfl ?_); clear hs a; intro a hs) | ((with_reducible apply lCons); first | (refine dv hs gw_ rfl rfl da_ ?_; clear hs hm a; rintro _ w ⟨g, rfl, -, hm⟩ a hs) | (refine stn hs rfl rfl ds_ ?_; clear hs hm a; rintro - w hm a hs) ) | ((with_reducible apply qNil); clear hm; intro w hm) | ((with_reducible refine cQuiet hm ?_ ?_ ?_ ?_); rfl; kernel_rfl; kernel_rfl) | (with_reducible first | apply lNilThen | apply lNilBlock | apply lNil | apply wp_seq | apply wp_region_lit | apply wp_block | apply cExit | apply cRet | apply cSkip | apply gThen | apply gBlock | apply eThen | apply eBlockHit | refine eBlock rfl ?_ | apply rThen | apply rBlock) | ((with_reducible apply cCond); first | refine cTrue hs rfl bd_ ?_ | refine cFalse hs rfl bd_ ?_))
            refine dv hs (Wnt.none rfl) rfl rfl (d_append (A := wA) (n := (wantN t a1 i).length) (c := wc) (xs := ints (wantN t a1 i)) (news := [.int .i64 f]) hs rfl rfl rfl rfl rfl tab rfl rfl rfl rfl rfl hm mem_ hrow rfl (hm.ro (n := 1) mem_ (cutF_ok rfl)) rfl (by show ((wantN t a1 i).length + 1) * 8 ≤ _; omega) (by omega)) ?_
            clear hs
            rintro _ w6 ⟨A', c', cs', rfl, hr2, hM⟩ a hs
            replace hm := (hM _ rep_).sub (List.sublist_cons_self _ _)
            clear hM
            rw [← hwl2] at hs
            repeat (first | ((with_reducible refine toL hm ?_); (first | refine oneV hs gw_ rfl rfl (by intro w hm; exact kvR_) ?_ | refine oneN hs rfl rfl rfl rfl rfl rfl rfl ?_ | refine oneU hs rfl rfl rfl rfl rfl rfl ?_); clear hs a; intro a hs) | ((with_reducible apply lCons); first | (refine dv hs gw_ rfl rfl da_ ?_; clear hs hm a; rintro _ w ⟨g, rfl, -, hm⟩ a hs) | (refine stn hs rfl rfl ds_ ?_; clear hs hm a; rintro - w hm a hs) ) | (with_reducible first | apply lNilThen | apply lNilBlock | apply lNil | apply wp_seq | apply wp_region_lit | apply wp_block | apply cExit | apply cRet | apply cSkip | apply gThen | apply gBlock | apply eThen | apply eBlockHit | refine eBlock rfl ?_ | apply rThen | apply rBlock) | ((with_reducible apply cCond); first | refine cTrue hs rfl bd_ ?_ | refine cFalse hs rfl bd_ ?_))
            exact ⟨(i + 1, A', c', cs'), by dsimp only; omega, by dsimp only; rw [hw]; exact hs.sub (Has.all ⟨rfl, rfl, rfl, rfl, rfl, rfl, rfl, rfl, trivial⟩), hm, by dsimp only; rw [hw, hwl2, show ints (wantN t a1 i ++ [f]) = ints (wantN t a1 i) ++ [.int .i64 f] by simp [ints]]; exact hr2, by dsimp only; omega⟩
        · rw [if_neg (fun e => c1 e.2)] at hoi
          rw [if_neg (fun e => c1 e.1)] at hw
          repeat (first | ((with_reducible refine toL hm ?_); (first | refine oneV hs gw_ rfl rfl (by intro w hm; exact kvR_) ?_ | refine oneN hs rfl rfl rfl rfl rfl rfl rfl ?_ | refine oneU hs rfl rfl rfl rfl rfl rfl ?_); clear hs a; intro a hs) | ((with_reducible apply lCons); first | (refine dv hs gw_ rfl rfl da_ ?_; clear hs hm a; rintro _ w ⟨g, rfl, -, hm⟩ a hs) | (refine stn hs rfl rfl ds_ ?_; clear hs hm a; rintro - w hm a hs) ) | (with_reducible first | apply lNilThen | apply lNilBlock | apply lNil | apply wp_seq | apply wp_region_lit | apply wp_block | apply cExit | apply cRet | apply cSkip | apply gThen | apply gBlock | apply eThen | apply eBlockHit | refine eBlock rfl ?_ | apply rThen | apply rBlock) | ((with_reducible apply cCond); first | refine cTrue hs rfl bd_ ?_ | refine cFalse hs rfl bd_ ?_))
          repeat (first | ((with_reducible first | refine toL hm ?_ | refine toQ ?_); (first | refine oneV hs gw_ rfl rfl (by intro w hm; exact kvR_) ?_ | refine oneN hs rfl rfl rfl rfl rfl rfl rfl ?_ | refine oneU hs rfl rfl rfl rfl rfl rfl ?_); clear hs a; intro a hs) | ((with_reducible apply lCons); first | (refine dv hs gw_ rfl rfl da_ ?_; clear hs hm a; rintro _ w ⟨g, rfl, -, hm⟩ a hs) | (refine stn hs rfl rfl ds_ ?_; clear hs hm a; rintro - w hm a hs) ) | ((with_reducible apply qNil); clear hm; intro w hm) | ((with_reducible refine cQuiet hm ?_ ?_ ?_ ?_); rfl; kernel_rfl; kernel_rfl) | (with_reducible first | apply lNilThen | apply lNilBlock | apply lNil | apply wp_seq | apply wp_region_lit | apply wp_block | apply cExit | apply cRet | apply cSkip | apply gThen | apply gBlock | apply eThen | apply eBlockHit | refine eBlock rfl ?_ | apply rThen | apply rBlock) | ((with_reducible apply cCond); first | refine cTrue hs rfl bd_ ?_ | refine cFalse hs rfl bd_ ?_))
          exact ⟨(i + 1, wA, wc, wcs), by dsimp only; omega, by dsimp only; rw [hw]; exact hs.sub (Has.all ⟨rfl, rfl, rfl, rfl, rfl, rfl, rfl, rfl, trivial⟩), hm, by dsimp only; rw [hw]; exact hrow, by dsimp only; omega⟩
  · obtain rfl : i = 4 := by omega
    have cS := fun w M (hm : Mm (fun _ => False) wG M w) hM => sam_c b ⟨wA.map fun g => ⟨g, 0, none⟩, (wantN t a1 4).length, wc, wantN t a1 4⟩ w (hb.keep hm.fr (fun _ _ t => t)) (RW.ok_is (r := ⟨wA, wc, wcs, wantN t a1 4⟩) hm hM hrow) (by omega)
    rw [decide_eq_true hbe] at cS
    repeat (first | ((with_reducible refine toL hm ?_); (first | refine oneV hs gw_ rfl rfl (by intro w hm; exact kvR_) ?_ | refine oneN hs rfl rfl rfl rfl rfl rfl rfl ?_ | refine oneU hs rfl rfl rfl rfl rfl rfl ?_); clear hs a; intro a hs) | ((with_reducible apply lCons); first | (refine dv hs gw_ rfl rfl da_ ?_; clear hs hm a; rintro _ w ⟨g, rfl, -, hm⟩ a hs) | (refine stn hs rfl rfl ds_ ?_; clear hs hm a; rintro - w hm a hs) | (refine dv hs gw_ rfl rfl (d_call hs rfl rfl rfl (pl 13 rfl) (cS _ _ hm mem_)) ?_; clear hs a; rintro _ w ⟨rfl, hf⟩ a hs; replace hm := hm.pu hf; clear hf) | (refine dv hs gw_ rfl rfl (d_call hs rfl rfl rfl (pl 14 rfl) (awk_c _)) ?_; clear hs a; rintro _ w ⟨rfl, hf⟩ a hs; replace hm := hm.pu hf; clear hf)) | (with_reducible first | apply lNilThen | apply lNilBlock | apply lNil | apply wp_seq | apply wp_region_lit | apply wp_block | apply cExit | apply cRet | apply cSkip | apply gThen | apply gBlock | apply eThen | apply eBlockHit | refine eBlock rfl ?_ | apply rThen | apply rBlock) | ((with_reducible apply cCond); first | refine cTrue hs rfl bd_ ?_ | refine cFalse hs rfl bd_ ?_))
    exact gRet1 hs rfl rfl ⟨rfl, hF.pu hm.fr⟩
theorem walk_LockDrops (A : Option Addr) (n c : Nat) (xs : List Int) (tt : Int) (w : World) (h : IsInts .i64 w A n c xs) (_h0 : (Lit.int .i64 tt).wf = true) : Calls Try.prog 6 #[.slice A n c, .int .i64 tt] w (fun e w' => e = .returned (.bool true) ∧ Pu w w') :=
  (drops_c A n c xs tt w h).law
end Go.Proofs.Ytfcmejcmijjnpaa
