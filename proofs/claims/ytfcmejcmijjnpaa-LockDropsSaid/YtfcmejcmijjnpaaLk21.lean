/- Drop: the program's walk. -/
import Derived.Test.YtfcmejcmijjnpaaLk22
import Derived.Test.YtfcmejcmijjnpaaLk11
namespace Go.Proofs.Ytfcmejcmijjnpaa
open Go.RowKit

/-- the queues of which the first k are done -/
def qkF (qs : List (List Int)) (t : Int) (k : Nat) : List (List Int) := (qs.take k).map (fun q => q.filter (· ≠ t)) ++ qs.drop k
theorem qk_len {qs : List (List Int)} {t : Int} {k : Nat} : (qkF qs t k).length = qs.length := by
  unfold qkF
  simp only [List.length_append, List.length_map, List.length_take, List.length_drop]
  omega
theorem qk_at {qs : List (List Int)} {t : Int} {k : Nat} (hk : k < qs.length) : (qkF qs t k)[k]? = some qs[k] := by
  unfold qkF
  rw [List.getElem?_append_right (by simp only [List.length_map, List.length_take]; omega), List.length_map, List.length_take, Nat.min_eq_left (by omega), Nat.sub_self, List.getElem?_drop, Nat.add_zero, List.getElem?_eq_getElem hk]
theorem qk_set {qs : List (List Int)} {t : Int} {k : Nat} (hk : k < qs.length) : (qkF qs t k).set k (qs[k].filter (· ≠ t)) = qkF qs t (k + 1) := by
  unfold qkF
  rw [List.set_append_right _ _ (by simp only [List.length_map, List.length_take]; omega), List.length_map, List.length_take, Nat.min_eq_left (by omega), Nat.sub_self, List.drop_eq_getElem_cons hk, List.set_cons_zero, List.take_succ_eq_append_getElem hk, List.map_append, List.append_assoc]
  rfl
theorem qk_all {qs : List (List Int)} {t : Int} : qkF qs t qs.length = qs.map (fun q => q.filter (· ≠ t)) := by
  unfold qkF
  rw [List.take_length, List.drop_length, List.append_nil]
structure DrX where
  k : Nat
  qcs : List Value
  rs : List RW
structure DrY where
  i : Nat
  z : KS
  A : Option Nat
  c : Nat
  cs : List Value
  out : List Int
theorem apart_app {A B : List Hp} (h : Apart (A ++ B)) : ∀ x ∈ A, ∀ y ∈ B, ∀ g, x.g = some g → y.g ≠ some g := by
  induction A with
  | nil => intro x hx; cases hx
  | cons a r ih =>
    intro x hx y hy g hg
    rcases List.mem_cons.1 hx with rfl | hx
    · exact h.1 y (List.mem_append_right _ hy) g hg
    · exact ih h.2 x hx y hy g hg
theorem perm_two (a b : Hp) (K L : List Hp) : (K ++ a :: b :: L).Perm (a :: b :: (K ++ L)) := List.perm_middle.trans (List.Perm.cons _ List.perm_middle)
def DrpR (r : Ab × List Int) (w : World) (u : Value) (w' : World) : Prop := ∃ (y : KS) (b : IS), u = .tuple #[y.v, b.v] ∧ y.ok w' ∧ b.ok w' ∧ b.n ≤ 4 ∧ y.ab = r.1 ∧ b.xs = r.2 ∧ Pu w w'
set_option maxHeartbeats 4000000 in
theorem drp_c (x : KS) (t : Int) (wB : World) (hx : x.ok wB) (hva : VA x.ab) : Ret Try.prog 18 [x.v, .int .i64 t] wB (fun u w' => DrpR (dropF x.ab t) wB u w') := by
  have hsh := hva.sh
  have hsm := KS.sm_of hx hsh
  have hq0 := hsh.q
  have hcp := fun w'' (hf : Pu wB w'') => cpd_c x w'' (hx.pu hf) hsm
  unfold KS.v IS.v at *
  refine enterR Try.func18 rfl rfl rfl fun a hs hm => ?_
  repeat (first | ((with_reducible refine toL hm ?_); (first | refine oneV hs gw_ rfl rfl (by intro w hm; exact kv_) ?_ | refine oneN hs rfl rfl rfl rfl rfl rfl rfl ?_ | refine oneU hs rfl rfl rfl rfl rfl rfl ?_); clear hs a; intro a hs) | ((with_reducible apply lCons); first | (refine dv hs gw_ rfl rfl da_ ?_; clear hs hm a; rintro _ w ⟨g, rfl, -, hm⟩ a hs) | (refine stn hs rfl rfl ds_ ?_; clear hs hm a; rintro - w hm a hs) ) | (with_reducible first | apply lNilThen | apply lNilBlock | apply lNil | apply wp_seq | apply wp_region_lit | apply wp_block | apply cExit | apply cRet | apply cSkip | apply gThen | apply gBlock | apply eThen | apply eBlockHit | refine eBlock rfl ?_ | apply rThen | apply rBlock) | ((with_reducible apply cCond); first | refine cTrue hs rfl bd_ ?_ | refine cFalse hs rfl bd_ ?_))
  obtain ⟨g2, en_⟩ := hs.pt 2 (by exact rfl); subst en_
  obtain ⟨g3, en_⟩ := hs.pt 3 (by exact rfl); subst en_
  obtain ⟨g4, en_⟩ := hs.pt 4 (by exact rfl); subst en_
  refine st hs rfl rfl rfl (d_call hs rfl rfl rfl (pl 19 rfl) ((hcp _ hm.fr))) ?_; clear hs a; rintro _ w1 ⟨y, rfl, hy, hyab, hyl, hN, hf⟩ a hs
  have hm6 := cp_gain hm hf hN
  clear hm hf hN
  have hm := hm6
  clear hm6
  unfold KO.v RW.v at hs
  repeat (first | ((with_reducible refine toL hm ?_); (first | refine oneV hs gw_ rfl rfl (by intro w hm; exact kv_) ?_ | refine oneN hs rfl rfl rfl rfl rfl rfl rfl ?_ | refine oneU hs rfl rfl rfl rfl rfl rfl ?_); clear hs a; intro a hs) | ((with_reducible apply lCons); first | (refine dv hs gw_ rfl rfl da_ ?_; clear hs hm a; rintro _ w ⟨g, rfl, -, hm⟩ a hs) | (refine stn hs rfl rfl ds_ ?_; clear hs hm a; rintro - w hm a hs) ) | (with_reducible first | apply lNilThen | apply lNilBlock | apply lNil | apply wp_seq | apply wp_region_lit | apply wp_block | apply cExit | apply cRet | apply cSkip | apply gThen | apply gBlock | apply eThen | apply eBlockHit | refine eBlock rfl ?_ | apply rThen | apply rBlock) | ((with_reducible apply cCond); first | refine cTrue hs rfl bd_ ?_ | refine cFalse hs rfl bd_ ?_))
  obtain ⟨g6, en_⟩ := hs.pt 6 (by exact rfl); subst en_
  obtain ⟨⟨yoA, yoc, yocs, yos⟩, yqA, yqc, yqcs, yrs⟩ := y
  obtain ⟨ho, hq, hrs⟩ := hy
  unfold KO.ab at hyab
  dsimp only at hyab hyl ho hq hrs hm hs
  have hyl4 : yrs.length = 4 := by rw [hyl]; unfold KS.ab at hq0; rw [List.length_map] at hq0; exact hq0
  rw [hyl4] at hs hm hq
  obtain ⟨gq, rfl⟩ := hq.some_ (by omega)
  have hab : x.ab = ⟨yos, yrs.map RW.xs⟩ := hyab.symm
  obtain ⟨qs, hqs⟩ : ∃ qs, yrs.map RW.xs = qs := ⟨_, rfl⟩
  have hqs4 : qs.length = 4 := by rw [← hqs, List.length_map]; exact hyl4
  have hqsl : ∀ q ∈ qs, q.length ≤ 500 := fun q hq' => hsh.l q (by rw [hab]; show q ∈ yrs.map RW.xs; rw [hqs]; exact hq')
  refine cLoop (X := DrX) (fun X a w' => Sl Try.f18.ntmps [(3, .pointer (some ⟨g3, 0, none⟩)), (4, .pointer (some ⟨g4, 0, none⟩)), (5, .slice none 0 0), (6, .pointer (some ⟨g6, 0, none⟩)), (16, slv (some gq) 4 yqc), (17, .int .i64 ((4 : Nat) : Int)), (18, .int .i64 (X.k : Int))] a ∧ Mm (fun _ => False) wB (⟨some g6, 27, [slv yoA yos.length yoc, slv (some gq) 4 yqc]⟩ :: ⟨some gq, 22, X.qcs⟩ :: ⟨yoA, 3, yocs⟩ :: ⟨some g4, 27, [.slice none 0 0, .slice none 0 0]⟩ :: ⟨some g3, 3, [.int .i64 t]⟩ :: ⟨some g2, 27, [.slice x.o.A x.o.n x.o.c, .slice x.qA x.qs.length x.qc]⟩ :: (X.rs).map RW.hp) w' ∧ Row (some gq) 4 yqc 1 (X.rs.map RW.v) X.qcs ∧ (∀ r ∈ X.rs, r.ok) ∧ X.rs.map RW.xs = qkF qs t X.k ∧ X.k ≤ 4) (fun X => 4 - X.k) ⟨0, yqcs, yrs⟩ ⟨hs.sub (Has.all ⟨rfl, rfl, rfl, rfl, rfl, rfl, rfl, trivial⟩), hm, hq, hrs, by rw [hqs]; rfl, Nat.zero_le _⟩ ?_
  clear hs hm a hq hrs
  rintro ⟨k, qcs, rs⟩ a w' ⟨hs, hm, hq, hrs, hxs, hk⟩
  dsimp only at hs hm hq hrs hxs hk
  have hrl4 : rs.length = 4 := by
    have := congrArg List.length hxs
    rw [List.length_map, qk_len, hqs4] at this
    exact this
  by_cases hlt : k < 4
  · obtain ⟨r, hr⟩ : ∃ r, r = rs[k] := ⟨_, rfl⟩
    have hr2 : rs[k]? = some r := by rw [hr]; exact List.getElem?_eq_getElem (by omega)
    have hrm : r ∈ rs := List.mem_of_getElem? hr2
    have hro := hrs r hrm
    have hrx : r.xs = qs[k] := by
      have h1 := qk_at (qs := qs) (t := t) (k := k) (by omega)
      rw [← hxs, List.getElem?_map, hr2] at h1
      exact Option.some.inj h1
    have hrn : r.xs.length ≤ 1000 := by
      have := hqsl qs[k] (List.getElem_mem _)
      rw [hrx]; omega
    have hcell : qcs[k]? = some r.v := hq.get (by rw [List.getElem?_map, hr2]; rfl)
    have hk2 : k < qcs.length := by rw [hq.len]; have := hq.le; omega
    have hne : r.A ≠ some g3 := hm.dj.2.2.2.2.1 r.hp (List.mem_cons_of_mem _ (List.mem_map_of_mem hrm)) g3 rfl
    have hrmm : r.hp ∈ rs.map RW.hp := List.mem_map_of_mem hrm
    repeat (first | ((with_reducible refine toL hm ?_); (first | refine oneV hs gw_ rfl rfl (by intro w hm; exact kv_) ?_ | refine oneN hs rfl rfl rfl rfl rfl rfl rfl ?_ | refine oneU hs rfl rfl rfl rfl rfl rfl ?_); clear hs a; intro a hs) | ((with_reducible apply lCons); first | (refine dv hs gw_ rfl rfl da_ ?_; clear hs hm a; rintro _ w ⟨g, rfl, -, hm⟩ a hs) | (refine stn hs rfl rfl ds_ ?_; clear hs hm a; rintro - w hm a hs) ) | (with_reducible first | apply lNilThen | apply lNilBlock | apply lNil | apply wp_seq | apply wp_region_lit | apply wp_block | apply cExit | apply cRet | apply cSkip | apply gThen | apply gBlock | apply eThen | apply eBlockHit | refine eBlock rfl ?_ | apply rThen | apply rBlock) | ((with_reducible apply cCond); first | refine cTrue hs rfl bd_ ?_ | refine cFalse hs rfl bd_ ?_))
    refine cMid (fun a w' => ∃ r' : RW, r'.ok ∧ r'.xs = r.xs.filter (· ≠ t) ∧ Sl Try.f18.ntmps [(3, .pointer (some ⟨g3, 0, none⟩)), (4, .pointer (some ⟨g4, 0, none⟩)), (5, .slice none 0 0), (6, .pointer (some ⟨g6, 0, none⟩)), (16, slv (some gq) 4 yqc), (17, .int .i64 ((4 : Nat) : Int)), (18, .int .i64 (k : Int))] a ∧ Mm (fun _ => False) wB (⟨some g6, 27, [slv yoA yos.length yoc, slv (some gq) 4 yqc]⟩ :: ⟨some gq, 22, qcs.set k r'.v⟩ :: ⟨yoA, 3, yocs⟩ :: ⟨some g4, 27, [.slice none 0 0, .slice none 0 0]⟩ :: ⟨some g3, 3, [.int .i64 t]⟩ :: ⟨some g2, 27, [.slice x.o.A x.o.n x.o.c, .slice x.qA x.qs.length x.qc]⟩ :: (rs.set k r').map RW.hp) w') ?_ ?_
    · skip
      refine cDraw (n := 8) [⟨some g6, 27, [slv yoA yos.length yoc, slv (some gq) 4 yqc]⟩] hm rfl rfl ?_
      clear hm
      intro w2 hm
      refine hTake 0 hs rfl (by kernel_rfl) (Wnt.none rfl) rfl rfl (by intro w hm; replace hm : Mm _ _ _ w := hm; exact r_val hs tab rfl) (hm.sub sub_) ?_; clear hs a; intro a hs
      refine hTake 1 hs rfl (by kernel_rfl) (Wnt.none rfl) rfl rfl (by intro w hm; replace hm : Mm _ _ _ w := hm; exact kl_) (hm.sub sub_) ?_; clear hs a; intro a hs
      refine hTake 2 hs rfl (by kernel_rfl) (Wnt.none rfl) rfl rfl (by intro w hm; replace hm : Mm _ _ _ w := hm; exact r_val hs tab rfl) (hm.sub sub_) ?_; clear hs a; intro a hs
      refine hTake 3 hs rfl (by kernel_rfl) (Wnt.none rfl) rfl rfl (by intro w hm; replace hm : Mm _ _ _ w := hm; exact r_val hs tab rfl) (hm.sub sub_) ?_; clear hs a; intro a hs
      refine hTake 4 hs rfl (by kernel_rfl) (Wnt.none rfl) rfl rfl (by intro w hm; replace hm : Mm _ _ _ w := hm; exact r_val hs tab rfl) (hm.sub sub_) ?_; clear hs a; intro a hs
      refine hEach [5] (by kernel_rfl) (eDo hs rfl (Wnt.none rfl) rfl rfl (by exact d_call hs rfl rfl rfl (pl 26 rfl) ((delR_c r t g3 _ hro (hm.me _ (by repeat (first | exact hrmm | apply mT))) hrn (hm.ro (n := 1) mem_ (cutF_ok rfl)) hne))) ?_ eNil)
      clear hs
      rintro _ w1 ⟨r', rfl, hr', hrA, hrx', hk9⟩ a hs
      replace hm := hm.into hk9 hrA (by repeat (first | exact rep_set hr2 | apply Rep.tail))
      clear hk9
      refine ⟨hm.sub sub_, ?_⟩
      refine hTake 6 hs rfl (by kernel_rfl) (Wnt.none rfl) rfl rfl (by intro w hm; replace hm : Mm _ _ _ w := hm; (first | exact r_iz hs tab rfl rfl (by omega) | exact r_iy hs tab rfl rfl (by omega))) (hm.sub sub_) ?_; clear hs a; intro a hs
      refine hEach [7] (by kernel_rfl) (eDoN hs rfl (Wnt.none rfl) rfl ds_ ?_ eNil)
      clear hs hm
      rintro - w27 hm a hs
      refine ⟨hm.sub sub_, ?_⟩
      refine hDone (by kernel_rfl) ?_
      exact And.intro rfl ⟨r', hr', hrx', hs.sub (Has.all ⟨rfl, rfl, rfl, rfl, rfl, rfl, rfl, trivial⟩), hm.sub (List.Sublist.refl _)⟩
    clear hs hm a
    rintro a w' ⟨r', hr', hrx', hs, hm⟩
    repeat (first | ((with_reducible refine toL hm ?_); (first | refine oneV hs gw_ rfl rfl (by intro w hm; exact kv_) ?_ | refine oneN hs rfl rfl rfl rfl rfl rfl rfl ?_ | refine oneU hs rfl rfl rfl rfl rfl rfl ?_); clear hs a; intro a hs) | ((with_reducible apply lCons); first | (refine dv hs gw_ rfl rfl da_ ?_; clear hs hm a; rintro _ w ⟨g, rfl, -, hm⟩ a hs) | (refine stn hs rfl rfl ds_ ?_; clear hs hm a; rintro - w hm a hs) ) | (with_reducible first | apply lNilThen | apply lNilBlock | apply lNil | apply wp_seq | apply wp_region_lit | apply wp_block | apply cExit | apply cRet | apply cSkip | apply gThen | apply gBlock | apply eThen | apply eBlockHit | refine eBlock rfl ?_ | apply rThen | apply rBlock) | ((with_reducible apply cCond); first | refine cTrue hs rfl bd_ ?_ | refine cFalse hs rfl bd_ ?_))
    refine ⟨⟨k + 1, qcs.set k r'.v, rs.set k r'⟩, by dsimp only; omega, hs.sub (Has.all ⟨rfl, rfl, rfl, rfl, rfl, rfl, rfl, trivial⟩), hm, ?_, fun q hq' => (List.mem_or_eq_of_mem_set hq').elim (hrs q) (fun e => e ▸ hr'), ?_, by dsimp only; omega⟩
    · dsimp only
      rw [List.map_set]
      exact hq.set k _
    · dsimp only
      rw [List.map_set, hxs, hrx', hrx]
      exact qk_set (by omega)
  · repeat (first | ((with_reducible refine toL hm ?_); (first | refine oneV hs gw_ rfl rfl (by intro w hm; exact kv_) ?_ | refine oneN hs rfl rfl rfl rfl rfl rfl rfl ?_ | refine oneU hs rfl rfl rfl rfl rfl rfl ?_); clear hs a; intro a hs) | ((with_reducible apply lCons); first | (refine dv hs gw_ rfl rfl da_ ?_; clear hs hm a; rintro _ w ⟨g, rfl, -, hm⟩ a hs) | (refine stn hs rfl rfl ds_ ?_; clear hs hm a; rintro - w hm a hs) ) | (with_reducible first | apply lNilThen | apply lNilBlock | apply lNil | apply wp_seq | apply wp_region_lit | apply wp_block | apply cExit | apply cRet | apply cSkip | apply gThen | apply gBlock | apply eThen | apply eBlockHit | refine eBlock rfl ?_ | apply rThen | apply rBlock) | ((with_reducible apply cCond); first | refine cTrue hs rfl bd_ ?_ | refine cFalse hs rfl bd_ ?_))
    obtain rfl : k = 4 := by omega
    have hos4 : yos.length = 4 := by have := hva.o; rw [hab] at this; exact this
    rw [hos4] at hs
    have hxs4 : rs.map RW.xs = qs.map (fun q => q.filter (· ≠ t)) := by
      rw [hxs]
      have := qk_all (qs := qs) (t := t)
      rwa [hqs4] at this
    have hy0 : KO.ok ⟨⟨yoA, yoc, yocs, yos⟩, some gq, yqc, qcs, rs⟩ := ⟨ho, by rw [hrl4]; exact hq, hrs⟩
    have hz := KO.ks_ok (y := ⟨⟨yoA, yoc, yocs, yos⟩, some gq, yqc, qcs, rs⟩) hm (by
      intro h hh
      rcases List.mem_cons.1 hh with rfl | hh
      · exact mem_
      · rcases List.mem_cons.1 hh with rfl | hh
        · exact mem_
        · repeat (first | exact hh | apply List.mem_cons_of_mem)) hy0
    have hzab := KO.ks_ab ⟨⟨yoA, yoc, yocs, yos⟩, some gq, yqc, qcs, rs⟩
    have hzv := KO.ks_v ⟨⟨yoA, yoc, yocs, yos⟩, some gq, yqc, qcs, rs⟩
    have hblk := fun g => KO.blk_hps (y := ⟨⟨yoA, yoc, yocs, yos⟩, some gq, yqc, qcs, rs⟩) (g := g)
    obtain ⟨z, hzz⟩ : ∃ z, KO.ks ⟨⟨yoA, yoc, yocs, yos⟩, some gq, yqc, qcs, rs⟩ = z := ⟨_, rfl⟩
    rw [hzz] at hz hzab hzv hblk
    have hm2 := hm.perm (List.Perm.cons _ (perm_two ⟨some gq, 22, qcs⟩ ⟨yoA, 3, yocs⟩ [⟨some g4, 27, [.slice none 0 0, .slice none 0 0]⟩, ⟨some g3, 3, [.int .i64 t]⟩, ⟨some g2, 27, [.slice x.o.A x.o.n x.o.c, .slice x.qA x.qs.length x.qc]⟩] (rs.map RW.hp)))
    clear hm
    have hap := apart_app (A := [_, _, _, _]) hm2.dj
    have hcells : [slv yoA yos.length yoc, slv (some gq) 4 yqc] = [Value.slice z.o.A z.o.n z.o.c, .slice z.qA z.qs.length z.qc] := by
      rw [← hzz]
      unfold KO.ks RW.is slv
      dsimp only
      rw [List.length_map, hrl4]
    rw [hcells] at hm2 hap
    have hno : z.no [⟨some g6, 27, [.slice z.o.A z.o.n z.o.c, .slice z.qA z.qs.length z.qc]⟩, ⟨some g4, 27, [.slice none 0 0, .slice none 0 0]⟩, ⟨some g3, 3, [.int .i64 t]⟩, ⟨none, 3, []⟩] := by
      rintro g hg ⟨h, hh, e⟩
      obtain ⟨h2, hh2, e2⟩ := hblk g hg
      refine hap h ?_ h2 hh2 g e e2
      rcases List.mem_cons.1 hh with rfl | hh
      · exact mem_
      · rcases List.mem_cons.1 hh with rfl | hh
        · exact mem_
        · rcases List.mem_cons.1 hh with rfl | hh
          · exact mem_
          · rcases List.mem_singleton.1 hh with rfl
            cases e
    have hm3 := ((hm2.sub (List.sublist_append_left [_, _, _, _] _)).zero 3).sel (M' := [⟨some g6, 27, [.slice z.o.A z.o.n z.o.c, .slice z.qA z.qs.length z.qc]⟩, ⟨some g4, 27, [.slice none 0 0, .slice none 0 0]⟩, ⟨some g3, 3, [.int .i64 t]⟩, ⟨none, 3, []⟩]) [1, 2, 3, 0] (by decide) rfl
    clear hm2 hap hblk
    have hF : (dropF x.ab t) = dropN t z.ab 4 := by
      unfold dropF
      rw [hzab, hab]
      unfold KO.ab
      dsimp only
      rw [hxs4, hqs]
    have hvz : VA z.ab := by
      rw [hzab]
      unfold KO.ab
      dsimp only
      rw [hxs4, ← hqs]
      rw [hab] at hva
      exact va_filter hva
    rw [hF]
    obtain ⟨a0, ha0⟩ : ∃ a0, z.ab = a0 := ⟨_, rfl⟩
    rw [ha0] at hvz ⊢
    refine cLoop (X := DrY) (fun X a w' => Sl Try.f18.ntmps [(3, .pointer (some ⟨g3, 0, none⟩)), (4, .pointer (some ⟨g4, 0, none⟩)), (6, .pointer (some ⟨g6, 0, none⟩)), (9, slv X.A X.out.length X.c), (33, .int .i64 ((4 : Nat) : Int)), (34, .int .i64 (X.i : Int))] a ∧ Mm (fun _ => False) wB [⟨some g6, 27, [.slice X.z.o.A X.z.o.n X.z.o.c, .slice X.z.qA X.z.qs.length X.z.qc]⟩, ⟨some g4, 27, [.slice none 0 0, .slice none 0 0]⟩, ⟨some g3, 3, [.int .i64 t]⟩, ⟨X.A, 3, X.cs⟩] w' ∧ X.z.ok w' ∧ X.z.no [⟨some g6, 27, [.slice X.z.o.A X.z.o.n X.z.o.c, .slice X.z.qA X.z.qs.length X.z.qc]⟩, ⟨some g4, 27, [.slice none 0 0, .slice none 0 0]⟩, ⟨some g3, 3, [.int .i64 t]⟩, ⟨X.A, 3, X.cs⟩] ∧ Row X.A X.out.length X.c 1 (ints X.out) X.cs ∧ (X.z.ab, X.out) = dropN t a0 X.i ∧ X.i ≤ 4) (fun X => 4 - X.i) ⟨0, z, none, 0, [], []⟩ ⟨hs.sub (Has.all ⟨rfl, rfl, rfl, rfl, rfl, rfl, trivial⟩), hm3, hz, hno, Row.empty 1, by rw [ha0]; rfl, Nat.zero_le _⟩ ?_
    clear hs hm3 a hz hno hcells hzv hzab hzz
    clear ha0 hF
    rintro ⟨i, z, A, c, cs, out⟩ a w' ⟨hs, hm, hz, hno, hrow, hab2, hi⟩
    dsimp only at hs hm hz hno hrow hab2 hi
    by_cases hlt2 : i < 4
    · have hmB := hm
      have hvi : VA z.ab := by
        have := dropN_va (t := t) hvz i (by omega)
        rw [← hab2] at this
        exact this
      have hol : out.length ≤ i := by
        have := dropN_len t a0 i
        rw [← hab2] at this
        exact this
      have hds : dropN t a0 (i + 1) = dstep t (z.ab, out) i := by rw [dropN_succ, ← hab2]
      unfold dstep at hds
      dsimp only at hds
      obtain ⟨M3, hpk⟩ := packK hmB hno
      clear hmB hno hm
      obtain ⟨hmB, hm, hno⟩ := hpk
      repeat (first | ((with_reducible refine toL hm ?_); (first | refine oneV hs gw_ rfl rfl (by intro w hm; exact kv_) ?_ | refine oneN hs rfl rfl rfl rfl rfl rfl rfl ?_ | refine oneU hs rfl rfl rfl rfl rfl rfl ?_); clear hs a; intro a hs) | ((with_reducible apply lCons); first | (refine dv hs gw_ rfl rfl da_ ?_; clear hs hm a; rintro _ w ⟨g, rfl, -, hm⟩ a hs) | (refine stn hs rfl rfl ds_ ?_; clear hs hm a; rintro - w hm a hs) ) | (with_reducible first | apply lNilThen | apply lNilBlock | apply lNil | apply wp_seq | apply wp_region_lit | apply wp_block | apply cExit | apply cRet | apply cSkip | apply gThen | apply gBlock | apply eThen | apply eBlockHit | refine eBlock rfl ?_ | apply rThen | apply rBlock) | ((with_reducible apply cCond); first | refine cTrue hs rfl bd_ ?_ | refine cFalse hs rfl bd_ ?_))
      refine st hs rfl rfl rfl (d_call hs rfl rfl rfl (pl 11 rfl) ((giv_c z i t _ (hz.own hno hm) hvi.sh (by omega)))) ?_; clear hs a; rintro _ w3 ⟨y, rfl, hy, hyn, hya, hf⟩ a hs
      clear hno
      have hno := hyn.no hm
      replace hm := hm.pu hf
      clear hf hyn hz
      obtain ⟨M3, hpk⟩ := packK (hmB.trans hm) hno
      clear hmB hno hm
      obtain ⟨hmB, hm, hno⟩ := hpk
      unfold KS.v IS.v at hs
      rw [← hya] at hds
      obtain ⟨u, hu⟩ : ∃ u, (givF z.ab i t).2.1 = u := ⟨_, rfl⟩
      obtain ⟨ok, hok⟩ : ∃ ok, (givF z.ab i t).2.2 = ok := ⟨_, rfl⟩
      rw [hu, hok] at hds hs
      clear hya hu hok
      cases ok
      · rw [if_neg (fun e => by cases e.1)] at hds
        repeat (first | ((with_reducible refine toL hm ?_); (first | refine oneV hs gw_ rfl rfl (by intro w hm; exact kv_) ?_ | refine oneN hs rfl rfl rfl rfl rfl rfl rfl ?_ | refine oneU hs rfl rfl rfl rfl rfl rfl ?_); clear hs a; intro a hs) | ((with_reducible apply lCons); first | (refine dv hs gw_ rfl rfl da_ ?_; clear hs hm a; rintro _ w ⟨g, rfl, -, hm⟩ a hs) | (refine stn hs rfl rfl ds_ ?_; clear hs hm a; rintro - w hm a hs) ) | (with_reducible first | apply lNilThen | apply lNilBlock | apply lNil | apply wp_seq | apply wp_region_lit | apply wp_block | apply cExit | apply cRet | apply cSkip | apply gThen | apply gBlock | apply eThen | apply eBlockHit | refine eBlock rfl ?_ | apply rThen | apply rBlock) | ((with_reducible apply cCond); first | refine cTrue hs rfl bd_ ?_ | refine cFalse hs rfl bd_ ?_))
        exact ⟨⟨i + 1, y, A, c, cs, out⟩, by dsimp only; omega, hs.sub (Has.all ⟨rfl, rfl, rfl, rfl, rfl, rfl, trivial⟩), hmB.trans hm, hy.own hno hm, hno.grow hy hm, hrow, hds.symm, by dsimp only; omega⟩
      · by_cases hu1 : u = -1
        · rw [if_neg (fun e => e.2 hu1)] at hds
          repeat (first | ((with_reducible refine toL hm ?_); (first | refine oneV hs gw_ rfl rfl (by intro w hm; exact kv_) ?_ | refine oneN hs rfl rfl rfl rfl rfl rfl rfl ?_ | refine oneU hs rfl rfl rfl rfl rfl rfl ?_); clear hs a; intro a hs) | ((with_reducible apply lCons); first | (refine dv hs gw_ rfl rfl da_ ?_; clear hs hm a; rintro _ w ⟨g, rfl, -, hm⟩ a hs) | (refine stn hs rfl rfl ds_ ?_; clear hs hm a; rintro - w hm a hs) ) | (with_reducible first | apply lNilThen | apply lNilBlock | apply lNil | apply wp_seq | apply wp_region_lit | apply wp_block | apply cExit | apply cRet | apply cSkip | apply gThen | apply gBlock | apply eThen | apply eBlockHit | refine eBlock rfl ?_ | apply rThen | apply rBlock) | ((with_reducible apply cCond); first | refine cTrue hs rfl bd_ ?_ | refine cFalse hs rfl bd_ ?_))
          exact ⟨⟨i + 1, y, A, c, cs, out⟩, by dsimp only; omega, hs.sub (Has.all ⟨rfl, rfl, rfl, rfl, rfl, rfl, trivial⟩), hmB.trans hm, hy.own hno hm, hno.grow hy hm, hrow, hds.symm, by dsimp only; omega⟩
        · rw [if_pos ⟨rfl, hu1⟩] at hds
          repeat (first | ((with_reducible refine toL hm ?_); (first | refine oneV hs gw_ rfl rfl (by intro w hm; exact kv_) ?_ | refine oneN hs rfl rfl rfl rfl rfl rfl rfl ?_ | refine oneU hs rfl rfl rfl rfl rfl rfl ?_); clear hs a; intro a hs) | ((with_reducible apply lCons); first | (refine dv hs gw_ rfl rfl da_ ?_; clear hs hm a; rintro _ w ⟨g, rfl, -, hm⟩ a hs) | (refine stn hs rfl rfl ds_ ?_; clear hs hm a; rintro - w hm a hs) ) | (with_reducible first | apply lNilThen | apply lNilBlock | apply lNil | apply wp_seq | apply wp_region_lit | apply wp_block | apply cExit | apply cRet | apply cSkip | apply gThen | apply gBlock | apply eThen | apply eBlockHit | refine eBlock rfl ?_ | apply rThen | apply rBlock) | ((with_reducible apply cCond); first | refine cTrue hs rfl bd_ ?_ | refine cFalse hs rfl bd_ ?_))
          refine dv hs (Wnt.none rfl) rfl rfl (d_append (A := A) (n := out.length) (c := c) (xs := ints out) (news := [.int .i64 u]) hs rfl rfl rfl rfl rfl tab rfl rfl rfl rfl rfl hm mem_ hrow rfl (hm.ro (n := 1) mem_ (cutF_ok rfl)) rfl (by show (out.length + 1) * 8 ≤ _; omega) (by omega)) ?_
          clear hs
          rintro _ w6 ⟨A', c', cs', rfl, hr2, hM⟩ a hs
          replace hm := (hM _ rep_).sub (List.sublist_cons_self _ _)
          clear hM
          have hol2 : (out ++ [u]).length = out.length + 1 := by rw [List.length_append, List.length_singleton]
          have hr3 : Row A' (out ++ [u]).length c' 1 (ints (out ++ [u])) cs' := by
            rw [hol2, show ints (out ++ [u]) = ints out ++ [.int .i64 u] by simp [ints]]; exact hr2
          rw [← hol2] at hs
          repeat (first | ((with_reducible refine toL hm ?_); (first | refine oneV hs gw_ rfl rfl (by intro w hm; exact kv_) ?_ | refine oneN hs rfl rfl rfl rfl rfl rfl rfl ?_ | refine oneU hs rfl rfl rfl rfl rfl rfl ?_); clear hs a; intro a hs) | ((with_reducible apply lCons); first | (refine dv hs gw_ rfl rfl da_ ?_; clear hs hm a; rintro _ w ⟨g, rfl, -, hm⟩ a hs) | (refine stn hs rfl rfl ds_ ?_; clear hs hm a; rintro - w hm a hs) ) | (with_reducible first | apply lNilThen | apply lNilBlock | apply lNil | apply wp_seq | apply wp_region_lit | apply wp_block | apply cExit | apply cRet | apply cSkip | apply gThen | apply gBlock | apply eThen | apply eBlockHit | refine eBlock rfl ?_ | apply rThen | apply rBlock) | ((with_reducible apply cCond); first | refine cTrue hs rfl bd_ ?_ | refine cFalse hs rfl bd_ ?_))
          exact ⟨⟨i + 1, y, A', c', cs', out ++ [u]⟩, by dsimp only; omega, hs.sub (Has.all ⟨rfl, rfl, rfl, rfl, rfl, rfl, trivial⟩), hmB.trans hm, hy.own hno hm, hno.grow hy hm, hr3, hds.symm, by dsimp only; omega⟩
    · obtain rfl : i = 4 := by omega
      have hol := dropN_len t a0 4
      rw [← hab2] at hol
      have hmB := hm
      obtain ⟨M3, hpk⟩ := packK hmB hno
      clear hmB hno hm
      obtain ⟨hmB, hm, hno⟩ := hpk
      repeat (first | ((with_reducible refine toL hm ?_); (first | refine oneV hs gw_ rfl rfl (by intro w hm; exact kv_) ?_ | refine oneN hs rfl rfl rfl rfl rfl rfl rfl ?_ | refine oneU hs rfl rfl rfl rfl rfl rfl ?_); clear hs a; intro a hs) | ((with_reducible apply lCons); first | (refine dv hs gw_ rfl rfl da_ ?_; clear hs hm a; rintro _ w ⟨g, rfl, -, hm⟩ a hs) | (refine stn hs rfl rfl ds_ ?_; clear hs hm a; rintro - w hm a hs) ) | (with_reducible first | apply lNilThen | apply lNilBlock | apply lNil | apply wp_seq | apply wp_region_lit | apply wp_block | apply cExit | apply cRet | apply cSkip | apply gThen | apply gBlock | apply eThen | apply eBlockHit | refine eBlock rfl ?_ | apply rThen | apply rBlock) | ((with_reducible apply cCond); first | refine cTrue hs rfl bd_ ?_ | refine cFalse hs rfl bd_ ?_))
      exact gRetN tab hs rfl (.cons (.cells rfl rfl rfl rfl (hm.ro (k := 0) (n := 2) (g := g4) mem_ (cutF_ok rfl))) (.cons (.tmp rfl) .nil)) ⟨z, ⟨A.map fun g => ⟨g, 0, none⟩, out.length, c, out⟩, rfl, hz.own hno hm, RW.ok_is (r := ⟨A, c, cs, out⟩) hm (show (⟨A, 3, cs⟩ : Hp) ∈ _ from mem_) hrow, hol, congrArg Prod.fst hab2, congrArg Prod.snd hab2, (hmB.trans hm).fr⟩
end Go.Proofs.Ytfcmejcmijjnpaa
