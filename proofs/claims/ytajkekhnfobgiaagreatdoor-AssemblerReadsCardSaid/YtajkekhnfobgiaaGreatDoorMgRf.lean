/- Texts put together: Atrw, Aty, Aub, Atz, Aua, Auc, Flat. -/
import Derived.Laws.BytesArg
import Derived.Laws.IdiomCopy
import Derived.Lib.ConvBytes
import Derived.Test.YtajkekhnfobgiaaGreatDoorMgRe
/- The reference's reader: an instruction's line, the walk. -/
namespace Go.Proofs.YtajkekhnfobgiaaGreatDoor
set_option maxRecDepth 20000
open Go.RowKit
theorem ovXAtrw0_ {G H : Prop} (k : H) (s : H → G := by intro k; (with_reducible refine toL hm ?_); first | exact oneV hs gw_ rfl rfl (by intro w hm; (first | exact kv_ | exact ksl_ | exact r_sidx (k := 0) hs rfl rfl rfl tab rfl rfl (by assumption) | exact r_sfrom (k := 1) hs rfl rfl rfl tab rfl rfl (by assumption))) k | exact oneN hs rfl rfl rfl rfl rfl rfl rfl k | exact oneU hs rfl rfl rfl rfl rfl rfl k) : G := s k
theorem oqXAtrw1_ {G H : Prop} (k : H) (s : H → G := by intro k; (with_reducible first | refine toL hm ?_ | refine toQ ?_); first | exact oneV hs gw_ rfl rfl (by intro w hm; (first | exact kv_ | exact ksl_ | exact r_sidx (k := 0) hs rfl rfl rfl tab rfl rfl (by assumption) | exact r_sfrom (k := 1) hs rfl rfl rfl tab rfl rfl (by assumption))) k | exact oneN hs rfl rfl rfl rfl rfl rfl rfl k | exact oneU hs rfl rfl rfl rfl rfl rfl k) : G := s k

structure RiX where
  f : Nat
  q : Nat
  a1 : Int
  a2 : Int
  a3 : Int
  m : Int
  fl : Bool
  lab : Tx
/-- what is known between two words -/
def RiP (op : Nat) (words : List Tx) (X : RiX) : Prop :=
  (X.f ≤ 3 ∧ rkF (op : Int) words X.f = some (X.a1, X.a2, X.a3, X.fl, words.drop X.q) ∧ X.m = 0 ∧ X.lab = []) ∨
  (X.f = 4 ∧ ∃ fl0 rest, rkF (op : Int) words 3 = some (X.a1, X.a2, X.a3, fl0, rest) ∧ lstR (op : Int) (usesF (op : Int)).2.2.2 rest = some (X.m, X.lab, words.drop X.q) ∧ X.fl = (fl0 || decide (65535 < X.m)))
theorem lstR_nil (op : Int) : lstR op true [] = none := by unfold lstR; cases jumpB op <;> rfl
theorem lstR_jmp {op : Int} (h : jumpB op = true) (s : Tx) (t : List Tx) : lstR op true (s :: t) = if nmB s then some (0, s, t) else none := by unfold lstR; rw [h]; rfl
theorem lstR_num {op : Int} (h : jumpB op = false) (s : Tx) (t : List Tx) : lstR op true (s :: t) = match decF s with
    | none => none
    | some n => some (n, [], t) := by unfold lstR; rw [h]; rfl
/-- an instruction's line, by the model -/
def rIF (x : RfX) (hw : Tx) (words : List Tx) (line : Nat) : RdS × Int := match idxF hw nmL 0 with
  | none => (x.r, 2)
  | some op => insF x.r (op : Int) words line


set_option maxHeartbeats 32000000 in
theorem rinst_c (x : RfX) (bw ow c : Nat) (hw : Tx) (words : List Tx) (line : Nat) (wB : World) (h : x.ok wB) (hrd : Ro wB bw ow ((hw :: words).map txv)) (hnb : ¬ own x.M bw) (hlen : ∀ t ∈ words, t.length ≤ 5000) (hwn : words.length ≤ 5000) (ht : ∀ w', Fr x.D wB w' → TW w') :
    Ret Tryz.prog 72 [.pointer (some ⟨x.g, 0, none⟩), .slice (some ⟨bw, ow, none⟩) (words.length + 1) c, .int .i64 (line : Int)] wB (fun u w' => ∃ e : Int, u = .int .i64 e ∧ e = (rIF x hw words line).2 ∧ Fr (own x.M) wB w' ∧ (e = 0 → ∃ y, RfN x wB w' (rIF x hw words line).1 y) ∧ (e ≠ 0 → Mm (own x.M) wB x.M w')) := by
  obtain ⟨z1, z2, z3, z4, z4b, z5⟩ := h.sz
  have hm0 : Mm (own x.M) wB [⟨some x.g, 93, [slv x.cA x.r.code.length x.cc, slv x.sA x.r.ss.length x.sc, slv x.dA x.ws.length x.dc, .map (some x.m), slv x.jA x.jp.length x.jc, slv x.lA x.ln.length x.lc, .bool x.r.last]⟩, ⟨x.cA, 54, x.ccs⟩, ⟨x.sA, 3, x.scs⟩, ⟨x.dA, 56, x.dcs⟩, ⟨x.jA, 9, x.jcs⟩, ⟨x.lA, 3, x.lcs⟩] wB := h.mm
  have hnm := h.nm
  have hxD : ∀ {w'}, Fr (own x.M) wB w' → Fr x.D wB w' := fun hf => hf.mono fun i _ hi => .inl hi
  obtain ⟨S0, hS0⟩ : ∃ S0 : Nat → Prop, own x.M = S0 := ⟨_, rfl⟩
  rw [hS0] at hm0 hnb hnm hxD ⊢
  refine enterR Tryz.func72 rfl rfl rfl fun a hs hm => ?_
  clear hm
  have hm := hm0
  repeat (first | (refine ovXAtrw0_ ?_; clear hs a; intro a hs) | ((with_reducible apply lCons); first | (refine dv hs gw_ rfl rfl da_ ?_; clear hs hm a; rintro _ w ⟨g, rfl, -, hm⟩ a hs) | (refine stn hs rfl rfl ds_ ?_; clear hs hm a; rintro - w hm a hs)) | refine sc_ ?_)
  have hs9 : Sl Tryz.f72.ntmps [(0, .pointer (some ⟨x.g, 0, none⟩)), (1, .slice (some ⟨bw, ow, none⟩) (words.length + 1) c), (2, .int .i64 (line : Int)), (7, .int .i64 (opv hw 0)), (8, .int .i64 ((0 : Nat) : Int))] a := by
    rw [show opv hw 0 = -1 from by unfold opv; split <;> rfl]
    exact hs.sub (Has.all ⟨rfl, rfl, rfl, rfl, rfl, trivial⟩)
  refine cLoop (X := Nat) (fun k a w' => Sl Tryz.f72.ntmps [(0, .pointer (some ⟨x.g, 0, none⟩)), (1, .slice (some ⟨bw, ow, none⟩) (words.length + 1) c), (2, .int .i64 (line : Int)), (7, .int .i64 (opv hw k)), (8, .int .i64 (k : Int))] a ∧ Mm S0 wB [⟨some x.g, 93, [slv x.cA x.r.code.length x.cc, slv x.sA x.r.ss.length x.sc, slv x.dA x.ws.length x.dc, .map (some x.m), slv x.jA x.jp.length x.jc, slv x.lA x.ln.length x.lc, .bool x.r.last]⟩, ⟨x.cA, 54, x.ccs⟩, ⟨x.sA, 3, x.scs⟩, ⟨x.dA, 56, x.dcs⟩, ⟨x.jA, 9, x.jcs⟩, ⟨x.lA, 3, x.lcs⟩] w' ∧ k ≤ 25) (fun k => 25 - k) 0 ⟨hs9, hm, Nat.zero_le _⟩ ?_
  clear hs hs9 hm hm0 a
  rintro k a w' ⟨hs, hm, hk⟩
  have e0 : ((hw :: words).map txv)[0]? = some (txv hw) := rfl
  by_cases hlt : k < 25
  · repeat (first | (refine ovXAtrw0_ ?_; clear hs a; intro a hs) | ((with_reducible apply lCons); first | (refine dv hs gw_ rfl rfl da_ ?_; clear hs hm a; rintro _ w ⟨g, rfl, -, hm⟩ a hs) | (refine stn hs rfl rfl ds_ ?_; clear hs hm a; rintro - w hm a hs)) | refine sc_ ?_)
    refine cMid (fun a w => Sl Tryz.f72.ntmps [(0, .pointer (some ⟨x.g, 0, none⟩)), (1, .slice (some ⟨bw, ow, none⟩) (words.length + 1) c), (2, .int .i64 (line : Int)), (7, .int .i64 (opv hw k)), (8, .int .i64 (k : Int)), (26, .bool (decide (nameL (k : Int) = hw)))] a ∧ Mm S0 wB [⟨some x.g, 93, [slv x.cA x.r.code.length x.cc, slv x.sA x.r.ss.length x.sc, slv x.dA x.ws.length x.dc, .map (some x.m), slv x.jA x.jp.length x.jc, slv x.lA x.ln.length x.lc, .bool x.r.last]⟩, ⟨x.cA, 54, x.ccs⟩, ⟨x.sA, 3, x.scs⟩, ⟨x.dA, 56, x.dcs⟩, ⟨x.jA, 9, x.jcs⟩, ⟨x.lA, 3, x.lcs⟩] w) ?_ ?_
    · skip
      refine cDraw (n := 6) [] hm rfl rfl ?_
      clear hm
      intro w2 hm
      refine hV_ 0 ?_; clear hs a; intro a hs
      refine hV_ 2 ?_; clear hs a; intro a hs
      refine hTake 3 hs rfl (by kernel_rfl) (Wnt.none rfl) rfl rfl (by intro w hm; replace hm : Mm _ _ _ w := hm; (first | exact r_iz hs tab rfl rfl (by omega) | exact r_iy hs tab rfl rfl (by omega))) (hm.sub (List.nil_sublist _)) ?_; clear hs a; intro a hs
      refine hTake 4 hs rfl (by kernel_rfl) (Wnt.none rfl) rfl rfl (by intro w hm; replace hm : Mm _ _ _ w := hm; exact kl_) (hm.sub (List.nil_sublist _)) ?_; clear hs a; intro a hs
      refine hEach [1] (by kernel_rfl) (eDo hs rfl (Wnt.none rfl) rfl rfl (by exact d_call hs rfl rfl rfl (pl 16 rfl) ((rname_c (k : Int) _ (ht _ (hxD hm.fr))))) ?_ eNil)
      clear hs
      rintro _ w1 ⟨rfl, hf⟩ a hs
      replace hm := hm.pu hf
      clear hf
      refine ⟨hm.sub sub_, ?_⟩
      refine hTake 5 hs rfl (by kernel_rfl) (Wnt.none rfl) rfl rfl (by intro w hm; replace hm : Mm _ _ _ w := hm; (first | exact r_val hs tab rfl | exact r_cT hs rfl (by omega) | exact r_cF hs rfl (by omega) | exact r_bi hs rfl)) (hm.sub (List.nil_sublist _)) ?_; clear hs a; intro a hs
      refine hDone (by kernel_rfl) ?_
      rw [txv_eql] at hs
      exact And.intro rfl ⟨hs.sub (Has.all ⟨rfl, rfl, rfl, rfl, rfl, rfl, trivial⟩), hm⟩
    clear hs hm a
    rintro a w2 ⟨hs, hm⟩
    by_cases he : nameL (k : Int) = hw
    · rw [decide_eq_true he] at hs
      have hv := opv_yes hlt he
      repeat (first | (refine ovXAtrw0_ ?_; clear hs a; intro a hs) | ((with_reducible apply lCons); first | (refine dv hs gw_ rfl rfl da_ ?_; clear hs hm a; rintro _ w ⟨g, rfl, -, hm⟩ a hs) | (refine stn hs rfl rfl ds_ ?_; clear hs hm a; rintro - w hm a hs)) | refine sc_ ?_)
      refine ⟨k + 1, by omega, ?_, hm, hlt⟩
      rw [hv]
      exact hs.sub (Has.all ⟨rfl, rfl, rfl, rfl, rfl, trivial⟩)
    · rw [decide_eq_false he] at hs
      have hv := opv_no hlt he
      repeat (first | (refine ovXAtrw0_ ?_; clear hs a; intro a hs) | ((with_reducible apply lCons); first | (refine dv hs gw_ rfl rfl da_ ?_; clear hs hm a; rintro _ w ⟨g, rfl, -, hm⟩ a hs) | (refine stn hs rfl rfl ds_ ?_; clear hs hm a; rintro - w hm a hs)) | refine sc_ ?_)
      refine ⟨k + 1, by omega, ?_, hm, hlt⟩
      rw [hv]
      exact hs.sub (Has.all ⟨rfl, rfl, rfl, rfl, rfl, trivial⟩)
  obtain rfl : k = 25 := by omega
  have hcw : words.length ≤ 5000 := hwn
  cases hid : idxF hw nmL 0 with
  | none =>
    rw [opv_none hid] at hs
    have hR : rIF x hw words line = (x.r, 2) := by unfold rIF; rw [hid]
    rw [hR]
    repeat (first | (refine ovXAtrw0_ ?_; clear hs a; intro a hs) | ((with_reducible apply lCons); first | (refine dv hs gw_ rfl rfl da_ ?_; clear hs hm a; rintro _ w ⟨g, rfl, -, hm⟩ a hs) | (refine stn hs rfl rfl ds_ ?_; clear hs hm a; rintro - w hm a hs)) | refine sc_ ?_)
    exact gRet1 hs rfl rfl ⟨_, rfl, rfl, hm.fr, (fun e => by cases e), fun _ => (hm.sub sub_ : Mm S0 wB [⟨some x.g, 93, [slv x.cA x.r.code.length x.cc, slv x.sA x.r.ss.length x.sc, slv x.dA x.ws.length x.dc, .map (some x.m), slv x.jA x.jp.length x.jc, slv x.lA x.ln.length x.lc, .bool x.r.last]⟩, ⟨x.cA, 54, x.ccs⟩, ⟨x.sA, 3, x.scs⟩, ⟨x.dA, 56, x.dcs⟩, ⟨x.jA, 9, x.jcs⟩, ⟨x.lA, 3, x.lcs⟩] _)⟩
  | some op =>
    have hop : op < 25 := idxF_lt hw nmL 0 op hid
    rw [opv_some hid hop] at hs
    have hR : rIF x hw words line = insF x.r (op : Int) words line := by unfold rIF; rw [hid]
    rw [hR]
    obtain ⟨⟨u1, u2, u3, u4⟩, hu⟩ : ∃ u, usesF (op : Int) = u := ⟨_, rfl⟩
    obtain ⟨jb, hjb⟩ : ∃ b, jumpB (op : Int) = b := ⟨_, rfl⟩
    have hus := fun w => uses_c (op : Int) w
    have hjm := fun w => jump_c (op : Int) w
    rw [hu] at hus
    rw [hjb] at hjm
    unfold u4V at hus
    dsimp only at hus
    repeat (first | (refine ovXAtrw0_ ?_; clear hs a; intro a hs) | ((with_reducible apply lCons); first | (refine dv hs gw_ rfl rfl da_ ?_; clear hs hm a; rintro _ w ⟨g, rfl, -, hm⟩ a hs) | (refine stn hs rfl rfl ds_ ?_; clear hs hm a; rintro - w hm a hs) | (refine dvc hs hm gw_ rfl rfl rfl rfl rfl (pl 40 rfl) (hus _) ?_; clear hs hm a; intro w hm a hs)) | refine sc_ ?_)
    obtain ⟨g9, en_⟩ := hs.pt 9 (by exact rfl); subst en_
    obtain ⟨g10, en_⟩ := hs.pt 10 (by exact rfl); subst en_
    have hdr0 : words.drop 0 = words := rfl
    have hM2 : Mm S0 wB (⟨some g10, 54, [.int .i64 (op : Int), .int .i64 0, .int .i64 0, .int .i64 0, .int .i64 0]⟩ :: ⟨some g9, 78, [.bool u1, .bool u2, .bool u3, .bool u4]⟩ :: [⟨some x.g, 93, [slv x.cA x.r.code.length x.cc, slv x.sA x.r.ss.length x.sc, slv x.dA x.ws.length x.dc, .map (some x.m), slv x.jA x.jp.length x.jc, slv x.lA x.ln.length x.lc, .bool x.r.last]⟩, ⟨x.cA, 54, x.ccs⟩, ⟨x.sA, 3, x.scs⟩, ⟨x.dA, 56, x.dcs⟩, ⟨x.jA, 9, x.jcs⟩, ⟨x.lA, 3, x.lcs⟩]) _ := hm
    clear hm
    have hm := hM2
    clear hM2
    refine cLoop (X := RiX) (fun X a w' => Sl Tryz.f72.ntmps [(0, .pointer (some ⟨x.g, 0, none⟩)), (1, .slice (some ⟨bw, ow, none⟩) (words.length + 1) c), (2, .int .i64 (line : Int)), (7, .int .i64 (op : Int)), (9, .pointer (some ⟨g9, 0, none⟩)), (10, .pointer (some ⟨g10, 0, none⟩)), (11, .int .i64 ((X.q + 1 : Nat) : Int)), (12, txv X.lab), (13, .int .i64 (if X.fl then 6 else 0)), (14, .int .i64 (X.f : Int))] a ∧ Mm S0 wB (⟨some g10, 54, [.int .i64 (op : Int), .int .i64 X.a1, .int .i64 X.a2, .int .i64 X.a3, .int .i64 X.m]⟩ :: ⟨some g9, 78, [.bool u1, .bool u2, .bool u3, .bool u4]⟩ :: [⟨some x.g, 93, [slv x.cA x.r.code.length x.cc, slv x.sA x.r.ss.length x.sc, slv x.dA x.ws.length x.dc, .map (some x.m), slv x.jA x.jp.length x.jc, slv x.lA x.ln.length x.lc, .bool x.r.last]⟩, ⟨x.cA, 54, x.ccs⟩, ⟨x.sA, 3, x.scs⟩, ⟨x.dA, 56, x.dcs⟩, ⟨x.jA, 9, x.jcs⟩, ⟨x.lA, 3, x.lcs⟩]) w' ∧ X.q ≤ words.length ∧ RiP op words X) (fun X => 4 - X.f) ⟨0, 0, 0, 0, 0, 0, false, []⟩ ⟨hs.sub (Has.all ⟨rfl, rfl, rfl, rfl, rfl, rfl, rfl, rfl, rfl, rfl, trivial⟩), hm, Nat.zero_le _, .inl ⟨Nat.zero_le _, rfl, rfl, rfl⟩⟩ ?_
    clear hs hm a
    rintro ⟨f, q, a1, a2, a3, m, fl, lab⟩ a w2 ⟨hs, hm, hq, hP⟩
    dsimp only at hs hm hq
    unfold RiP at hP
    dsimp only at hP
    rw [hu] at hP
    dsimp only at hP
    rcases hP with ⟨hf3, hk3, rfl, rfl⟩ | ⟨rfl, fl0, rest, hk3, hls, hfl⟩
    · by_cases f0 : f = 0
      · subst f0
        obtain ⟨rfl, rfl, rfl, hst⟩ := rk_st1 hk3
        rw [hu] at hst
        dsimp only at hst
        cases u1
        · rw [show ∀ w, tkR false [114] 7 w = some (0, false, w) from fun _ => rfl] at hst
          dsimp only at hst
          rw [Bool.or_false] at hst
          repeat (first | (refine ovXAtrw0_ ?_; clear hs a; intro a hs) | ((with_reducible apply lCons); first | (refine dv hs gw_ rfl rfl da_ ?_; clear hs hm a; rintro _ w ⟨g, rfl, -, hm⟩ a hs) | (refine stn hs rfl rfl ds_ ?_; clear hs hm a; rintro - w hm a hs)) | refine sc_ ?_)
          exact ⟨⟨0 + 1, q, _, _, _, 0, fl, []⟩, by dsimp only; omega, hs.sub (Has.all ⟨rfl, rfl, rfl, rfl, rfl, rfl, rfl, rfl, rfl, rfl, trivial⟩), hm, hq, .inl ⟨by dsimp only; omega, hst, rfl, rfl⟩⟩
        rw [show ∀ w, tkR true [114] 7 w = tkF [114] 7 w from fun _ => rfl] at hst
        by_cases hqe : q = words.length
        · rw [List.drop_of_length_le (by omega)] at hst
          replace hst : _ = none := hst
          have hF : (insF x.r (op : Int) words line).2 = 2 := ins_no (rk_no3 (rk_no2 hst))
          repeat (first | (refine oqXAtrw1_ ?_; clear hs a; intro a hs) | ((with_reducible apply lCons); first | (refine dv hs gw_ rfl rfl da_ ?_; clear hs hm a; rintro _ w ⟨g, rfl, -, hm⟩ a hs) | (refine stn hs rfl rfl ds_ ?_; clear hs hm a; rintro - w hm a hs)) | ((with_reducible apply qNil); clear hm; intro w hm) | refine cQ_ ?_ | refine sc_ ?_)
          exact gRet1 hs rfl rfl ⟨_, rfl, hF.symm, hm.fr, (fun e => by cases e), fun _ => (hm.sub sub_ : Mm S0 wB [⟨some x.g, 93, [slv x.cA x.r.code.length x.cc, slv x.sA x.r.ss.length x.sc, slv x.dA x.ws.length x.dc, .map (some x.m), slv x.jA x.jp.length x.jc, slv x.lA x.ln.length x.lc, .bool x.r.last]⟩, ⟨x.cA, 54, x.ccs⟩, ⟨x.sA, 3, x.scs⟩, ⟨x.dA, 56, x.dcs⟩, ⟨x.jA, 9, x.jcs⟩, ⟨x.lA, 3, x.lcs⟩] _)⟩
        have hql : q < words.length := by omega
        have e1 : ((hw :: words).map txv)[q + 1]? = some (txv words[q]) := by
          show (words.map txv)[q]? = _
          rw [List.getElem?_map, List.getElem?_eq_getElem hql]
          rfl
        have hsl := hlen _ (List.getElem_mem hql)
        rw [List.drop_eq_getElem_cons hql, tk_reg] at hst
        generalize words[q] = s at e1 hsl hst
        cases s with
        | nil =>
          replace hst : _ = none := hst
          have hF : (insF x.r (op : Int) words line).2 = 2 := ins_no (rk_no3 (rk_no2 hst))
          repeat (first | (refine oqXAtrw1_ ?_; clear hs a; intro a hs) | ((with_reducible apply lCons); first | (refine dv hs gw_ rfl rfl da_ ?_; clear hs hm a; rintro _ w ⟨g, rfl, -, hm⟩ a hs) | (refine stn hs rfl rfl ds_ ?_; clear hs hm a; rintro - w hm a hs)) | ((with_reducible apply qNil); clear hm; intro w hm) | refine cQ_ ?_ | refine sc_ ?_)
          rw [sEE] at hs
          repeat (first | (refine oqXAtrw1_ ?_; clear hs a; intro a hs) | ((with_reducible apply lCons); first | (refine dv hs gw_ rfl rfl da_ ?_; clear hs hm a; rintro _ w ⟨g, rfl, -, hm⟩ a hs) | (refine stn hs rfl rfl ds_ ?_; clear hs hm a; rintro - w hm a hs)) | ((with_reducible apply qNil); clear hm; intro w hm) | refine cQ_ ?_ | refine sc_ ?_)
          exact gRet1 hs rfl rfl ⟨_, rfl, hF.symm, hm.fr, (fun e => by cases e), fun _ => (hm.sub sub_ : Mm S0 wB [⟨some x.g, 93, [slv x.cA x.r.code.length x.cc, slv x.sA x.r.ss.length x.sc, slv x.dA x.ws.length x.dc, .map (some x.m), slv x.jA x.jp.length x.jc, slv x.lA x.ln.length x.lc, .bool x.r.last]⟩, ⟨x.cA, 54, x.ccs⟩, ⟨x.sA, 3, x.scs⟩, ⟨x.dA, 56, x.dcs⟩, ⟨x.jA, 9, x.jcs⟩, ⟨x.lA, 3, x.lcs⟩] _)⟩
        | cons c0 s =>
          have hne := sEqF (l := c0 :: s) (m := []) (by simp)
          have hc0 : (c0 :: s)[0]? = some c0 := rfl
          have h1l : 1 ≤ (c0 :: s).length := Nat.succ_le_succ (Nat.zero_le _)
          by_cases hc : c0 = 114
          case neg =>
            have hcn : c0.toNat ≠ 114 := fun e => hc (UInt8.toNat_inj.1 e)
            rw [if_neg (by rw [List.head?_cons]; exact fun e => hc (Option.some.inj e))] at hst
            replace hst : _ = none := hst
            have hF : (insF x.r (op : Int) words line).2 = 2 := ins_no (rk_no3 (rk_no2 hst))
            repeat (first | (refine oqXAtrw1_ ?_; clear hs a; intro a hs) | ((with_reducible apply lCons); first | (refine dv hs gw_ rfl rfl da_ ?_; clear hs hm a; rintro _ w ⟨g, rfl, -, hm⟩ a hs) | (refine stn hs rfl rfl ds_ ?_; clear hs hm a; rintro - w hm a hs)) | ((with_reducible apply qNil); clear hm; intro w hm) | refine cQ_ ?_ | refine sc_ ?_)
            rw [hne] at hs
            repeat (first | (refine oqXAtrw1_ ?_; clear hs a; intro a hs) | ((with_reducible apply lCons); first | (refine dv hs gw_ rfl rfl da_ ?_; clear hs hm a; rintro _ w ⟨g, rfl, -, hm⟩ a hs) | (refine stn hs rfl rfl ds_ ?_; clear hs hm a; rintro - w hm a hs)) | ((with_reducible apply qNil); clear hm; intro w hm) | refine cQ_ ?_ | refine sc_ ?_)
            exact gRet1 hs rfl rfl ⟨_, rfl, hF.symm, hm.fr, (fun e => by cases e), fun _ => (hm.sub sub_ : Mm S0 wB [⟨some x.g, 93, [slv x.cA x.r.code.length x.cc, slv x.sA x.r.ss.length x.sc, slv x.dA x.ws.length x.dc, .map (some x.m), slv x.jA x.jp.length x.jc, slv x.lA x.ln.length x.lc, .bool x.r.last]⟩, ⟨x.cA, 54, x.ccs⟩, ⟨x.sA, 3, x.scs⟩, ⟨x.dA, 56, x.dcs⟩, ⟨x.jA, 9, x.jcs⟩, ⟨x.lA, 3, x.lcs⟩] _)⟩
          have hcn : c0.toNat = 114 := by rw [hc]; rfl
          rw [if_pos (by rw [hc]; rfl), List.drop_succ_cons, List.drop_zero] at hst
          have hdr : (c0 :: s).drop 1 = s := rfl
          rw [List.length_cons] at hsl
          have hnum := fun w => number_c s w (by omega)
          cases hd : decF s with
          | none =>
            rw [nuF_none hd] at hnum
            rw [hd] at hst
            replace hst : _ = none := hst
            have hF : (insF x.r (op : Int) words line).2 = 2 := ins_no (rk_no3 (rk_no2 hst))
            repeat (first | (refine oqXAtrw1_ ?_; clear hs a; intro a hs) | ((with_reducible apply lCons); first | (refine dv hs gw_ rfl rfl da_ ?_; clear hs hm a; rintro _ w ⟨g, rfl, -, hm⟩ a hs) | (refine stn hs rfl rfl ds_ ?_; clear hs hm a; rintro - w hm a hs)) | ((with_reducible apply qNil); clear hm; intro w hm) | refine cQ_ ?_ | refine sc_ ?_)
            rw [hne] at hs
            repeat (first | (refine oqXAtrw1_ ?_; clear hs a; intro a hs) | ((with_reducible apply lCons); first | (refine dv hs gw_ rfl rfl da_ ?_; clear hs hm a; rintro _ w ⟨g, rfl, -, hm⟩ a hs) | (refine stn hs rfl rfl ds_ ?_; clear hs hm a; rintro - w hm a hs) | (refine dvc hs hm gw_ rfl rfl rfl rfl rfl (pl 87 rfl) (hnum _) ?_; clear hs hm a; intro w hm a hs)) | ((with_reducible apply qCons); first | (refine qwc hs gw_ rfl rfl rfl rfl rfl (pl 87 rfl) (fun w hm => hnum _) ?_; clear hs a; intro a hs)) | ((with_reducible apply qNil); clear hm; intro w hm) | refine cQ_ ?_ | refine sc_ ?_)
            exact gRet1 hs rfl rfl ⟨_, rfl, hF.symm, hm.fr, (fun e => by cases e), fun _ => (hm.sub sub_ : Mm S0 wB [⟨some x.g, 93, [slv x.cA x.r.code.length x.cc, slv x.sA x.r.ss.length x.sc, slv x.dA x.ws.length x.dc, .map (some x.m), slv x.jA x.jp.length x.jc, slv x.lA x.ln.length x.lc, .bool x.r.last]⟩, ⟨x.cA, 54, x.ccs⟩, ⟨x.sA, 3, x.scs⟩, ⟨x.dA, 56, x.dcs⟩, ⟨x.jA, 9, x.jcs⟩, ⟨x.lA, 3, x.lcs⟩] _)⟩
          | some n =>
            rw [nuF_some hd] at hnum
            rw [hd] at hst
            have hnb2 := decF_le hd
            dsimp only at hst
            by_cases h8 : 7 < n
            · rw [decide_eq_true h8, Bool.or_true] at hst
              repeat (first | (refine oqXAtrw1_ ?_; clear hs a; intro a hs) | ((with_reducible apply lCons); first | (refine dv hs gw_ rfl rfl da_ ?_; clear hs hm a; rintro _ w ⟨g, rfl, -, hm⟩ a hs) | (refine stn hs rfl rfl ds_ ?_; clear hs hm a; rintro - w hm a hs)) | ((with_reducible apply qNil); clear hm; intro w hm) | refine cQ_ ?_ | refine sc_ ?_)
              rw [hne] at hs
              repeat (first | (refine oqXAtrw1_ ?_; clear hs a; intro a hs) | ((with_reducible apply lCons); first | (refine dv hs gw_ rfl rfl da_ ?_; clear hs hm a; rintro _ w ⟨g, rfl, -, hm⟩ a hs) | (refine stn hs rfl rfl ds_ ?_; clear hs hm a; rintro - w hm a hs) | (refine dvc hs hm gw_ rfl rfl rfl rfl rfl (pl 87 rfl) (hnum _) ?_; clear hs hm a; intro w hm a hs)) | ((with_reducible apply qCons); first | (refine qwc hs gw_ rfl rfl rfl rfl rfl (pl 87 rfl) (fun w hm => hnum _) ?_; clear hs a; intro a hs)) | ((with_reducible apply qNil); clear hm; intro w hm) | refine cQ_ ?_ | refine sc_ ?_)
              exact ⟨⟨0 + 1, q + 1, n,0,0, 0, true, []⟩, by dsimp only; omega, hs.sub (Has.all ⟨rfl, rfl, rfl, rfl, rfl, rfl, rfl, rfl, rfl, rfl, trivial⟩), hm, by dsimp only; omega, .inl ⟨by dsimp only; omega, hst, rfl, rfl⟩⟩
            · rw [decide_eq_false h8, Bool.or_false] at hst
              repeat (first | (refine oqXAtrw1_ ?_; clear hs a; intro a hs) | ((with_reducible apply lCons); first | (refine dv hs gw_ rfl rfl da_ ?_; clear hs hm a; rintro _ w ⟨g, rfl, -, hm⟩ a hs) | (refine stn hs rfl rfl ds_ ?_; clear hs hm a; rintro - w hm a hs)) | ((with_reducible apply qNil); clear hm; intro w hm) | refine cQ_ ?_ | refine sc_ ?_)
              rw [hne] at hs
              repeat (first | (refine oqXAtrw1_ ?_; clear hs a; intro a hs) | ((with_reducible apply lCons); first | (refine dv hs gw_ rfl rfl da_ ?_; clear hs hm a; rintro _ w ⟨g, rfl, -, hm⟩ a hs) | (refine stn hs rfl rfl ds_ ?_; clear hs hm a; rintro - w hm a hs) | (refine dvc hs hm gw_ rfl rfl rfl rfl rfl (pl 87 rfl) (hnum _) ?_; clear hs hm a; intro w hm a hs)) | ((with_reducible apply qCons); first | (refine qwc hs gw_ rfl rfl rfl rfl rfl (pl 87 rfl) (fun w hm => hnum _) ?_; clear hs a; intro a hs)) | ((with_reducible apply qNil); clear hm; intro w hm) | refine cQ_ ?_ | refine sc_ ?_)
              exact ⟨⟨0 + 1, q + 1, n,0,0, 0, fl, []⟩, by dsimp only; omega, hs.sub (Has.all ⟨rfl, rfl, rfl, rfl, rfl, rfl, rfl, rfl, rfl, rfl, trivial⟩), hm, by dsimp only; omega, .inl ⟨by dsimp only; omega, hst, rfl, rfl⟩⟩
      by_cases f1 : f = 1
      · subst f1
        obtain ⟨rfl, rfl, hst⟩ := rk_st2 hk3
        rw [hu] at hst
        dsimp only at hst
        cases u2
        · rw [show ∀ w, tkR false [114] 7 w = some (0, false, w) from fun _ => rfl] at hst
          dsimp only at hst
          rw [Bool.or_false] at hst
          repeat (first | (refine ovXAtrw0_ ?_; clear hs a; intro a hs) | ((with_reducible apply lCons); first | (refine dv hs gw_ rfl rfl da_ ?_; clear hs hm a; rintro _ w ⟨g, rfl, -, hm⟩ a hs) | (refine stn hs rfl rfl ds_ ?_; clear hs hm a; rintro - w hm a hs)) | refine sc_ ?_)
          exact ⟨⟨1 + 1, q, _, _, _, 0, fl, []⟩, by dsimp only; omega, hs.sub (Has.all ⟨rfl, rfl, rfl, rfl, rfl, rfl, rfl, rfl, rfl, rfl, trivial⟩), hm, hq, .inl ⟨by dsimp only; omega, hst, rfl, rfl⟩⟩
        rw [show ∀ w, tkR true [114] 7 w = tkF [114] 7 w from fun _ => rfl] at hst
        by_cases hqe : q = words.length
        · rw [List.drop_of_length_le (by omega)] at hst
          replace hst : _ = none := hst
          have hF : (insF x.r (op : Int) words line).2 = 2 := ins_no (rk_no3 hst)
          repeat (first | (refine oqXAtrw1_ ?_; clear hs a; intro a hs) | ((with_reducible apply lCons); first | (refine dv hs gw_ rfl rfl da_ ?_; clear hs hm a; rintro _ w ⟨g, rfl, -, hm⟩ a hs) | (refine stn hs rfl rfl ds_ ?_; clear hs hm a; rintro - w hm a hs)) | ((with_reducible apply qNil); clear hm; intro w hm) | refine cQ_ ?_ | refine sc_ ?_)
          exact gRet1 hs rfl rfl ⟨_, rfl, hF.symm, hm.fr, (fun e => by cases e), fun _ => (hm.sub sub_ : Mm S0 wB [⟨some x.g, 93, [slv x.cA x.r.code.length x.cc, slv x.sA x.r.ss.length x.sc, slv x.dA x.ws.length x.dc, .map (some x.m), slv x.jA x.jp.length x.jc, slv x.lA x.ln.length x.lc, .bool x.r.last]⟩, ⟨x.cA, 54, x.ccs⟩, ⟨x.sA, 3, x.scs⟩, ⟨x.dA, 56, x.dcs⟩, ⟨x.jA, 9, x.jcs⟩, ⟨x.lA, 3, x.lcs⟩] _)⟩
        have hql : q < words.length := by omega
        have e1 : ((hw :: words).map txv)[q + 1]? = some (txv words[q]) := by
          show (words.map txv)[q]? = _
          rw [List.getElem?_map, List.getElem?_eq_getElem hql]
          rfl
        have hsl := hlen _ (List.getElem_mem hql)
        rw [List.drop_eq_getElem_cons hql, tk_reg] at hst
        generalize words[q] = s at e1 hsl hst
        cases s with
        | nil =>
          replace hst : _ = none := hst
          have hF : (insF x.r (op : Int) words line).2 = 2 := ins_no (rk_no3 hst)
          repeat (first | (refine oqXAtrw1_ ?_; clear hs a; intro a hs) | ((with_reducible apply lCons); first | (refine dv hs gw_ rfl rfl da_ ?_; clear hs hm a; rintro _ w ⟨g, rfl, -, hm⟩ a hs) | (refine stn hs rfl rfl ds_ ?_; clear hs hm a; rintro - w hm a hs)) | ((with_reducible apply qNil); clear hm; intro w hm) | refine cQ_ ?_ | refine sc_ ?_)
          rw [sEE] at hs
          repeat (first | (refine oqXAtrw1_ ?_; clear hs a; intro a hs) | ((with_reducible apply lCons); first | (refine dv hs gw_ rfl rfl da_ ?_; clear hs hm a; rintro _ w ⟨g, rfl, -, hm⟩ a hs) | (refine stn hs rfl rfl ds_ ?_; clear hs hm a; rintro - w hm a hs)) | ((with_reducible apply qNil); clear hm; intro w hm) | refine cQ_ ?_ | refine sc_ ?_)
          exact gRet1 hs rfl rfl ⟨_, rfl, hF.symm, hm.fr, (fun e => by cases e), fun _ => (hm.sub sub_ : Mm S0 wB [⟨some x.g, 93, [slv x.cA x.r.code.length x.cc, slv x.sA x.r.ss.length x.sc, slv x.dA x.ws.length x.dc, .map (some x.m), slv x.jA x.jp.length x.jc, slv x.lA x.ln.length x.lc, .bool x.r.last]⟩, ⟨x.cA, 54, x.ccs⟩, ⟨x.sA, 3, x.scs⟩, ⟨x.dA, 56, x.dcs⟩, ⟨x.jA, 9, x.jcs⟩, ⟨x.lA, 3, x.lcs⟩] _)⟩
        | cons c0 s =>
          have hne := sEqF (l := c0 :: s) (m := []) (by simp)
          have hc0 : (c0 :: s)[0]? = some c0 := rfl
          have h1l : 1 ≤ (c0 :: s).length := Nat.succ_le_succ (Nat.zero_le _)
          by_cases hc : c0 = 114
          case neg =>
            have hcn : c0.toNat ≠ 114 := fun e => hc (UInt8.toNat_inj.1 e)
            rw [if_neg (by rw [List.head?_cons]; exact fun e => hc (Option.some.inj e))] at hst
            replace hst : _ = none := hst
            have hF : (insF x.r (op : Int) words line).2 = 2 := ins_no (rk_no3 hst)
            repeat (first | (refine oqXAtrw1_ ?_; clear hs a; intro a hs) | ((with_reducible apply lCons); first | (refine dv hs gw_ rfl rfl da_ ?_; clear hs hm a; rintro _ w ⟨g, rfl, -, hm⟩ a hs) | (refine stn hs rfl rfl ds_ ?_; clear hs hm a; rintro - w hm a hs)) | ((with_reducible apply qNil); clear hm; intro w hm) | refine cQ_ ?_ | refine sc_ ?_)
            rw [hne] at hs
            repeat (first | (refine oqXAtrw1_ ?_; clear hs a; intro a hs) | ((with_reducible apply lCons); first | (refine dv hs gw_ rfl rfl da_ ?_; clear hs hm a; rintro _ w ⟨g, rfl, -, hm⟩ a hs) | (refine stn hs rfl rfl ds_ ?_; clear hs hm a; rintro - w hm a hs)) | ((with_reducible apply qNil); clear hm; intro w hm) | refine cQ_ ?_ | refine sc_ ?_)
            exact gRet1 hs rfl rfl ⟨_, rfl, hF.symm, hm.fr, (fun e => by cases e), fun _ => (hm.sub sub_ : Mm S0 wB [⟨some x.g, 93, [slv x.cA x.r.code.length x.cc, slv x.sA x.r.ss.length x.sc, slv x.dA x.ws.length x.dc, .map (some x.m), slv x.jA x.jp.length x.jc, slv x.lA x.ln.length x.lc, .bool x.r.last]⟩, ⟨x.cA, 54, x.ccs⟩, ⟨x.sA, 3, x.scs⟩, ⟨x.dA, 56, x.dcs⟩, ⟨x.jA, 9, x.jcs⟩, ⟨x.lA, 3, x.lcs⟩] _)⟩
          have hcn : c0.toNat = 114 := by rw [hc]; rfl
          rw [if_pos (by rw [hc]; rfl), List.drop_succ_cons, List.drop_zero] at hst
          have hdr : (c0 :: s).drop 1 = s := rfl
          rw [List.length_cons] at hsl
          have hnum := fun w => number_c s w (by omega)
          cases hd : decF s with
          | none =>
            rw [nuF_none hd] at hnum
            rw [hd] at hst
            replace hst : _ = none := hst
            have hF : (insF x.r (op : Int) words line).2 = 2 := ins_no (rk_no3 hst)
            repeat (first | (refine oqXAtrw1_ ?_; clear hs a; intro a hs) | ((with_reducible apply lCons); first | (refine dv hs gw_ rfl rfl da_ ?_; clear hs hm a; rintro _ w ⟨g, rfl, -, hm⟩ a hs) | (refine stn hs rfl rfl ds_ ?_; clear hs hm a; rintro - w hm a hs)) | ((with_reducible apply qNil); clear hm; intro w hm) | refine cQ_ ?_ | refine sc_ ?_)
            rw [hne] at hs
            repeat (first | (refine oqXAtrw1_ ?_; clear hs a; intro a hs) | ((with_reducible apply lCons); first | (refine dv hs gw_ rfl rfl da_ ?_; clear hs hm a; rintro _ w ⟨g, rfl, -, hm⟩ a hs) | (refine stn hs rfl rfl ds_ ?_; clear hs hm a; rintro - w hm a hs) | (refine dvc hs hm gw_ rfl rfl rfl rfl rfl (pl 87 rfl) (hnum _) ?_; clear hs hm a; intro w hm a hs)) | ((with_reducible apply qCons); first | (refine qwc hs gw_ rfl rfl rfl rfl rfl (pl 87 rfl) (fun w hm => hnum _) ?_; clear hs a; intro a hs)) | ((with_reducible apply qNil); clear hm; intro w hm) | refine cQ_ ?_ | refine sc_ ?_)
            exact gRet1 hs rfl rfl ⟨_, rfl, hF.symm, hm.fr, (fun e => by cases e), fun _ => (hm.sub sub_ : Mm S0 wB [⟨some x.g, 93, [slv x.cA x.r.code.length x.cc, slv x.sA x.r.ss.length x.sc, slv x.dA x.ws.length x.dc, .map (some x.m), slv x.jA x.jp.length x.jc, slv x.lA x.ln.length x.lc, .bool x.r.last]⟩, ⟨x.cA, 54, x.ccs⟩, ⟨x.sA, 3, x.scs⟩, ⟨x.dA, 56, x.dcs⟩, ⟨x.jA, 9, x.jcs⟩, ⟨x.lA, 3, x.lcs⟩] _)⟩
          | some n =>
            rw [nuF_some hd] at hnum
            rw [hd] at hst
            have hnb2 := decF_le hd
            dsimp only at hst
            by_cases h8 : 7 < n
            · rw [decide_eq_true h8, Bool.or_true] at hst
              repeat (first | (refine oqXAtrw1_ ?_; clear hs a; intro a hs) | ((with_reducible apply lCons); first | (refine dv hs gw_ rfl rfl da_ ?_; clear hs hm a; rintro _ w ⟨g, rfl, -, hm⟩ a hs) | (refine stn hs rfl rfl ds_ ?_; clear hs hm a; rintro - w hm a hs)) | ((with_reducible apply qNil); clear hm; intro w hm) | refine cQ_ ?_ | refine sc_ ?_)
              rw [hne] at hs
              repeat (first | (refine oqXAtrw1_ ?_; clear hs a; intro a hs) | ((with_reducible apply lCons); first | (refine dv hs gw_ rfl rfl da_ ?_; clear hs hm a; rintro _ w ⟨g, rfl, -, hm⟩ a hs) | (refine stn hs rfl rfl ds_ ?_; clear hs hm a; rintro - w hm a hs) | (refine dvc hs hm gw_ rfl rfl rfl rfl rfl (pl 87 rfl) (hnum _) ?_; clear hs hm a; intro w hm a hs)) | ((with_reducible apply qCons); first | (refine qwc hs gw_ rfl rfl rfl rfl rfl (pl 87 rfl) (fun w hm => hnum _) ?_; clear hs a; intro a hs)) | ((with_reducible apply qNil); clear hm; intro w hm) | refine cQ_ ?_ | refine sc_ ?_)
              exact ⟨⟨1 + 1, q + 1, a1,n,0, 0, true, []⟩, by dsimp only; omega, hs.sub (Has.all ⟨rfl, rfl, rfl, rfl, rfl, rfl, rfl, rfl, rfl, rfl, trivial⟩), hm, by dsimp only; omega, .inl ⟨by dsimp only; omega, hst, rfl, rfl⟩⟩
            · rw [decide_eq_false h8, Bool.or_false] at hst
              repeat (first | (refine oqXAtrw1_ ?_; clear hs a; intro a hs) | ((with_reducible apply lCons); first | (refine dv hs gw_ rfl rfl da_ ?_; clear hs hm a; rintro _ w ⟨g, rfl, -, hm⟩ a hs) | (refine stn hs rfl rfl ds_ ?_; clear hs hm a; rintro - w hm a hs)) | ((with_reducible apply qNil); clear hm; intro w hm) | refine cQ_ ?_ | refine sc_ ?_)
              rw [hne] at hs
              repeat (first | (refine oqXAtrw1_ ?_; clear hs a; intro a hs) | ((with_reducible apply lCons); first | (refine dv hs gw_ rfl rfl da_ ?_; clear hs hm a; rintro _ w ⟨g, rfl, -, hm⟩ a hs) | (refine stn hs rfl rfl ds_ ?_; clear hs hm a; rintro - w hm a hs) | (refine dvc hs hm gw_ rfl rfl rfl rfl rfl (pl 87 rfl) (hnum _) ?_; clear hs hm a; intro w hm a hs)) | ((with_reducible apply qCons); first | (refine qwc hs gw_ rfl rfl rfl rfl rfl (pl 87 rfl) (fun w hm => hnum _) ?_; clear hs a; intro a hs)) | ((with_reducible apply qNil); clear hm; intro w hm) | refine cQ_ ?_ | refine sc_ ?_)
              exact ⟨⟨1 + 1, q + 1, a1,n,0, 0, fl, []⟩, by dsimp only; omega, hs.sub (Has.all ⟨rfl, rfl, rfl, rfl, rfl, rfl, rfl, rfl, rfl, rfl, trivial⟩), hm, by dsimp only; omega, .inl ⟨by dsimp only; omega, hst, rfl, rfl⟩⟩
      by_cases f2 : f = 2
      · subst f2
        obtain ⟨rfl, hst⟩ := rk_st3 hk3
        rw [hu] at hst
        dsimp only at hst
        cases u3
        · rw [show ∀ w, tkR false [114] 7 w = some (0, false, w) from fun _ => rfl] at hst
          dsimp only at hst
          rw [Bool.or_false] at hst
          repeat (first | (refine ovXAtrw0_ ?_; clear hs a; intro a hs) | ((with_reducible apply lCons); first | (refine dv hs gw_ rfl rfl da_ ?_; clear hs hm a; rintro _ w ⟨g, rfl, -, hm⟩ a hs) | (refine stn hs rfl rfl ds_ ?_; clear hs hm a; rintro - w hm a hs)) | refine sc_ ?_)
          exact ⟨⟨2 + 1, q, _, _, _, 0, fl, []⟩, by dsimp only; omega, hs.sub (Has.all ⟨rfl, rfl, rfl, rfl, rfl, rfl, rfl, rfl, rfl, rfl, trivial⟩), hm, hq, .inl ⟨by dsimp only; omega, hst, rfl, rfl⟩⟩
        rw [show ∀ w, tkR true [114] 7 w = tkF [114] 7 w from fun _ => rfl] at hst
        by_cases hqe : q = words.length
        · rw [List.drop_of_length_le (by omega)] at hst
          replace hst : _ = none := hst
          have hF : (insF x.r (op : Int) words line).2 = 2 := ins_no hst
          repeat (first | (refine oqXAtrw1_ ?_; clear hs a; intro a hs) | ((with_reducible apply lCons); first | (refine dv hs gw_ rfl rfl da_ ?_; clear hs hm a; rintro _ w ⟨g, rfl, -, hm⟩ a hs) | (refine stn hs rfl rfl ds_ ?_; clear hs hm a; rintro - w hm a hs)) | ((with_reducible apply qNil); clear hm; intro w hm) | refine cQ_ ?_ | refine sc_ ?_)
          exact gRet1 hs rfl rfl ⟨_, rfl, hF.symm, hm.fr, (fun e => by cases e), fun _ => (hm.sub sub_ : Mm S0 wB [⟨some x.g, 93, [slv x.cA x.r.code.length x.cc, slv x.sA x.r.ss.length x.sc, slv x.dA x.ws.length x.dc, .map (some x.m), slv x.jA x.jp.length x.jc, slv x.lA x.ln.length x.lc, .bool x.r.last]⟩, ⟨x.cA, 54, x.ccs⟩, ⟨x.sA, 3, x.scs⟩, ⟨x.dA, 56, x.dcs⟩, ⟨x.jA, 9, x.jcs⟩, ⟨x.lA, 3, x.lcs⟩] _)⟩
        have hql : q < words.length := by omega
        have e1 : ((hw :: words).map txv)[q + 1]? = some (txv words[q]) := by
          show (words.map txv)[q]? = _
          rw [List.getElem?_map, List.getElem?_eq_getElem hql]
          rfl
        have hsl := hlen _ (List.getElem_mem hql)
        rw [List.drop_eq_getElem_cons hql, tk_reg] at hst
        generalize words[q] = s at e1 hsl hst
        cases s with
        | nil =>
          replace hst : _ = none := hst
          have hF : (insF x.r (op : Int) words line).2 = 2 := ins_no hst
          repeat (first | (refine oqXAtrw1_ ?_; clear hs a; intro a hs) | ((with_reducible apply lCons); first | (refine dv hs gw_ rfl rfl da_ ?_; clear hs hm a; rintro _ w ⟨g, rfl, -, hm⟩ a hs) | (refine stn hs rfl rfl ds_ ?_; clear hs hm a; rintro - w hm a hs)) | ((with_reducible apply qNil); clear hm; intro w hm) | refine cQ_ ?_ | refine sc_ ?_)
          rw [sEE] at hs
          repeat (first | (refine oqXAtrw1_ ?_; clear hs a; intro a hs) | ((with_reducible apply lCons); first | (refine dv hs gw_ rfl rfl da_ ?_; clear hs hm a; rintro _ w ⟨g, rfl, -, hm⟩ a hs) | (refine stn hs rfl rfl ds_ ?_; clear hs hm a; rintro - w hm a hs)) | ((with_reducible apply qNil); clear hm; intro w hm) | refine cQ_ ?_ | refine sc_ ?_)
          exact gRet1 hs rfl rfl ⟨_, rfl, hF.symm, hm.fr, (fun e => by cases e), fun _ => (hm.sub sub_ : Mm S0 wB [⟨some x.g, 93, [slv x.cA x.r.code.length x.cc, slv x.sA x.r.ss.length x.sc, slv x.dA x.ws.length x.dc, .map (some x.m), slv x.jA x.jp.length x.jc, slv x.lA x.ln.length x.lc, .bool x.r.last]⟩, ⟨x.cA, 54, x.ccs⟩, ⟨x.sA, 3, x.scs⟩, ⟨x.dA, 56, x.dcs⟩, ⟨x.jA, 9, x.jcs⟩, ⟨x.lA, 3, x.lcs⟩] _)⟩
        | cons c0 s =>
          have hne := sEqF (l := c0 :: s) (m := []) (by simp)
          have hc0 : (c0 :: s)[0]? = some c0 := rfl
          have h1l : 1 ≤ (c0 :: s).length := Nat.succ_le_succ (Nat.zero_le _)
          by_cases hc : c0 = 114
          case neg =>
            have hcn : c0.toNat ≠ 114 := fun e => hc (UInt8.toNat_inj.1 e)
            rw [if_neg (by rw [List.head?_cons]; exact fun e => hc (Option.some.inj e))] at hst
            replace hst : _ = none := hst
            have hF : (insF x.r (op : Int) words line).2 = 2 := ins_no hst
            repeat (first | (refine oqXAtrw1_ ?_; clear hs a; intro a hs) | ((with_reducible apply lCons); first | (refine dv hs gw_ rfl rfl da_ ?_; clear hs hm a; rintro _ w ⟨g, rfl, -, hm⟩ a hs) | (refine stn hs rfl rfl ds_ ?_; clear hs hm a; rintro - w hm a hs)) | ((with_reducible apply qNil); clear hm; intro w hm) | refine cQ_ ?_ | refine sc_ ?_)
            rw [hne] at hs
            repeat (first | (refine oqXAtrw1_ ?_; clear hs a; intro a hs) | ((with_reducible apply lCons); first | (refine dv hs gw_ rfl rfl da_ ?_; clear hs hm a; rintro _ w ⟨g, rfl, -, hm⟩ a hs) | (refine stn hs rfl rfl ds_ ?_; clear hs hm a; rintro - w hm a hs)) | ((with_reducible apply qNil); clear hm; intro w hm) | refine cQ_ ?_ | refine sc_ ?_)
            exact gRet1 hs rfl rfl ⟨_, rfl, hF.symm, hm.fr, (fun e => by cases e), fun _ => (hm.sub sub_ : Mm S0 wB [⟨some x.g, 93, [slv x.cA x.r.code.length x.cc, slv x.sA x.r.ss.length x.sc, slv x.dA x.ws.length x.dc, .map (some x.m), slv x.jA x.jp.length x.jc, slv x.lA x.ln.length x.lc, .bool x.r.last]⟩, ⟨x.cA, 54, x.ccs⟩, ⟨x.sA, 3, x.scs⟩, ⟨x.dA, 56, x.dcs⟩, ⟨x.jA, 9, x.jcs⟩, ⟨x.lA, 3, x.lcs⟩] _)⟩
          have hcn : c0.toNat = 114 := by rw [hc]; rfl
          rw [if_pos (by rw [hc]; rfl), List.drop_succ_cons, List.drop_zero] at hst
          have hdr : (c0 :: s).drop 1 = s := rfl
          rw [List.length_cons] at hsl
          have hnum := fun w => number_c s w (by omega)
          cases hd : decF s with
          | none =>
            rw [nuF_none hd] at hnum
            rw [hd] at hst
            replace hst : _ = none := hst
            have hF : (insF x.r (op : Int) words line).2 = 2 := ins_no hst
            repeat (first | (refine oqXAtrw1_ ?_; clear hs a; intro a hs) | ((with_reducible apply lCons); first | (refine dv hs gw_ rfl rfl da_ ?_; clear hs hm a; rintro _ w ⟨g, rfl, -, hm⟩ a hs) | (refine stn hs rfl rfl ds_ ?_; clear hs hm a; rintro - w hm a hs)) | ((with_reducible apply qNil); clear hm; intro w hm) | refine cQ_ ?_ | refine sc_ ?_)
            rw [hne] at hs
            repeat (first | (refine oqXAtrw1_ ?_; clear hs a; intro a hs) | ((with_reducible apply lCons); first | (refine dv hs gw_ rfl rfl da_ ?_; clear hs hm a; rintro _ w ⟨g, rfl, -, hm⟩ a hs) | (refine stn hs rfl rfl ds_ ?_; clear hs hm a; rintro - w hm a hs) | (refine dvc hs hm gw_ rfl rfl rfl rfl rfl (pl 87 rfl) (hnum _) ?_; clear hs hm a; intro w hm a hs)) | ((with_reducible apply qCons); first | (refine qwc hs gw_ rfl rfl rfl rfl rfl (pl 87 rfl) (fun w hm => hnum _) ?_; clear hs a; intro a hs)) | ((with_reducible apply qNil); clear hm; intro w hm) | refine cQ_ ?_ | refine sc_ ?_)
            exact gRet1 hs rfl rfl ⟨_, rfl, hF.symm, hm.fr, (fun e => by cases e), fun _ => (hm.sub sub_ : Mm S0 wB [⟨some x.g, 93, [slv x.cA x.r.code.length x.cc, slv x.sA x.r.ss.length x.sc, slv x.dA x.ws.length x.dc, .map (some x.m), slv x.jA x.jp.length x.jc, slv x.lA x.ln.length x.lc, .bool x.r.last]⟩, ⟨x.cA, 54, x.ccs⟩, ⟨x.sA, 3, x.scs⟩, ⟨x.dA, 56, x.dcs⟩, ⟨x.jA, 9, x.jcs⟩, ⟨x.lA, 3, x.lcs⟩] _)⟩
          | some n =>
            rw [nuF_some hd] at hnum
            rw [hd] at hst
            have hnb2 := decF_le hd
            dsimp only at hst
            by_cases h8 : 7 < n
            · rw [decide_eq_true h8, Bool.or_true] at hst
              repeat (first | (refine oqXAtrw1_ ?_; clear hs a; intro a hs) | ((with_reducible apply lCons); first | (refine dv hs gw_ rfl rfl da_ ?_; clear hs hm a; rintro _ w ⟨g, rfl, -, hm⟩ a hs) | (refine stn hs rfl rfl ds_ ?_; clear hs hm a; rintro - w hm a hs)) | ((with_reducible apply qNil); clear hm; intro w hm) | refine cQ_ ?_ | refine sc_ ?_)
              rw [hne] at hs
              repeat (first | (refine oqXAtrw1_ ?_; clear hs a; intro a hs) | ((with_reducible apply lCons); first | (refine dv hs gw_ rfl rfl da_ ?_; clear hs hm a; rintro _ w ⟨g, rfl, -, hm⟩ a hs) | (refine stn hs rfl rfl ds_ ?_; clear hs hm a; rintro - w hm a hs) | (refine dvc hs hm gw_ rfl rfl rfl rfl rfl (pl 87 rfl) (hnum _) ?_; clear hs hm a; intro w hm a hs)) | ((with_reducible apply qCons); first | (refine qwc hs gw_ rfl rfl rfl rfl rfl (pl 87 rfl) (fun w hm => hnum _) ?_; clear hs a; intro a hs)) | ((with_reducible apply qNil); clear hm; intro w hm) | refine cQ_ ?_ | refine sc_ ?_)
              exact ⟨⟨2 + 1, q + 1, a1,a2,n, 0, true, []⟩, by dsimp only; omega, hs.sub (Has.all ⟨rfl, rfl, rfl, rfl, rfl, rfl, rfl, rfl, rfl, rfl, trivial⟩), hm, by dsimp only; omega, .inl ⟨by dsimp only; omega, hst, rfl, rfl⟩⟩
            · rw [decide_eq_false h8, Bool.or_false] at hst
              repeat (first | (refine oqXAtrw1_ ?_; clear hs a; intro a hs) | ((with_reducible apply lCons); first | (refine dv hs gw_ rfl rfl da_ ?_; clear hs hm a; rintro _ w ⟨g, rfl, -, hm⟩ a hs) | (refine stn hs rfl rfl ds_ ?_; clear hs hm a; rintro - w hm a hs)) | ((with_reducible apply qNil); clear hm; intro w hm) | refine cQ_ ?_ | refine sc_ ?_)
              rw [hne] at hs
              repeat (first | (refine oqXAtrw1_ ?_; clear hs a; intro a hs) | ((with_reducible apply lCons); first | (refine dv hs gw_ rfl rfl da_ ?_; clear hs hm a; rintro _ w ⟨g, rfl, -, hm⟩ a hs) | (refine stn hs rfl rfl ds_ ?_; clear hs hm a; rintro - w hm a hs) | (refine dvc hs hm gw_ rfl rfl rfl rfl rfl (pl 87 rfl) (hnum _) ?_; clear hs hm a; intro w hm a hs)) | ((with_reducible apply qCons); first | (refine qwc hs gw_ rfl rfl rfl rfl rfl (pl 87 rfl) (fun w hm => hnum _) ?_; clear hs a; intro a hs)) | ((with_reducible apply qNil); clear hm; intro w hm) | refine cQ_ ?_ | refine sc_ ?_)
              exact ⟨⟨2 + 1, q + 1, a1,a2,n, 0, fl, []⟩, by dsimp only; omega, hs.sub (Has.all ⟨rfl, rfl, rfl, rfl, rfl, rfl, rfl, rfl, rfl, rfl, trivial⟩), hm, by dsimp only; omega, .inl ⟨by dsimp only; omega, hst, rfl, rfl⟩⟩
      obtain rfl : f = 3 := by omega
      have hu4 : (usesF (op : Int)).2.2.2 = u4 := by rw [hu]
      cases u4
      · repeat (first | (refine ovXAtrw0_ ?_; clear hs a; intro a hs) | ((with_reducible apply lCons); first | (refine dv hs gw_ rfl rfl da_ ?_; clear hs hm a; rintro _ w ⟨g, rfl, -, hm⟩ a hs) | (refine stn hs rfl rfl ds_ ?_; clear hs hm a; rintro - w hm a hs)) | refine sc_ ?_)
        exact ⟨⟨4, q, a1, a2, a3, 0, fl, []⟩, by dsimp only; omega, hs.sub (Has.all ⟨rfl, rfl, rfl, rfl, rfl, rfl, rfl, rfl, rfl, rfl, trivial⟩), hm, hq, .inr ⟨rfl, fl, words.drop q, hk3, by rw [hu4]; rfl, by rw [show decide ((65535 : Int) < 0) = false from rfl, Bool.or_false]⟩⟩
      by_cases hqe : q = words.length
      · have hF : (insF x.r (op : Int) words line).2 = 2 := ins_no2 hk3 (by rw [hu4, List.drop_of_length_le (by omega)]; exact lstR_nil _)
        repeat (first | (refine oqXAtrw1_ ?_; clear hs a; intro a hs) | ((with_reducible apply lCons); first | (refine dv hs gw_ rfl rfl da_ ?_; clear hs hm a; rintro _ w ⟨g, rfl, -, hm⟩ a hs) | (refine stn hs rfl rfl ds_ ?_; clear hs hm a; rintro - w hm a hs)) | ((with_reducible apply qNil); clear hm; intro w hm) | refine cQ_ ?_ | refine sc_ ?_)
        exact gRet1 hs rfl rfl ⟨_, rfl, hF.symm, hm.fr, (fun e => by cases e), fun _ => (hm.sub sub_ : Mm S0 wB [⟨some x.g, 93, [slv x.cA x.r.code.length x.cc, slv x.sA x.r.ss.length x.sc, slv x.dA x.ws.length x.dc, .map (some x.m), slv x.jA x.jp.length x.jc, slv x.lA x.ln.length x.lc, .bool x.r.last]⟩, ⟨x.cA, 54, x.ccs⟩, ⟨x.sA, 3, x.scs⟩, ⟨x.dA, 56, x.dcs⟩, ⟨x.jA, 9, x.jcs⟩, ⟨x.lA, 3, x.lcs⟩] _)⟩
      have hql : q < words.length := by omega
      have e1 : ((hw :: words).map txv)[q + 1]? = some (txv words[q]) := by
        show (words.map txv)[q]? = _
        rw [List.getElem?_map, List.getElem?_eq_getElem hql]
        rfl
      have hsl := hlen _ (List.getElem_mem hql)
      have hdq := List.drop_eq_getElem_cons hql
      generalize words[q] = s at e1 hsl hdq
      cases jb
      · have hL := lstR_num hjb s (words.drop (q + 1))
        rw [← hdq] at hL
        have hnum := fun w => number_c s w (by omega)
        cases hd : decF s with
        | none =>
          rw [nuF_none hd] at hnum
          rw [hd] at hL
          have hF : (insF x.r (op : Int) words line).2 = 2 := ins_no2 hk3 (by rw [hu4]; exact hL)
          repeat (first | (refine oqXAtrw1_ ?_; clear hs a; intro a hs) | ((with_reducible apply lCons); first | (refine dv hs gw_ rfl rfl da_ ?_; clear hs hm a; rintro _ w ⟨g, rfl, -, hm⟩ a hs) | (refine stn hs rfl rfl ds_ ?_; clear hs hm a; rintro - w hm a hs) | (refine dvc hs hm gw_ rfl rfl rfl rfl rfl (pl 31 rfl) (hjm _) ?_; clear hs hm a; intro w hm a hs) | (refine dvc hs hm gw_ rfl rfl rfl rfl rfl (pl 87 rfl) (hnum _) ?_; clear hs hm a; intro w hm a hs)) | ((with_reducible apply qCons); first | (refine qwc hs gw_ rfl rfl rfl rfl rfl (pl 31 rfl) (fun w hm => hjm _) ?_; clear hs a; intro a hs) | (refine qwc hs gw_ rfl rfl rfl rfl rfl (pl 87 rfl) (fun w hm => hnum _) ?_; clear hs a; intro a hs)) | ((with_reducible apply qNil); clear hm; intro w hm) | refine cQ_ ?_ | refine sc_ ?_)
          exact gRet1 hs rfl rfl ⟨_, rfl, hF.symm, hm.fr, (fun e => by cases e), fun _ => (hm.sub sub_ : Mm S0 wB [⟨some x.g, 93, [slv x.cA x.r.code.length x.cc, slv x.sA x.r.ss.length x.sc, slv x.dA x.ws.length x.dc, .map (some x.m), slv x.jA x.jp.length x.jc, slv x.lA x.ln.length x.lc, .bool x.r.last]⟩, ⟨x.cA, 54, x.ccs⟩, ⟨x.sA, 3, x.scs⟩, ⟨x.dA, 56, x.dcs⟩, ⟨x.jA, 9, x.jcs⟩, ⟨x.lA, 3, x.lcs⟩] _)⟩
        | some n =>
          rw [nuF_some hd] at hnum
          rw [hd] at hL
          dsimp only at hL
          have hnb2 := decF_le hd
          by_cases h8 : 65535 < n
          · repeat (first | (refine oqXAtrw1_ ?_; clear hs a; intro a hs) | ((with_reducible apply lCons); first | (refine dv hs gw_ rfl rfl da_ ?_; clear hs hm a; rintro _ w ⟨g, rfl, -, hm⟩ a hs) | (refine stn hs rfl rfl ds_ ?_; clear hs hm a; rintro - w hm a hs) | (refine dvc hs hm gw_ rfl rfl rfl rfl rfl (pl 31 rfl) (hjm _) ?_; clear hs hm a; intro w hm a hs) | (refine dvc hs hm gw_ rfl rfl rfl rfl rfl (pl 87 rfl) (hnum _) ?_; clear hs hm a; intro w hm a hs)) | ((with_reducible apply qCons); first | (refine qwc hs gw_ rfl rfl rfl rfl rfl (pl 31 rfl) (fun w hm => hjm _) ?_; clear hs a; intro a hs) | (refine qwc hs gw_ rfl rfl rfl rfl rfl (pl 87 rfl) (fun w hm => hnum _) ?_; clear hs a; intro a hs)) | ((with_reducible apply qNil); clear hm; intro w hm) | refine cQ_ ?_ | refine sc_ ?_)
            exact ⟨⟨4, q + 1, a1, a2, a3, n, true, []⟩, by dsimp only; omega, hs.sub (Has.all ⟨rfl, rfl, rfl, rfl, rfl, rfl, rfl, rfl, rfl, rfl, trivial⟩), hm, by dsimp only; omega, .inr ⟨rfl, fl, words.drop q, hk3, by rw [hu4]; exact hL, by dsimp only; rw [decide_eq_true h8, Bool.or_true]⟩⟩
          · repeat (first | (refine oqXAtrw1_ ?_; clear hs a; intro a hs) | ((with_reducible apply lCons); first | (refine dv hs gw_ rfl rfl da_ ?_; clear hs hm a; rintro _ w ⟨g, rfl, -, hm⟩ a hs) | (refine stn hs rfl rfl ds_ ?_; clear hs hm a; rintro - w hm a hs) | (refine dvc hs hm gw_ rfl rfl rfl rfl rfl (pl 31 rfl) (hjm _) ?_; clear hs hm a; intro w hm a hs) | (refine dvc hs hm gw_ rfl rfl rfl rfl rfl (pl 87 rfl) (hnum _) ?_; clear hs hm a; intro w hm a hs)) | ((with_reducible apply qCons); first | (refine qwc hs gw_ rfl rfl rfl rfl rfl (pl 31 rfl) (fun w hm => hjm _) ?_; clear hs a; intro a hs) | (refine qwc hs gw_ rfl rfl rfl rfl rfl (pl 87 rfl) (fun w hm => hnum _) ?_; clear hs a; intro a hs)) | ((with_reducible apply qNil); clear hm; intro w hm) | refine cQ_ ?_ | refine sc_ ?_)
            exact ⟨⟨4, q + 1, a1, a2, a3, n, fl, []⟩, by dsimp only; omega, hs.sub (Has.all ⟨rfl, rfl, rfl, rfl, rfl, rfl, rfl, rfl, rfl, rfl, trivial⟩), hm, by dsimp only; omega, .inr ⟨rfl, fl, words.drop q, hk3, by rw [hu4]; exact hL, by dsimp only; rw [decide_eq_false h8, Bool.or_false]⟩⟩
      · have hL := lstR_jmp hjb s (words.drop (q + 1))
        rw [← hdq] at hL
        have hlb := fun w => rlab_c s w (by omega)
        cases hnm2 : nmB s
        · rw [hnm2] at hlb hL
          have hF : (insF x.r (op : Int) words line).2 = 2 := ins_no2 hk3 (by rw [hu4]; exact hL)
          repeat (first | (refine oqXAtrw1_ ?_; clear hs a; intro a hs) | ((with_reducible apply lCons); first | (refine dv hs gw_ rfl rfl da_ ?_; clear hs hm a; rintro _ w ⟨g, rfl, -, hm⟩ a hs) | (refine stn hs rfl rfl ds_ ?_; clear hs hm a; rintro - w hm a hs) | (refine dvc hs hm gw_ rfl rfl rfl rfl rfl (pl 31 rfl) (hjm _) ?_; clear hs hm a; intro w hm a hs) | (refine dvc hs hm gw_ rfl rfl rfl rfl rfl (pl 70 rfl) (hlb _) ?_; clear hs hm a; intro w hm a hs)) | ((with_reducible apply qCons); first | (refine qwc hs gw_ rfl rfl rfl rfl rfl (pl 31 rfl) (fun w hm => hjm _) ?_; clear hs a; intro a hs) | (refine qwc hs gw_ rfl rfl rfl rfl rfl (pl 70 rfl) (fun w hm => hlb _) ?_; clear hs a; intro a hs)) | ((with_reducible apply qNil); clear hm; intro w hm) | refine cQ_ ?_ | refine sc_ ?_)
          exact gRet1 hs rfl rfl ⟨_, rfl, hF.symm, hm.fr, (fun e => by cases e), fun _ => (hm.sub sub_ : Mm S0 wB [⟨some x.g, 93, [slv x.cA x.r.code.length x.cc, slv x.sA x.r.ss.length x.sc, slv x.dA x.ws.length x.dc, .map (some x.m), slv x.jA x.jp.length x.jc, slv x.lA x.ln.length x.lc, .bool x.r.last]⟩, ⟨x.cA, 54, x.ccs⟩, ⟨x.sA, 3, x.scs⟩, ⟨x.dA, 56, x.dcs⟩, ⟨x.jA, 9, x.jcs⟩, ⟨x.lA, 3, x.lcs⟩] _)⟩
        · rw [hnm2] at hlb hL
          repeat (first | (refine oqXAtrw1_ ?_; clear hs a; intro a hs) | ((with_reducible apply lCons); first | (refine dv hs gw_ rfl rfl da_ ?_; clear hs hm a; rintro _ w ⟨g, rfl, -, hm⟩ a hs) | (refine stn hs rfl rfl ds_ ?_; clear hs hm a; rintro - w hm a hs) | (refine dvc hs hm gw_ rfl rfl rfl rfl rfl (pl 31 rfl) (hjm _) ?_; clear hs hm a; intro w hm a hs) | (refine dvc hs hm gw_ rfl rfl rfl rfl rfl (pl 70 rfl) (hlb _) ?_; clear hs hm a; intro w hm a hs)) | ((with_reducible apply qCons); first | (refine qwc hs gw_ rfl rfl rfl rfl rfl (pl 31 rfl) (fun w hm => hjm _) ?_; clear hs a; intro a hs) | (refine qwc hs gw_ rfl rfl rfl rfl rfl (pl 70 rfl) (fun w hm => hlb _) ?_; clear hs a; intro a hs)) | ((with_reducible apply qNil); clear hm; intro w hm) | refine cQ_ ?_ | refine sc_ ?_)
          exact ⟨⟨4, q + 1, a1, a2, a3, 0, fl, s⟩, by dsimp only; omega, hs.sub (Has.all ⟨rfl, rfl, rfl, rfl, rfl, rfl, rfl, rfl, rfl, rfl, trivial⟩), hm, by dsimp only; omega, .inr ⟨rfl, fl, words.drop q, hk3, by rw [hu4]; exact hL, by dsimp only; rw [show decide ((65535 : Int) < 0) = false from rfl, Bool.or_false]⟩⟩
    have hu4 : (usesF (op : Int)).2.2.2 = u4 := by rw [hu]
    rw [← hu4] at hls
    by_cases hqe : q = words.length
    case neg =>
      have hql : q < words.length := by omega
      have hF : (insF x.r (op : Int) words line).2 = 2 := ins_no3 hk3 hls (fun e => by have h1 := congrArg List.length e; rw [List.length_drop, List.length_nil] at h1; omega)
      repeat (first | (refine oqXAtrw1_ ?_; clear hs a; intro a hs) | ((with_reducible apply lCons); first | (refine dv hs gw_ rfl rfl da_ ?_; clear hs hm a; rintro _ w ⟨g, rfl, -, hm⟩ a hs) | (refine stn hs rfl rfl ds_ ?_; clear hs hm a; rintro - w hm a hs)) | ((with_reducible apply qNil); clear hm; intro w hm) | refine cQ_ ?_ | refine sc_ ?_)
      exact gRet1 hs rfl rfl ⟨_, rfl, hF.symm, hm.fr, (fun e => by cases e), fun _ => (hm.sub sub_ : Mm S0 wB [⟨some x.g, 93, [slv x.cA x.r.code.length x.cc, slv x.sA x.r.ss.length x.sc, slv x.dA x.ws.length x.dc, .map (some x.m), slv x.jA x.jp.length x.jc, slv x.lA x.ln.length x.lc, .bool x.r.last]⟩, ⟨x.cA, 54, x.ccs⟩, ⟨x.sA, 3, x.scs⟩, ⟨x.dA, 56, x.dcs⟩, ⟨x.jA, 9, x.jcs⟩, ⟨x.lA, 3, x.lcs⟩] _)⟩
    subst hqe
    rw [List.drop_of_length_le (Nat.le_refl _)] at hls
    have hfe := fl_iff (fl0 := fl0) hls z2
    have hgo := ins_go (r := x.r) (k := line) hk3 hls
    rw [← hfl] at hfe
    have h6 : (fl = true ∨ ((op : Int) = 15 ∧ (x.r.ss.length : Int) ≤ m) ∨ ((op : Int) = 23 ∧ 15 < m)) ∨ 64 ≤ x.r.code.length → (insF x.r (op : Int) words line).2 = 6 := fun h => by rw [hgo, if_pos (h.imp hfe.2 id)]
    have hok : ¬ ((fl = true ∨ ((op : Int) = 15 ∧ (x.r.ss.length : Int) ≤ m) ∨ ((op : Int) = 23 ∧ 15 < m)) ∨ 64 ≤ x.r.code.length) → insF x.r (op : Int) words line = ({ x.r with code := x.r.code ++ [⟨(op : Int), a1, a2, a3, m⟩], js := if lab = [] then x.r.js else x.r.js ++ [(x.r.code.length, line, lab)] }, 0) := fun h => by rw [hgo, if_neg (fun e => h (e.imp hfe.1 id))]
    clear hgo hfe hfl hk3 hls
    obtain ⟨fb, hfb⟩ : ∃ b : Bool, b = true ↔ ((fl = true ∨ ((op : Int) = 15 ∧ (x.r.ss.length : Int) ≤ m) ∨ ((op : Int) = 23 ∧ 15 < m)) ∨ 64 ≤ x.r.code.length) := ⟨decide _, decide_eq_true_iff⟩
    repeat (first | (refine ovXAtrw0_ ?_; clear hs a; intro a hs) | ((with_reducible apply lCons); first | (refine dv hs gw_ rfl rfl da_ ?_; clear hs hm a; rintro _ w ⟨g, rfl, -, hm⟩ a hs) | (refine stn hs rfl rfl ds_ ?_; clear hs hm a; rintro - w hm a hs)) | refine sc_ ?_)
    refine cMid (fun a w => Sl Tryz.f72.ntmps [(0, .pointer (some ⟨x.g, 0, none⟩)), (1, .slice (some ⟨bw, ow, none⟩) (words.length + 1) c), (2, .int .i64 (line : Int)), (7, .int .i64 (op : Int)), (10, .pointer (some ⟨g10, 0, none⟩)), (12, txv lab), (142, .bool fb)] a ∧ Mm S0 wB (⟨some g10, 54, [.int .i64 (op : Int), .int .i64 a1, .int .i64 a2, .int .i64 a3, .int .i64 m]⟩ :: ⟨some g9, 78, [.bool u1, .bool u2, .bool u3, .bool u4]⟩ :: [⟨some x.g, 93, [slv x.cA x.r.code.length x.cc, slv x.sA x.r.ss.length x.sc, slv x.dA x.ws.length x.dc, .map (some x.m), slv x.jA x.jp.length x.jc, slv x.lA x.ln.length x.lc, .bool x.r.last]⟩, ⟨x.cA, 54, x.ccs⟩, ⟨x.sA, 3, x.scs⟩, ⟨x.dA, 56, x.dcs⟩, ⟨x.jA, 9, x.jcs⟩, ⟨x.lA, 3, x.lcs⟩]) w) ?_ ?_
    · cases fl
      case true =>
        obtain rfl : fb = true := hfb.2 (.inl (.inl rfl))
        rw [show (if true = true then (6 : Int) else 0) = 6 from rfl] at hs
        repeat (first | (refine oqXAtrw1_ ?_; clear hs a; intro a hs) | ((with_reducible apply lCons); first | (refine dv hs gw_ rfl rfl da_ ?_; clear hs hm a; rintro _ w ⟨g, rfl, -, hm⟩ a hs) | (refine stn hs rfl rfl ds_ ?_; clear hs hm a; rintro - w hm a hs)) | ((with_reducible apply qNil); clear hm; intro w hm) | refine cQ_ ?_ | refine sc_ ?_)
        exact And.intro rfl ⟨hs.sub (Has.all ⟨rfl, rfl, rfl, rfl, rfl, rfl, rfl, trivial⟩), hm⟩
      rw [show (if false = true then (6 : Int) else 0) = 0 from rfl] at hs
      by_cases p15 : op = 15
      · by_cases pm : (x.r.ss.length : Int) ≤ m
        · obtain rfl : fb = true := hfb.2 (.inl (.inr (.inl ⟨by omega, pm⟩)))
          repeat (first | (refine oqXAtrw1_ ?_; clear hs a; intro a hs) | ((with_reducible apply lCons); first | (refine dv hs gw_ rfl rfl da_ ?_; clear hs hm a; rintro _ w ⟨g, rfl, -, hm⟩ a hs) | (refine stn hs rfl rfl ds_ ?_; clear hs hm a; rintro - w hm a hs)) | ((with_reducible apply qNil); clear hm; intro w hm) | refine cQ_ ?_ | refine sc_ ?_)
          exact And.intro rfl ⟨hs.sub (Has.all ⟨rfl, rfl, rfl, rfl, rfl, rfl, rfl, trivial⟩), hm⟩
        by_cases p64 : 64 ≤ x.r.code.length
        · obtain rfl : fb = true := hfb.2 (.inr p64)
          repeat (first | (refine oqXAtrw1_ ?_; clear hs a; intro a hs) | ((with_reducible apply lCons); first | (refine dv hs gw_ rfl rfl da_ ?_; clear hs hm a; rintro _ w ⟨g, rfl, -, hm⟩ a hs) | (refine stn hs rfl rfl ds_ ?_; clear hs hm a; rintro - w hm a hs)) | ((with_reducible apply qNil); clear hm; intro w hm) | refine cQ_ ?_ | refine sc_ ?_)
          exact And.intro rfl ⟨hs.sub (Has.all ⟨rfl, rfl, rfl, rfl, rfl, rfl, rfl, trivial⟩), hm⟩
        · obtain rfl : fb = false := Bool.eq_false_iff.2 fun e => (hfb.1 e).elim (fun h => by rcases h with h | h | h <;> first | (cases h; done) | omega) p64
          repeat (first | (refine oqXAtrw1_ ?_; clear hs a; intro a hs) | ((with_reducible apply lCons); first | (refine dv hs gw_ rfl rfl da_ ?_; clear hs hm a; rintro _ w ⟨g, rfl, -, hm⟩ a hs) | (refine stn hs rfl rfl ds_ ?_; clear hs hm a; rintro - w hm a hs)) | ((with_reducible apply qNil); clear hm; intro w hm) | refine cQ_ ?_ | refine sc_ ?_)
          exact And.intro rfl ⟨hs.sub (Has.all ⟨rfl, rfl, rfl, rfl, rfl, rfl, rfl, trivial⟩), hm⟩
      by_cases p23 : op = 23
      · by_cases pm : 15 < m
        · obtain rfl : fb = true := hfb.2 (.inl (.inr (.inr ⟨by omega, pm⟩)))
          repeat (first | (refine oqXAtrw1_ ?_; clear hs a; intro a hs) | ((with_reducible apply lCons); first | (refine dv hs gw_ rfl rfl da_ ?_; clear hs hm a; rintro _ w ⟨g, rfl, -, hm⟩ a hs) | (refine stn hs rfl rfl ds_ ?_; clear hs hm a; rintro - w hm a hs)) | ((with_reducible apply qNil); clear hm; intro w hm) | refine cQ_ ?_ | refine sc_ ?_)
          exact And.intro rfl ⟨hs.sub (Has.all ⟨rfl, rfl, rfl, rfl, rfl, rfl, rfl, trivial⟩), hm⟩
        by_cases p64 : 64 ≤ x.r.code.length
        · obtain rfl : fb = true := hfb.2 (.inr p64)
          repeat (first | (refine oqXAtrw1_ ?_; clear hs a; intro a hs) | ((with_reducible apply lCons); first | (refine dv hs gw_ rfl rfl da_ ?_; clear hs hm a; rintro _ w ⟨g, rfl, -, hm⟩ a hs) | (refine stn hs rfl rfl ds_ ?_; clear hs hm a; rintro - w hm a hs)) | ((with_reducible apply qNil); clear hm; intro w hm) | refine cQ_ ?_ | refine sc_ ?_)
          exact And.intro rfl ⟨hs.sub (Has.all ⟨rfl, rfl, rfl, rfl, rfl, rfl, rfl, trivial⟩), hm⟩
        · obtain rfl : fb = false := Bool.eq_false_iff.2 fun e => (hfb.1 e).elim (fun h => by rcases h with h | h | h <;> first | (cases h; done) | omega) p64
          repeat (first | (refine oqXAtrw1_ ?_; clear hs a; intro a hs) | ((with_reducible apply lCons); first | (refine dv hs gw_ rfl rfl da_ ?_; clear hs hm a; rintro _ w ⟨g, rfl, -, hm⟩ a hs) | (refine stn hs rfl rfl ds_ ?_; clear hs hm a; rintro - w hm a hs)) | ((with_reducible apply qNil); clear hm; intro w hm) | refine cQ_ ?_ | refine sc_ ?_)
          exact And.intro rfl ⟨hs.sub (Has.all ⟨rfl, rfl, rfl, rfl, rfl, rfl, rfl, trivial⟩), hm⟩
      by_cases p64 : 64 ≤ x.r.code.length
      · obtain rfl : fb = true := hfb.2 (.inr p64)
        repeat (first | (refine oqXAtrw1_ ?_; clear hs a; intro a hs) | ((with_reducible apply lCons); first | (refine dv hs gw_ rfl rfl da_ ?_; clear hs hm a; rintro _ w ⟨g, rfl, -, hm⟩ a hs) | (refine stn hs rfl rfl ds_ ?_; clear hs hm a; rintro - w hm a hs)) | ((with_reducible apply qNil); clear hm; intro w hm) | refine cQ_ ?_ | refine sc_ ?_)
        exact And.intro rfl ⟨hs.sub (Has.all ⟨rfl, rfl, rfl, rfl, rfl, rfl, rfl, trivial⟩), hm⟩
      · obtain rfl : fb = false := Bool.eq_false_iff.2 fun e => (hfb.1 e).elim (fun h => by rcases h with h | h | h <;> first | (cases h; done) | omega) p64
        repeat (first | (refine oqXAtrw1_ ?_; clear hs a; intro a hs) | ((with_reducible apply lCons); first | (refine dv hs gw_ rfl rfl da_ ?_; clear hs hm a; rintro _ w ⟨g, rfl, -, hm⟩ a hs) | (refine stn hs rfl rfl ds_ ?_; clear hs hm a; rintro - w hm a hs)) | ((with_reducible apply qNil); clear hm; intro w hm) | refine cQ_ ?_ | refine sc_ ?_)
        exact And.intro rfl ⟨hs.sub (Has.all ⟨rfl, rfl, rfl, rfl, rfl, rfl, rfl, trivial⟩), hm⟩
    clear hs hm a
    rintro a w3 ⟨hs, hm⟩
    cases fb
    case true =>
      have hF := h6 (hfb.1 rfl)
      repeat (first | (refine ovXAtrw0_ ?_; clear hs a; intro a hs) | ((with_reducible apply lCons); first | (refine dv hs gw_ rfl rfl da_ ?_; clear hs hm a; rintro _ w ⟨g, rfl, -, hm⟩ a hs) | (refine stn hs rfl rfl ds_ ?_; clear hs hm a; rintro - w hm a hs)) | refine sc_ ?_)
      exact gRet1 hs rfl rfl ⟨_, rfl, hF.symm, hm.fr, (fun e => by cases e), fun _ => (hm.sub sub_ : Mm S0 wB [⟨some x.g, 93, [slv x.cA x.r.code.length x.cc, slv x.sA x.r.ss.length x.sc, slv x.dA x.ws.length x.dc, .map (some x.m), slv x.jA x.jp.length x.jc, slv x.lA x.ln.length x.lc, .bool x.r.last]⟩, ⟨x.cA, 54, x.ccs⟩, ⟨x.sA, 3, x.scs⟩, ⟨x.dA, 56, x.dcs⟩, ⟨x.jA, 9, x.jcs⟩, ⟨x.lA, 3, x.lcs⟩] _)⟩
    have hI := hok (fun e => by have := hfb.2 e; cases this)
    have h64 : x.r.code.length < 64 := by
      have : ¬ 64 ≤ x.r.code.length := fun e => (by have := hfb.2 (.inr e); cases this)
      omega
    rw [hI]
    repeat (first | (refine ovXAtrw0_ ?_; clear hs a; intro a hs) | ((with_reducible apply lCons); first | (refine dv hs gw_ rfl rfl da_ ?_; clear hs hm a; rintro _ w ⟨g, rfl, -, hm⟩ a hs) | (refine stn hs rfl rfl ds_ ?_; clear hs hm a; rintro - w hm a hs)) | refine sc_ ?_)
    have hxc := h.c
    have hxj := h.j
    have hxl := h.l
    refine cMid (fun a w => ∃ (cA2 : Option Nat) (cc2 : Nat) (ccs2 : List Value) (jA2 : Option Nat) (jc2 : Nat) (jcs2 : List Value) (lA2 : Option Nat) (lc2 : Nat) (lcs2 : List Value), Row cA2 (x.r.code.length + 1) cc2 5 (x.r.code.flatMap inV ++ inV ⟨(op : Int), a1, a2, a3, m⟩) ccs2 ∧ Row jA2 (x.jp.length + 1) jc2 1 (x.jp.map txv ++ [txv lab]) jcs2 ∧ Row lA2 (x.ln.length + 1) lc2 1 (ints x.ln ++ [.int .i64 (line : Int)]) lcs2 ∧ Sl Tryz.f72.ntmps [(0, .pointer (some ⟨x.g, 0, none⟩))] a ∧ Mm S0 wB [⟨some x.g, 93, [slv cA2 (x.r.code.length + 1) cc2, slv x.sA x.r.ss.length x.sc, slv x.dA x.ws.length x.dc, .map (some x.m), slv jA2 (x.jp.length + 1) jc2, slv lA2 (x.ln.length + 1) lc2, .bool x.r.last]⟩, ⟨cA2, 54, ccs2⟩, ⟨x.sA, 3, x.scs⟩, ⟨x.dA, 56, x.dcs⟩, ⟨jA2, 9, jcs2⟩, ⟨lA2, 3, lcs2⟩] w) (r46_c x S0 wB _ bw ow c g10 words line (op : Int) a1 a2 a3 m lab _ hxc hxj hxl (Nat.le_of_lt h64) z4 z4b (hs.sub (Has.all ⟨rfl, rfl, rfl, rfl, rfl, rfl, trivial⟩)) (hm.sub sub_) _ (by kernel_rfl)) ?_
    clear hs hm a
    rintro a w4 ⟨cA2, cc2, ccs2, jA2, jc2, jcs2, lA2, lc2, lcs2, hr10, hr17, hr24, hs, hm⟩
    repeat (first | (refine ovXAtrw0_ ?_; clear hs a; intro a hs) | ((with_reducible apply lCons); first | (refine dv hs gw_ rfl rfl da_ ?_; clear hs hm a; rintro _ w ⟨g, rfl, -, hm⟩ a hs) | (refine stn hs rfl rfl ds_ ?_; clear hs hm a; rintro - w hm a hs)) | refine sc_ ?_)
    refine gRet1 hs rfl rfl ⟨_, rfl, rfl, hm.fr, fun _ => ?_, fun e => absurd rfl e⟩
    obtain ⟨y, hy⟩ : ∃ y : RfX, y = ⟨x.g, x.m, cA2, cc2, ccs2, x.sA, x.sc, x.scs, x.dA, x.dc, x.dcs, jA2, jc2, jcs2, lA2, lc2, lcs2, x.jp ++ [lab], x.ln ++ [(line : Int)], x.ws, { x.r with code := x.r.code ++ [⟨(op : Int), a1, a2, a3, m⟩], js := if lab = [] then x.r.js else x.r.js ++ [(x.r.code.length, line, lab)] }⟩ := ⟨_, rfl⟩
    have l1 : (x.r.code ++ [(⟨(op : Int), a1, a2, a3, m⟩ : In)]).length = x.r.code.length + 1 := by rw [List.length_append]; rfl
    have l2 : (x.jp ++ [lab]).length = x.jp.length + 1 := by rw [List.length_append]; rfl
    have l3 : (x.ln ++ [(line : Int)]).length = x.ln.length + 1 := by rw [List.length_append]; rfl
    have hmy : Mm S0 wB y.M w4 := by
      rw [hy]
      unfold RfX.M RfX.hd
      dsimp only
      rw [l1, l2, l3]
      exact hm
    rw [← hS0] at hmy
    obtain ⟨p1, p2, p3, p4, p5⟩ := RfX.after h hmy (by rw [hy])
    refine ⟨y, by rw [hy], by rw [hy], by rw [hy], ⟨p4, by rw [hy]; rw [hy] at p3; exact p3, p2, ?_, by rw [hy]; exact h.s, by rw [hy]; exact h.d, ?_, ?_, by rw [hy]; exact h.ws, ?_, ?_, ?_, ?_⟩, p1⟩
    · rw [hy]
      dsimp only
      rw [l1, List.flatMap_append, List.flatMap_singleton]
      exact hr10
    · rw [hy]
      dsimp only
      rw [l2, List.map_append]
      exact hr17
    · rw [hy]
      dsimp only
      rw [l3, show ints (x.ln ++ [(line : Int)]) = ints x.ln ++ [.int .i64 (line : Int)] by unfold ints; rw [List.map_append]; rfl]
      exact hr24
    · intro r hr
      exact p5 r (by rw [hy] at hr; exact hr)
    · rw [hy]
      dsimp only
      rw [jsO_snoc _ _ _ _ (by omega), ← h.js, z4]
    · rw [hy]
      dsimp only
      rw [l1, l2, l3]
      exact ⟨by omega, z2, z3, by omega, by omega, z5⟩
    · rw [hy]
      intro y hy
      dsimp only at hy
      rcases List.mem_append.1 hy with hy | hy
      · exact h.ln0 y hy
      · rcases List.mem_singleton.1 hy with rfl
        exact Int.natCast_nonneg _
end Go.Proofs.YtajkekhnfobgiaaGreatDoor

/- The reference's reader, a line and a whole text: plain laws. -/
namespace Go.Proofs.YtajkekhnfobgiaaGreatDoor
set_option maxRecDepth 20000
open Go.RowKit

theorem spl_sing {c : UInt8} : ∀ {s w : Tx}, spl c s = [w] → w = s
  | [], w, h => by
    have h1 : [([] : Tx)] = [w] := h
    injection h1 with h1
    exact h1.symm
  | b :: l, w, h => by
    rw [spl_cons] at h
    split at h
    · injection h with _ h2
      exact absurd h2 (spl_ne c l)
    · cases hs : spl c l with
      | nil => exact absurd hs (spl_ne c l)
      | cons x t =>
        rw [hs] at h
        dsimp only at h
        injection h with h1 h2
        rw [h2] at hs
        rw [← h1, spl_sing hs]
theorem suf58 {s : Tx} (h : [58].isSuffixOf s = true) : ∃ n, s = n ++ [58] := by
  rw [List.isSuffixOf_iff_suffix] at h
  obtain ⟨n, hn⟩ := h
  exact ⟨n, hn.symm⟩
theorem suf_app (n : Tx) : [58].isSuffixOf (n ++ [58]) = true := by
  rw [List.isSuffixOf_iff_suffix]
  exact ⟨n, rfl⟩
theorem labF_no {s : Tx} (h : [58].isSuffixOf s = false) : labF s = none := by unfold labF; rw [h]; rfl
theorem labF_app (n : Tx) : labF (n ++ [58]) = if nmB n then some n else none := by
  unfold labF
  have h : (n ++ [58]).take ((n ++ [58]).length - 1) = n := by
    rw [List.length_append, List.length_singleton, Nat.add_sub_cancel]
    exact List.take_left
  rw [suf_app, h, Bool.true_and]
theorem labF_two {s w v : Tx} {t : List Tx} (h : spl 32 s = w :: v :: t) : labF s = none := by
  cases hs : [58].isSuffixOf s
  · exact labF_no hs
  obtain ⟨n, rfl⟩ := suf58 hs
  rw [labF_app]
  have hm : (32 : UInt8) ∈ n ++ [58] := Classical.byContradiction fun e => by
    rw [spl_miss 32 _ e] at h
    injection h with _ h2
    cases h2
  have hn : (32 : UInt8) ∈ n := by
    rcases List.mem_append.1 hm with hm | hm
    · exact hm
    · rcases List.mem_singleton.1 hm with e
      cases e
  rw [if_neg]
  intro e
  unfold nmB at e
  rw [Bool.and_eq_true, Bool.and_eq_true] at e
  have := List.all_eq_true.1 e.1.2 32 hn
  cases this
theorem idxF_58 (n : Tx) : idxF (n ++ [58]) nmL 0 = none := by
  cases h : idxF (n ++ [58]) nmL 0 with
  | none => rfl
  | some k =>
    have h1 := (idxF_get _ _ _ _ h).2
    have h2 := List.mem_of_getElem? h1
    have h3 : ∀ x ∈ nmL, x.getLast? ≠ some 58 := by decide
    exact absurd (by rw [List.getLast?_append]; rfl) (h3 _ h2)
theorem rgN_58 (n : Tx) : n ++ [58] ≠ rgN := fun e => by
  have := congrArg List.getLast? e
  rw [List.getLast?_append] at this
  cases this
theorem rdF_lab {r : RdS} {s n : Tx} {k : Nat} (h : labF s = some n) : rdF r s k = if (atL r.lab n).isSome then ({ r with last := false }, 2) else ({ r with lab := (n, r.code.length) :: r.lab, last := true }, 0) := by
  unfold rdF
  rw [h]
  dsimp only
  rw [any_atL]
theorem rdF_col {r : RdS} {n : Tx} {k : Nat} (h : spl 32 (n ++ [58]) = [n ++ [58]]) (hn : nmB n = false) : (rdF r (n ++ [58]) k).2 = 2 := by
  unfold rdF
  rw [labF_app, hn, if_neg (by decide)]
  dsimp only
  rw [h, List.headD_cons, if_neg (rgN_58 n), idxF_58]
theorem regF_last (r : RdS) (b : Bool) (ws : List Tx) : regF { r with last := b } ws = ({ (regF r ws).1 with last := b }, (regF r ws).2) := by
  unfold regF
  split
  · rfl
  · rfl
  · dsimp only
    split
    · rfl
    · split <;> rfl
theorem insF_last (r : RdS) (b : Bool) (op : Int) (ws : List Tx) (k : Nat) : insF { r with last := b } op ws k = ({ (insF r op ws k).1 with last := b }, (insF r op ws k).2) := by
  unfold insF
  dsimp only
  split
  · rfl
  · split <;> rfl
theorem regF_0 {r : RdS} {ws : List Tx} (h : (regF r ws).2 = 0) : r.lab = [] := Classical.byContradiction fun e => by
  rw [regF_code (.inr e)] at h
  cases h
theorem regF_lastE (r : RdS) (ws : List Tx) : (regF r ws).1.last = r.last := by
  unfold regF
  split
  · rfl
  · rfl
  · split
    · rfl
    · split <;> rfl
theorem rdF_reg {r : RdS} {s : Tx} {k : Nat} {ws : List Tx} (hl : labF s = none) (h : spl 32 s = rgN :: ws) (hla : r.last = true → r.lab ≠ []) : (rdF r s k).2 = (regF r ws).2 ∧ ((regF r ws).2 = 0 → (rdF r s k).1 = (regF r ws).1) := by
  unfold rdF
  rw [hl, h]
  dsimp only
  rw [List.headD_cons, if_pos rfl, List.tail_cons, regF_last]
  refine ⟨rfl, fun e => ?_⟩
  have h1 := regF_0 e
  have h2 : r.last = false := Bool.eq_false_iff.2 fun e2 => hla e2 h1
  have h3 := regF_lastE r ws
  rw [h2] at h3
  dsimp only
  rw [← h3]
theorem insF_lastE (r : RdS) (op : Int) (ws : List Tx) (k : Nat) : (insF r op ws k).1.last = r.last := by
  unfold insF
  split
  · rfl
  · split <;> rfl
/-- what stays true of a draft while it is read -/
structure RdL (r : RdS) : Prop where
  last : r.last = true → r.lab ≠ []
  row : ∀ xs ∈ r.ws, xs.length ≤ 32 ∧ ∀ y ∈ xs, 0 ≤ y ∧ y ≤ 65535
  cl : r.code.length ≤ 64
  sl : r.ss.length ≤ 4
  wl : r.ws.length = r.ss.length
theorem RdL.nil : RdL r0F := ⟨(fun e => by cases e), fun _ h => absurd h List.not_mem_nil, Nat.zero_le _, Nat.zero_le _, rfl⟩
theorem regF_L {r : RdS} (h : RdL r) (ws : List Tx) : RdL (regF r ws).1 := by
  unfold regF
  cases hd : decA ws with
  | none => exact h
  | some l =>
    cases l with
    | nil => exact h
    | cons n l =>
      dsimp only
      split
      · exact h
      · split
        · exact h
        · rename_i h2
          refine ⟨h.last, fun xs hx => ?_, h.cl, ?_, ?_⟩
          · rcases List.mem_append.1 hx with hx | hx
            · exact h.row xs hx
            · rcases List.mem_singleton.1 hx with rfl
              refine ⟨?_, fun y hy => ⟨((decA_bd _ _ hd).2 y (List.mem_cons_of_mem _ hy)).1, ?_⟩⟩
              · refine Classical.byContradiction fun e => h2 ?_
                by_cases e2 : 32 < n
                · exact .inr (.inr (.inl e2))
                · exact .inr (.inr (.inr (.inl (by omega))))
              · refine Classical.byContradiction fun e => h2 (.inl ?_)
                exact List.any_eq_true.2 ⟨y, List.mem_cons_of_mem _ hy, decide_eq_true (by omega)⟩
          · dsimp only
            rw [List.length_append, List.length_singleton]
            have := h.sl
            refine Classical.byContradiction fun e => h2 (.inr (.inr (.inr (.inr (by omega)))))
          · dsimp only
            rw [List.length_append, List.length_append, h.wl, List.length_singleton, List.length_singleton]
theorem insF_L {r : RdS} (h : RdL r) (op : Int) (ws : List Tx) (k : Nat) : RdL (insF r op ws k).1 := by
  unfold insF
  split
  · exact h
  · split
    · exact h
    · rename_i h2
      refine ⟨h.last, h.row, ?_, h.sl, h.wl⟩
      dsimp only
      rw [List.length_append, List.length_singleton]
      refine Classical.byContradiction fun e => h2 (.inr (by omega))
theorem RdL.off {r : RdS} (h : RdL r) : RdL { r with last := false } := ⟨(fun e => by cases e), h.row, h.cl, h.sl, h.wl⟩
theorem rdF_L {r : RdS} (h : RdL r) (s : Tx) (k : Nat) : RdL (rdF r s k).1 := by
  unfold rdF
  cases labF s with
  | some n =>
    dsimp only
    split
    · exact h.off
    · exact ⟨fun _ => by simp, h.row, h.cl, h.sl, h.wl⟩
  | none =>
    dsimp only
    split
    · exact regF_L h.off _
    · cases idxF ((spl 32 s).headD []) nmL 0 with
      | none => exact h.off
      | some op => exact insF_L h.off _ _ _
theorem rdA_L : ∀ (l : List Tx) {r : RdS} (_ : RdL r) (k : Nat), RdL (rdA r l k).1
  | [], _, h, _ => h
  | s :: t, r, h, k => by
    have h1 := rdF_L h s k
    unfold rdA
    dsimp only
    split
    · exact rdA_L t h1 (k + 1)
    · exact h1
theorem nil_sm : (⟨[], [], []⟩ : PrM).code.length ≤ 1000 ∧ (⟨[], [], []⟩ : PrM).ss.length ≤ 1000 ∧ (⟨[], [], []⟩ : PrM).ws.length ≤ 1000 ∧ ∀ xs ∈ (⟨[], [], []⟩ : PrM).ws, xs.length ≤ 1000 ∧ ∀ y ∈ xs, 0 ≤ y ∧ y ≤ 65535 :=
  ⟨Nat.zero_le _, Nat.zero_le _, Nat.zero_le _, fun _ h => absurd h List.not_mem_nil⟩
theorem par_bd (s : Tx) : (parF s).1.code.length ≤ 1000 ∧ (parF s).1.ss.length ≤ 1000 ∧ (parF s).1.ws.length ≤ 1000 ∧ ∀ xs ∈ (parF s).1.ws, xs.length ≤ 1000 ∧ ∀ y ∈ xs, 0 ≤ y ∧ y ≤ 65535 := by
  have hL := rdA_L (spl 10 s).dropLast RdL.nil 0
  unfold parF
  split
  · exact nil_sm
  · generalize rdA r0F (spl 10 s).dropLast 0 = q at *
    obtain ⟨r, k, e⟩ := q
    dsimp only at hL ⊢
    split
    · exact nil_sm
    · split
      · exact nil_sm
      · have hj := jsF_len r.lab r.js r.code
        generalize jsF r.lab r.code r.js = z at *
        obtain ⟨code, o⟩ := z
        dsimp only at hj
        cases o with
        | some ln => exact nil_sm
        | none =>
          dsimp only
          split
          · exact nil_sm
          · refine ⟨?_, ?_, ?_, fun xs hx => ?_⟩
            · have := hL.cl; dsimp only; omega
            · have := hL.sl; dsimp only; omega
            · have := hL.wl; have := hL.sl; dsimp only; omega
            · have := hL.row xs hx
              exact ⟨by omega, this.2⟩
theorem par_sm {s : Tx} {p : PV} (h1 : p.code = (parF s).1.code) (h2 : p.ss = (parF s).1.ss) (h3 : p.ws.map WV.xs = (parF s).1.ws) : p.sm := by
  obtain ⟨b1, b2, b3, b4⟩ := par_bd s
  refine ⟨by rw [h1]; exact b1, by rw [h2]; exact b2, ?_, fun r hr => ?_⟩
  · rw [← h3, List.length_map] at b3
    exact b3
  · exact b4 r.xs (by rw [← h3]; exact List.mem_map.2 ⟨r, hr, rfl⟩)
/-- the jumps from number k on -/
def jsK (jp : List Tx) (ln : List Int) (k : Nat) : List (Nat × Nat × Tx) := ((List.range jp.length).drop k).filterMap fun q => if jp.getD q [] = [] then none else some (q, (ln.getD q 0).toNat, jp.getD q [])
theorem jsK_0 (jp : List Tx) (ln : List Int) : jsK jp ln 0 = jsO jp ln := by unfold jsK jsO; rw [List.drop_zero]
theorem jsK_end {jp : List Tx} {ln : List Int} {k : Nat} (h : jp.length ≤ k) : jsK jp ln k = [] := by
  unfold jsK
  rw [List.drop_of_length_le (by rw [List.length_range]; exact h)]
  rfl
theorem jsK_no {jp : List Tx} {ln : List Int} {k : Nat} (hk : k < jp.length) (h : jp[k] = []) : jsK jp ln k = jsK jp ln (k + 1) := by
  have h1 : jp.getD k [] = [] := by rw [List.getD_eq_getElem?_getD, List.getElem?_eq_getElem hk]; exact h
  unfold jsK
  rw [List.drop_eq_getElem_cons (by rw [List.length_range]; exact hk), List.getElem_range, List.filterMap_cons]
  simp only [if_pos h1]
theorem jsK_yes {jp : List Tx} {ln : List Int} {k : Nat} {l : Tx} {y : Int} (hk : k < jp.length) (hl : k < ln.length) (h : jp[k] = l) (h2 : ln[k] = y) (hn : l ≠ []) : jsK jp ln k = (k, y.toNat, l) :: jsK jp ln (k + 1) := by
  have h1 : jp.getD k [] = l := by rw [List.getD_eq_getElem?_getD, List.getElem?_eq_getElem hk]; exact h
  have h3 : ln.getD k 0 = y := by rw [List.getD_eq_getElem?_getD, List.getElem?_eq_getElem hl]; exact h2
  have h4 : ¬ jp.getD k [] = [] := by rw [h1]; exact hn
  unfold jsK
  rw [List.drop_eq_getElem_cons (by rw [List.length_range]; exact hk), List.getElem_range, List.filterMap_cons]
  simp only [if_neg h4]
  rw [h1, h3]
theorem jsO_mem {jp : List Tx} {ln : List Int} {k : Nat} {l : Tx} (hk : k < jp.length) (h : jp[k] = l) (hn : l ≠ []) : (k, (ln.getD k 0).toNat, l) ∈ jsO jp ln := by
  have h1 : jp.getD k [] = l := by rw [List.getD_eq_getElem?_getD, List.getElem?_eq_getElem hk]; exact h
  unfold jsO
  refine List.mem_filterMap.2 ⟨k, List.mem_range.2 hk, ?_⟩
  rw [h1, if_neg hn]
end Go.Proofs.YtajkekhnfobgiaaGreatDoor

/- The bytes of a text as a row; the front of a text. -/
namespace Go.Proofs.YtajkekhnfobgiaaGreatDoor
set_option maxRecDepth 20000
open Go.RowKit

theorem strOf (l : Tx) : strOfNums (l.map fun c => (c.toNat : Int)) = ⟨l.toArray⟩ := by
  unfold strOfNums
  rw [List.map_map]
  congr 2
  exact (List.map_congr_left fun c _ => by simp).trans (List.map_id _)
/-- block g holds the bytes of a text; behind them lies the mark of a conversion -/
def BR (g : Nat) (l : Tx) (w : World) : Prop := ∃ (cs : Array Value) (e : TypeId), w.heap[g]? = some (.cells cs e (cs.size, cs.size + 1)) ∧ ∀ (j : Nat) (c : UInt8), l[j]? = some c → cs[j]? = some (.int .u8 (c.toNat : Int))
theorem BR.keep {S : Nat → Prop} {g : Nat} {l : Tx} {w w' : World} (h : BR g l w) (hf : Fr S w w') (hb : ¬ S g) : BR g l w' := by
  obtain ⟨cs, e, h1, h2⟩ := h
  refine ⟨cs, e, ?_, h2⟩
  have hlt := (Array.getElem?_eq_some_iff.1 h1).1
  rw [hf.block g hlt hb]
  exact h1
theorem BR.lt {g : Nat} {l : Tx} {w : World} (h : BR g l w) : g < w.heap.size := by
  obtain ⟨cs, e, h1, h2⟩ := h
  exact (Array.getElem?_eq_some_iff.1 h1).1
theorem BR.cell {g : Nat} {l : Tx} {w : World} (h : BR g l w) {j : Nat} {c : UInt8} (hj : l[j]? = some c) : w.cell? ⟨g, j, none⟩ = some (.int .u8 (c.toNat : Int)) := by
  obtain ⟨cs, e, h1, h2⟩ := h
  rw [cell_of_row w g j cs e _ h1]
  exact h2 j c hj
theorem BR.free {g : Nat} {l : Tx} {w : World} (h : BR g l w) {j : Nat} (hj : j < l.length) : w.frozen? ⟨g, j, none⟩ = false := by
  obtain ⟨cs, e, h1, h2⟩ := h
  have h3 := (Array.getElem?_eq_some_iff.1 (h2 j _ (List.getElem?_eq_getElem hj))).1
  unfold World.frozen?
  dsimp only
  rw [h1]
  dsimp only
  rw [decide_eq_false (by omega), Bool.false_and]
theorem BR.set_ {g : Nat} {l : Tx} {w : World} (h : BR g l w) (n : Nat) (c : UInt8) (hn : n < l.length) : BR g (l.set n c) (w.setCell ⟨g, n, none⟩ (.int .u8 (c.toNat : Int))) := by
  obtain ⟨cs, e, h1, h2⟩ := h
  refine ⟨cs.setIfInBounds n (.int .u8 (c.toNat : Int)), e, ?_, fun j d hd => ?_⟩
  · rw [Array.size_setIfInBounds]
    simp [World.setCell, Array.getElem?_modify, h1]
  · rw [Array.getElem?_setIfInBounds]
    rw [List.getElem?_set] at hd
    split
    · rename_i e1
      rw [if_pos e1] at hd
      rw [if_pos hn] at hd
      have h3 := (Array.getElem?_eq_some_iff.1 (h2 n _ (List.getElem?_eq_getElem hn))).1
      rw [if_pos h3, Option.some.inj hd]
    · rename_i e1
      rw [if_neg e1] at hd
      exact h2 j d hd
section
variable {P : Program} {N : Nat} {L : List (Nat × Value)} {a : Act} {w w0 : World} {S : Nat → Prop} {M : List Hp} {o : Oper} {x y : Operand} {T : List (Nat × TI)}
/-- the bytes of a text -/
theorem d_bytes {t t' e : TypeId} {i j k : TI} {l : Tx} (hs : Sl N L a) (ho : o.op = .convert t t' x) (hx : ev L x = some (txv l)) (hT : TabOk P T) (hc : tlk T t = some i) (hd : i.d = .str) (hc' : tlk T t' = some k) (hk : k.d = .sl e) (he : tlk T e = some j) (hj : j.d = .int .u8) (hm : Mm S w0 M w) : Does P a o w (fun v w' => ∃ c, v = .slice (some ⟨w.heap.size, 0, none⟩) l.length c ∧ BR w.heap.size l w' ∧ Pu w w' ∧ Mm S w0 M w') := by
  replace hx := hs.ev hx
  have h1 := Lib.run_convert_string_bytes (P := P) w t t' e ⟨l.toArray⟩ ((hT _ _ hc).str hd) ((hT _ _ hc').sl hk) ((hT _ _ he).int hj)
  rw [ba_s] at h1
  have hP : Pu w (Lib.bytesWorld w e ⟨l.toArray⟩) := by
    refine ⟨rfl, rfl, rfl, ?_, fun i hi _ => Lib.bytesWorld_at_old w e _ i hi⟩
    rw [Lib.bytesWorld_size]
    exact Nat.le_succ _
  unfold txv at hx
  unfold Does execOp
  simp only [ho, hx, Sem.run_bind, h1, Result.andThen_ok, Sem.run_pure]
  refine ⟨_, rfl, ⟨_, e, Lib.bytesWorld_at_new w e _, fun j c hj => ?_⟩, hP, hm.pu hP⟩
  unfold Lib.bytesCells
  have hl := (List.getElem?_eq_some_iff.1 hj).1
  rw [Array.getElem?_append_left (by simp; exact hl)]
  simp [hj]
/-- a byte is put -/
theorem d_bstore {g n : Nat} {ty : TypeId} {i : TI} {l : Tx} {c : UInt8} (hs : Sl N L a) (ho : o.op = .store ty x y) (hx : ev L x = some (.pointer (some ⟨g, n, none⟩))) (hy : ev L y = some (.int .u8 (c.toNat : Int))) (hT : TabOk P T) (hc : tlk T ty = some i) (hl : Nat.beq i.sz 1 = true) (h : BR g l w) (hn : n < l.length) : Does P a o w (fun _ w' => BR g (l.set n c) w' ∧ Fr (fun k => k = g) w w') := by
  replace hx := hs.ev hx; replace hy := hs.ev hy
  have hc0 := h.cell (List.getElem?_eq_getElem hn)
  have h3 := run_storeCells_cells (P := P) g n [.int .u8 (c.toNat : Int)] 0 w (fun j hj => by
    obtain rfl : j = 0 := by simp at hj; omega
    show (w.cell? ⟨g, n, none⟩).isSome = true
    rw [hc0]
    rfl) (fun j hj => by
    obtain rfl : j = 0 := by simp at hj; omega
    exact h.free hn) (fun v hv => by rcases List.mem_singleton.1 hv with rfl; rfl)
  have h4 : w.setCells g (n + 0) [.int .u8 (c.toNat : Int)] = w.setCell ⟨g, n, none⟩ (.int .u8 (c.toNat : Int)) := rfl
  rw [h4] at h3
  have hsz : i.sz = 1 := Nat.eq_of_beq_eq_true hl
  have h5 : Sem.run P (Instr.storeAt ty (.pointer (some ⟨g, n, none⟩)) (.int .u8 (c.toNat : Int))) w = .ok () (w.setCell ⟨g, n, none⟩ (.int .u8 (c.toNat : Int))) := by
    simp [Instr.storeAt, Instr.sureAddr, storeVar, run_sizeOf (hT _ _ hc), hsz, Value.cells, h3]
  unfold Does execOp
  simp only [ho, hx, hy, Sem.run_bind, h5, Result.andThen_ok, Sem.run_pure]
  exact ⟨h.set_ n c hn, (Fr.refl (fun k => k = g) w).setCell (p := ⟨g, n, none⟩) (.inl rfl) _⟩
/-- the text of some bytes -/
theorem r_bstr {t t' e : TypeId} {i j k : TI} {g c : Nat} {l : Tx} (hs : Sl N L a) (ho : o.op = .convert t t' x) (hx : ev L x = some (.slice (some ⟨g, 0, none⟩) l.length c)) (hT : TabOk P T) (hc : tlk T t = some i) (hd : i.d = .sl e) (he : tlk T e = some j) (hj : j.d = .int .u8) (hc' : tlk T t' = some k) (hk : k.d = .str) (h : BR g l w) : RunV P a o w (txv l) := by
  replace hx := hs.ev hx
  have h1 := run_convert_bytes_arg (P := P) w t e ((hT _ _ hc).sl hd) ((hT _ _ he).int hj) g 0 l.length c (l.map fun c => (c.toNat : Int)) (List.length_map ..) (fun i hi => by
    rw [Nat.zero_add, h.cell (List.getElem?_eq_getElem hi)]
    simp [List.getD, List.getElem?_eq_getElem hi]) t' ((hT _ _ hc').str hk)
  rw [strOf] at h1
  unfold RunV execOp
  simp only [ho, hx, Sem.run_bind, h1, Result.andThen_ok, Sem.run_pure]
  rfl
/-- `s[:k]` of a text -/
theorem r_sto {t : TypeId} {i : TI} {l : List UInt8} {k : Nat} (hs : Sl N L a) (ho : o.op = .slice t x none (some y) none) (hx : ev L x = some (txv l)) (hy : ev L y = some (.int .i64 (k : Int))) (hT : TabOk P T) (hc : tlk T t = some i) (hd : i.d = .str) (hk : k ≤ l.length) : RunV P a o w (txv (l.take k)) := by
  replace hx := hs.ev hx; replace hy := hs.ev hy
  unfold txv at hx
  have h1 : ((⟨l.toArray⟩ : ByteArray).extract 0 k) = ⟨(l.take k).toArray⟩ := by
    apply ByteArray.ext
    simp [ByteArray.data_extract]
  have h2 : (0 : Int) ≤ (k : Int) ∧ (k : Int) ≤ (l.length : Int) := by omega
  unfold RunV execOp txv
  rw [← h1]
  simp [ho, hx, hy, Instr.sliceAt, Instr.slice, run_und ((hT _ _ hc).str hd), Instr.sliceBounds, run_sliceBound, ba_s, h2]
end
end Go.Proofs.YtajkekhnfobgiaaGreatDoor

/- The reference's reader: a line, the walk. -/
namespace Go.Proofs.YtajkekhnfobgiaaGreatDoor
set_option maxRecDepth 20000
open Go.RowKit
theorem ovXAtz0_ {G H : Prop} (k : H) (s : H → G := by intro k; (with_reducible refine toL hm ?_); first | exact oneV hs gw_ rfl rfl (by intro w hm; (first | exact kv_ | exact ksl_ | exact r_sidx hs rfl rfl rfl tab rfl rfl (by assumption) | exact r_lookS hs rfl rfl rfl hnl hml hm hnml | exact r_sto (k := n.length) hs rfl rfl rfl tab rfl rfl (by assumption))) k | exact oneN hs rfl rfl rfl rfl rfl rfl rfl k | exact oneU hs rfl rfl rfl rfl rfl rfl k) : G := s k

theorem rdF_ins {x : RfX} {s hw : Tx} {k : Nat} {ws : List Tx} (hl : labF s = none) (h : spl 32 s = hw :: ws) (hn : hw ≠ rgN) : rdF x.r s k = ({ (rIF x hw ws k).1 with last := false }, (rIF x hw ws k).2) := by
  unfold rdF rIF
  rw [hl, h]
  dsimp only
  rw [List.headD_cons, if_neg hn, List.tail_cons]
  cases idxF hw nmL 0 with
  | none => rfl
  | some op => exact insF_last x.r false op ws k
theorem RfX.own_iff {x : RfX} {i : Nat} : own x.M i ↔ some x.g = some i ∨ x.cA = some i ∨ x.sA = some i ∨ x.dA = some i ∨ x.jA = some i ∨ x.lA = some i := by
  unfold own RfX.M RfX.hd
  simp
theorem RfX.same {x : RfX} {wB w : World} (h : x.ok wB) (hm : Mm (own x.M) wB x.M w) : x.ok w := by
  obtain ⟨p1, p2, p3, p4, p5⟩ := RfX.after h hm rfl
  exact ⟨p4, p3, h.nm, h.c, h.s, h.d, h.j, h.l, h.ws, p5, h.js, h.sz, h.ln0⟩
theorem RfX.ok.pu {x : RfX} {wB w : World} (h : x.ok wB) (hf : Pu wB w) : x.ok w := RfX.same h (h.mm.pu hf)
theorem RfN.pu {x y : RfX} {wB w w' : World} {r : RdS} (h : RfN x wB w r y) (hf : Pu w w') : RfN x wB w' r y := ⟨h.g, h.m, h.r, h.ok.pu hf, h.nw⟩
theorem RfN.pre {x y : RfX} {wB w w' : World} {r : RdS} (h : RfN x w w' r y) (hs : wB.heap.size ≤ w.heap.size) : RfN x wB w' r y := ⟨h.g, h.m, h.r, h.ok, fun i hi => (h.nw i hi).imp id (Nat.le_trans hs)⟩
/-- another value of `last` -/
def RfX.lst (x : RfX) (b : Bool) : RfX := { x with r := { x.r with last := b } }
theorem RfX.lst_own {x : RfX} {b : Bool} {i : Nat} : own (x.lst b).M i ↔ own x.M i := by
  rw [RfX.own_iff, RfX.own_iff]
  exact Iff.rfl
theorem RfX.lst_D {x : RfX} {b : Bool} {i : Nat} : (x.lst b).D i ↔ x.D i := or_congr RfX.lst_own Iff.rfl
theorem RfX.lst_ok {x : RfX} {b : Bool} {wB w : World} (h : x.ok wB) (hm : Mm (own x.M) wB (x.lst b).M w) : (x.lst b).ok w := by
  obtain ⟨p1, p2, p3, p4, p5⟩ := RfX.after (y := x.lst b) h hm rfl
  exact ⟨p4, p3, p2, h.c, h.s, h.d, h.j, h.l, h.ws, p5, h.js, h.sz, h.ln0⟩
theorem row_some {A : Option Addr} {w : World} {B : Nat} {vs : List Value} (h : Rd w B A vs) (hn : 0 < vs.length) : ∃ b o, A = some ⟨b, o, none⟩ ∧ b < B ∧ Ro w b o vs := h.ro hn



set_option maxHeartbeats 16000000 in
theorem rline_c (x : RfX) (s : Tx) (line : Nat) (wB : World) (h : x.ok wB) (hL : RdL x.r) (hls : s.length ≤ 4096) (hlab : x.r.lab.length < 5000) (ht : ∀ w', Fr x.D wB w' → TW w') :
    Ret Tryz.prog 46 [.pointer (some ⟨x.g, 0, none⟩), txv s, .int .i64 (line : Int)] wB (fun u w' => ∃ e : Int, u = .int .i64 e ∧ e = (rdF x.r s line).2 ∧ Fr x.D wB w' ∧ (e = 0 → ∃ y, RfN x wB w' (rdF x.r s line).1 y)) := by
  have hsz := ba_s s
  refine enterR Tryz.func46 rfl rfl rfl fun a hs hm => ?_
  repeat (first | (refine ovXAtz0_ ?_; clear hs a; intro a hs) | ((with_reducible apply lCons); first | (refine dv hs gw_ rfl rfl da_ ?_; clear hs hm a; rintro _ w ⟨g, rfl, -, hm⟩ a hs) | (refine stn hs rfl rfl ds_ ?_; clear hs hm a; rintro - w hm a hs)) | refine sc_ ?_)
  have htw := ht _ (hm.fr.mono fun i _ t => t.elim)
  refine st hs rfl rfl rfl (d_call hs rfl rfl rfl (pl 18 rfl) ((split_n 32 s _ (by omega) htw))) ?_; clear hs a; rintro _ w2 ⟨⟨A, c, xs⟩, rfl, hr, hx, hf, hnw⟩ a hs
  dsimp only at hx hnw
  subst hx
  have hP2 := hm.fr.pu hf
  have hxlt : ∀ i, own x.M i → i < wB.heap.size := fun i hi => ow_lt h.mm hi
  have hszm0 := hm.fr.size
  clear hm hf
  have hx2 := h.pu hP2
  have hsz2 := hP2.size
  have hm : Mm (own x.M) w2 [⟨some x.g, 93, [slv x.cA x.r.code.length x.cc, slv x.sA x.r.ss.length x.sc, slv x.dA x.ws.length x.dc, .map (some x.m), slv x.jA x.jp.length x.jc, slv x.lA x.ln.length x.lc, .bool x.r.last]⟩, ⟨x.cA, 54, x.ccs⟩, ⟨x.sA, 3, x.scs⟩, ⟨x.dA, 56, x.dcs⟩, ⟨x.jA, 9, x.jcs⟩, ⟨x.lA, 3, x.lcs⟩] w2 := hx2.mm
  unfold SS.v at hs
  dsimp only at hs
  cases hsp : spl 32 s with
  | nil => exact absurd hsp (spl_ne 32 s)
  | cons wd ws =>
    have hlen : ∀ t ∈ ws, t.length ≤ 5000 := fun t ht_ => by
      have := spl_mem_le 32 s t (by rw [hsp]; exact List.mem_cons_of_mem _ ht_)
      omega
    have hcnt : ws.length ≤ 5000 := by
      have := spl_cnt_le 32 s
      rw [hsp, List.length_cons] at this
      omega
    rw [hsp] at hs hr
    obtain ⟨b1, o1, rfl, hb1, hr1⟩ := hr.2.ro (by show 0 < ((wd :: ws).map txv).length; rw [List.length_map]; exact Nat.succ_pos _)
    have hbl : ws.length + 1 ≤ c := hr.1
    have hb1n : ¬ own x.M b1 := fun hi => by
      have h1 := hxlt _ hi
      have h2 := hnw _ rfl
      dsimp only at h2
      omega
    dsimp only at hr1
    have e1 : ((wd :: ws).map txv)[0]? = some (txv wd) := rfl
    have hl1 : (wd :: ws).length = ws.length + 1 := rfl
    rw [hl1] at hs
    clear hr
    cases ws with
    | cons v vs =>
      have hlF := labF_two hsp
      have hl2 : (v :: vs).length = vs.length + 1 := rfl
      by_cases hrg : wd = rgN
      · have hse := sEqT hrg
        unfold rgN at hse
        obtain ⟨hR2, hR1⟩ := rdF_reg (r := x.r) (k := line) (ws := (v :: vs)) hlF (by rw [hsp, hrg]) hL.last
        repeat (first | (refine ovXAtz0_ ?_; clear hs a; intro a hs) | ((with_reducible apply lCons); first | (refine dv hs gw_ rfl rfl da_ ?_; clear hs hm a; rintro _ w ⟨g, rfl, -, hm⟩ a hs) | (refine stn hs rfl rfl ds_ ?_; clear hs hm a; rintro - w hm a hs)) | refine sc_ ?_)
        rw [hse] at hs
        repeat (first | (refine ovXAtz0_ ?_; clear hs a; intro a hs) | ((with_reducible apply lCons); first | (refine dv hs gw_ rfl rfl da_ ?_; clear hs hm a; rintro _ w ⟨g, rfl, -, hm⟩ a hs) | (refine stn hs rfl rfl ds_ ?_; clear hs hm a; rintro - w hm a hs)) | refine sc_ ?_)
        have hxw := RfX.same hx2 hm
        have hFw : Fr x.D wB _ := (Fr.of_pu hP2).then hm.fr (fun i _ hi => .inl hi)
        have hc := rreg_c x b1 o1 c wd (v :: vs) _ hxw (hr1.ro hm hb1n) hbl hb1n hlen hcnt
        refine st hs rfl rfl rfl (d_call hs rfl rfl rfl (pl 71 rfl) (hc)) ?_; clear hs a; rintro _ w3 ⟨e, rfl, he, hfr, hy⟩ a hs
        have hszm := hFw.size
        have hF3 : Fr x.D wB w3 := hFw.then hfr (fun i _ hi2 => .inl hi2)
        clear hm
        have hm := Mm.nil (fun _ => False) w3
        repeat (first | (refine ovXAtz0_ ?_; clear hs a; intro a hs) | ((with_reducible apply lCons); first | (refine dv hs gw_ rfl rfl da_ ?_; clear hs hm a; rintro _ w ⟨g, rfl, -, hm⟩ a hs) | (refine stn hs rfl rfl ds_ ?_; clear hs hm a; rintro - w hm a hs)) | refine sc_ ?_)
        refine gRet1 hs rfl rfl ⟨e, rfl, he.trans hR2.symm, hF3.pu hm.fr, fun e0 => ?_⟩
        obtain ⟨y, hy⟩ := hy e0
        rw [hR1 (by rw [← he]; exact e0)]
        exact ⟨y, (hy.pre (by omega)).pu hm.fr⟩
      · have hse := sEqF hrg
        unfold rgN at hse
        have hR := rdF_ins (x := x) (k := line) hlF hsp hrg
        repeat (first | (refine ovXAtz0_ ?_; clear hs a; intro a hs) | ((with_reducible apply lCons); first | (refine dv hs gw_ rfl rfl da_ ?_; clear hs hm a; rintro _ w ⟨g, rfl, -, hm⟩ a hs) | (refine stn hs rfl rfl ds_ ?_; clear hs hm a; rintro - w hm a hs)) | refine sc_ ?_)
        rw [hse] at hs
        repeat (first | (refine ovXAtz0_ ?_; clear hs a; intro a hs) | ((with_reducible apply lCons); first | (refine dv hs gw_ rfl rfl da_ ?_; clear hs hm a; rintro _ w ⟨g, rfl, -, hm⟩ a hs) | (refine stn hs rfl rfl ds_ ?_; clear hs hm a; rintro - w hm a hs)) | refine sc_ ?_)
        have hxw := RfX.same hx2 hm
        have hFw : Fr x.D wB _ := (Fr.of_pu hP2).then hm.fr (fun i _ hi => .inl hi)
        have hc := rinst_c x b1 o1 c wd (v :: vs) line _ hxw (hr1.ro hm hb1n) hb1n hlen hcnt (fun w'' hf => ht _ (hFw.then hf (fun i _ hi => hi)))
        refine st hs rfl rfl rfl (d_call hs rfl rfl rfl (pl 72 rfl) (hc)) ?_; clear hs a; rintro _ w3 ⟨e, rfl, he, hfr, hy, hye⟩ a hs
        have hszm := hFw.size
        have hF3 : Fr x.D wB w3 := hFw.then hfr (fun i _ hi2 => .inl hi2)
        clear hm
        by_cases he0 : e = 0
        · obtain ⟨y, hy⟩ := hy he0
          have hyg := hy.g
          have hm : Mm (own y.M) w3 [⟨some y.g, 93, [slv y.cA y.r.code.length y.cc, slv y.sA y.r.ss.length y.sc, slv y.dA y.ws.length y.dc, .map (some y.m), slv y.jA y.jp.length y.jc, slv y.lA y.ln.length y.lc, .bool y.r.last]⟩, ⟨y.cA, 54, y.ccs⟩, ⟨y.sA, 3, y.scs⟩, ⟨y.dA, 56, y.dcs⟩, ⟨y.jA, 9, y.jcs⟩, ⟨y.lA, 3, y.lcs⟩] w3 := hy.ok.mm
          rw [hyg] at hm
          repeat (first | (refine ovXAtz0_ ?_; clear hs a; intro a hs) | ((with_reducible apply lCons); first | (refine dv hs gw_ rfl rfl da_ ?_; clear hs hm a; rintro _ w ⟨g, rfl, -, hm⟩ a hs) | (refine stn hs rfl rfl ds_ ?_; clear hs hm a; rintro - w hm a hs)) | refine sc_ ?_)
          rw [← hyg] at hm
          have hyl := RfX.lst_ok (b := false) hy.ok hm
          refine gRet1 hs rfl rfl ⟨e, rfl, he.trans (by rw [hR]), hF3.then hm.fr (fun i hi hi2 => ?_), fun _ => ⟨y.lst false, hy.g, hy.m, ?_, hyl, fun i hi => ?_⟩⟩
          · rcases hy.nw i (.inl hi2) with h1 | h1
            · exact h1
            · omega
          · rw [hR, ← hy.r]
            rfl
          · rcases hy.nw i (RfX.lst_D.1 hi) with h1 | h1
            · exact .inl h1
            · exact .inr (by omega)
        · have hm : Mm (own x.M) _ [⟨some x.g, 93, [slv x.cA x.r.code.length x.cc, slv x.sA x.r.ss.length x.sc, slv x.dA x.ws.length x.dc, .map (some x.m), slv x.jA x.jp.length x.jc, slv x.lA x.ln.length x.lc, .bool x.r.last]⟩, ⟨x.cA, 54, x.ccs⟩, ⟨x.sA, 3, x.scs⟩, ⟨x.dA, 56, x.dcs⟩, ⟨x.jA, 9, x.jcs⟩, ⟨x.lA, 3, x.lcs⟩] w3 := hye he0
          repeat (first | (refine ovXAtz0_ ?_; clear hs a; intro a hs) | ((with_reducible apply lCons); first | (refine dv hs gw_ rfl rfl da_ ?_; clear hs hm a; rintro _ w ⟨g, rfl, -, hm⟩ a hs) | (refine stn hs rfl rfl ds_ ?_; clear hs hm a; rintro - w hm a hs)) | refine sc_ ?_)
          refine gRet1 hs rfl rfl ⟨e, rfl, he.trans (by rw [hR]), hFw.then hm.fr (fun i _ hi2 => .inl hi2), fun e0 => absurd e0 he0⟩
    | nil =>
      have hl2 : ([] : List Tx).length = 0 := rfl
      have hws : s = wd := (spl_sing hsp).symm
      subst hws
      cases hsx : [58].isSuffixOf s
      · have hlF := labF_no hsx
        by_cases h0 : s.length = 0
        · by_cases hrg : s = rgN
          · have hse := sEqT hrg
            unfold rgN at hse
            obtain ⟨hR2, hR1⟩ := rdF_reg (r := x.r) (k := line) (ws := []) hlF (by rw [hsp, hrg]) hL.last
            repeat (first | (refine ovXAtz0_ ?_; clear hs a; intro a hs) | ((with_reducible apply lCons); first | (refine dv hs gw_ rfl rfl da_ ?_; clear hs hm a; rintro _ w ⟨g, rfl, -, hm⟩ a hs) | (refine stn hs rfl rfl ds_ ?_; clear hs hm a; rintro - w hm a hs)) | refine sc_ ?_)
            rw [hse] at hs
            repeat (first | (refine ovXAtz0_ ?_; clear hs a; intro a hs) | ((with_reducible apply lCons); first | (refine dv hs gw_ rfl rfl da_ ?_; clear hs hm a; rintro _ w ⟨g, rfl, -, hm⟩ a hs) | (refine stn hs rfl rfl ds_ ?_; clear hs hm a; rintro - w hm a hs)) | refine sc_ ?_)
            have hxw := RfX.same hx2 hm
            have hFw : Fr x.D wB _ := (Fr.of_pu hP2).then hm.fr (fun i _ hi => .inl hi)
            have hc := rreg_c x b1 o1 c s [] _ hxw (hr1.ro hm hb1n) hbl hb1n hlen hcnt
            refine st hs rfl rfl rfl (d_call hs rfl rfl rfl (pl 71 rfl) (hc)) ?_; clear hs a; rintro _ w3 ⟨e, rfl, he, hfr, hy⟩ a hs
            have hszm := hFw.size
            have hF3 : Fr x.D wB w3 := hFw.then hfr (fun i _ hi2 => .inl hi2)
            clear hm
            have hm := Mm.nil (fun _ => False) w3
            repeat (first | (refine ovXAtz0_ ?_; clear hs a; intro a hs) | ((with_reducible apply lCons); first | (refine dv hs gw_ rfl rfl da_ ?_; clear hs hm a; rintro _ w ⟨g, rfl, -, hm⟩ a hs) | (refine stn hs rfl rfl ds_ ?_; clear hs hm a; rintro - w hm a hs)) | refine sc_ ?_)
            refine gRet1 hs rfl rfl ⟨e, rfl, he.trans hR2.symm, hF3.pu hm.fr, fun e0 => ?_⟩
            obtain ⟨y, hy⟩ := hy e0
            rw [hR1 (by rw [← he]; exact e0)]
            exact ⟨y, (hy.pre (by omega)).pu hm.fr⟩
          · have hse := sEqF hrg
            unfold rgN at hse
            have hR := rdF_ins (x := x) (k := line) hlF hsp hrg
            repeat (first | (refine ovXAtz0_ ?_; clear hs a; intro a hs) | ((with_reducible apply lCons); first | (refine dv hs gw_ rfl rfl da_ ?_; clear hs hm a; rintro _ w ⟨g, rfl, -, hm⟩ a hs) | (refine stn hs rfl rfl ds_ ?_; clear hs hm a; rintro - w hm a hs)) | refine sc_ ?_)
            rw [hse] at hs
            repeat (first | (refine ovXAtz0_ ?_; clear hs a; intro a hs) | ((with_reducible apply lCons); first | (refine dv hs gw_ rfl rfl da_ ?_; clear hs hm a; rintro _ w ⟨g, rfl, -, hm⟩ a hs) | (refine stn hs rfl rfl ds_ ?_; clear hs hm a; rintro - w hm a hs)) | refine sc_ ?_)
            have hxw := RfX.same hx2 hm
            have hFw : Fr x.D wB _ := (Fr.of_pu hP2).then hm.fr (fun i _ hi => .inl hi)
            have hc := rinst_c x b1 o1 c s [] line _ hxw (hr1.ro hm hb1n) hb1n hlen hcnt (fun w'' hf => ht _ (hFw.then hf (fun i _ hi => hi)))
            refine st hs rfl rfl rfl (d_call hs rfl rfl rfl (pl 72 rfl) (hc)) ?_; clear hs a; rintro _ w3 ⟨e, rfl, he, hfr, hy, hye⟩ a hs
            have hszm := hFw.size
            have hF3 : Fr x.D wB w3 := hFw.then hfr (fun i _ hi2 => .inl hi2)
            clear hm
            by_cases he0 : e = 0
            · obtain ⟨y, hy⟩ := hy he0
              have hyg := hy.g
              have hm : Mm (own y.M) w3 [⟨some y.g, 93, [slv y.cA y.r.code.length y.cc, slv y.sA y.r.ss.length y.sc, slv y.dA y.ws.length y.dc, .map (some y.m), slv y.jA y.jp.length y.jc, slv y.lA y.ln.length y.lc, .bool y.r.last]⟩, ⟨y.cA, 54, y.ccs⟩, ⟨y.sA, 3, y.scs⟩, ⟨y.dA, 56, y.dcs⟩, ⟨y.jA, 9, y.jcs⟩, ⟨y.lA, 3, y.lcs⟩] w3 := hy.ok.mm
              rw [hyg] at hm
              repeat (first | (refine ovXAtz0_ ?_; clear hs a; intro a hs) | ((with_reducible apply lCons); first | (refine dv hs gw_ rfl rfl da_ ?_; clear hs hm a; rintro _ w ⟨g, rfl, -, hm⟩ a hs) | (refine stn hs rfl rfl ds_ ?_; clear hs hm a; rintro - w hm a hs)) | refine sc_ ?_)
              rw [← hyg] at hm
              have hyl := RfX.lst_ok (b := false) hy.ok hm
              refine gRet1 hs rfl rfl ⟨e, rfl, he.trans (by rw [hR]), hF3.then hm.fr (fun i hi hi2 => ?_), fun _ => ⟨y.lst false, hy.g, hy.m, ?_, hyl, fun i hi => ?_⟩⟩
              · rcases hy.nw i (.inl hi2) with h1 | h1
                · exact h1
                · omega
              · rw [hR, ← hy.r]
                rfl
              · rcases hy.nw i (RfX.lst_D.1 hi) with h1 | h1
                · exact .inl h1
                · exact .inr (by omega)
            · have hm : Mm (own x.M) _ [⟨some x.g, 93, [slv x.cA x.r.code.length x.cc, slv x.sA x.r.ss.length x.sc, slv x.dA x.ws.length x.dc, .map (some x.m), slv x.jA x.jp.length x.jc, slv x.lA x.ln.length x.lc, .bool x.r.last]⟩, ⟨x.cA, 54, x.ccs⟩, ⟨x.sA, 3, x.scs⟩, ⟨x.dA, 56, x.dcs⟩, ⟨x.jA, 9, x.jcs⟩, ⟨x.lA, 3, x.lcs⟩] w3 := hye he0
              repeat (first | (refine ovXAtz0_ ?_; clear hs a; intro a hs) | ((with_reducible apply lCons); first | (refine dv hs gw_ rfl rfl da_ ?_; clear hs hm a; rintro _ w ⟨g, rfl, -, hm⟩ a hs) | (refine stn hs rfl rfl ds_ ?_; clear hs hm a; rintro - w hm a hs)) | refine sc_ ?_)
              refine gRet1 hs rfl rfl ⟨e, rfl, he.trans (by rw [hR]), hFw.then hm.fr (fun i _ hi2 => .inl hi2), fun e0 => absurd e0 he0⟩
        obtain ⟨m, hm1⟩ : ∃ m, s.length = m + 1 := ⟨s.length - 1, by omega⟩
        obtain ⟨ch, hch⟩ : ∃ ch, s[m]? = some ch := ⟨_, List.getElem?_eq_getElem (by omega)⟩
        have hcn : ch.toNat ≠ 58 := fun e => by
          have e2 : ch = 58 := UInt8.toNat_inj.1 e
          subst e2
          have h1 : s = s.take m ++ [58] := by
            have h2 := List.take_succ_eq_append_getElem (l := s) (i := m) (by omega)
            rw [List.take_of_length_le (by omega)] at h2
            rw [List.getElem?_eq_getElem (by omega)] at hch
            rw [Option.some.inj hch] at h2
            exact h2
          rw [h1, suf_app] at hsx
          cases hsx
        have hsub : (((⟨s.toArray⟩ : ByteArray).size : Nat) : Int) - 1 = ((m : Nat) : Int) := by rw [hsz]; omega
        by_cases hrg : s = rgN
        · have hse := sEqT hrg
          unfold rgN at hse
          obtain ⟨hR2, hR1⟩ := rdF_reg (r := x.r) (k := line) (ws := []) hlF (by rw [hsp, hrg]) hL.last
          repeat (first | (refine ovXAtz0_ ?_; clear hs a; intro a hs) | ((with_reducible apply lCons); first | (refine dv hs gw_ rfl rfl da_ ?_; clear hs hm a; rintro _ w ⟨g, rfl, -, hm⟩ a hs) | (refine stn hs rfl rfl ds_ ?_; clear hs hm a; rintro - w hm a hs)) | refine sc_ ?_)
          rw [hse] at hs
          repeat (first | (refine ovXAtz0_ ?_; clear hs a; intro a hs) | ((with_reducible apply lCons); first | (refine dv hs gw_ rfl rfl da_ ?_; clear hs hm a; rintro _ w ⟨g, rfl, -, hm⟩ a hs) | (refine stn hs rfl rfl ds_ ?_; clear hs hm a; rintro - w hm a hs)) | refine sc_ ?_)
          have hxw := RfX.same hx2 hm
          have hFw : Fr x.D wB _ := (Fr.of_pu hP2).then hm.fr (fun i _ hi => .inl hi)
          have hc := rreg_c x b1 o1 c s [] _ hxw (hr1.ro hm hb1n) hbl hb1n hlen hcnt
          refine st hs rfl rfl rfl (d_call hs rfl rfl rfl (pl 71 rfl) (hc)) ?_; clear hs a; rintro _ w3 ⟨e, rfl, he, hfr, hy⟩ a hs
          have hszm := hFw.size
          have hF3 : Fr x.D wB w3 := hFw.then hfr (fun i _ hi2 => .inl hi2)
          clear hm
          have hm := Mm.nil (fun _ => False) w3
          repeat (first | (refine ovXAtz0_ ?_; clear hs a; intro a hs) | ((with_reducible apply lCons); first | (refine dv hs gw_ rfl rfl da_ ?_; clear hs hm a; rintro _ w ⟨g, rfl, -, hm⟩ a hs) | (refine stn hs rfl rfl ds_ ?_; clear hs hm a; rintro - w hm a hs)) | refine sc_ ?_)
          refine gRet1 hs rfl rfl ⟨e, rfl, he.trans hR2.symm, hF3.pu hm.fr, fun e0 => ?_⟩
          obtain ⟨y, hy⟩ := hy e0
          rw [hR1 (by rw [← he]; exact e0)]
          exact ⟨y, (hy.pre (by omega)).pu hm.fr⟩
        · have hse := sEqF hrg
          unfold rgN at hse
          have hR := rdF_ins (x := x) (k := line) hlF hsp hrg
          repeat (first | (refine ovXAtz0_ ?_; clear hs a; intro a hs) | ((with_reducible apply lCons); first | (refine dv hs gw_ rfl rfl da_ ?_; clear hs hm a; rintro _ w ⟨g, rfl, -, hm⟩ a hs) | (refine stn hs rfl rfl ds_ ?_; clear hs hm a; rintro - w hm a hs)) | refine sc_ ?_)
          rw [hse] at hs
          repeat (first | (refine ovXAtz0_ ?_; clear hs a; intro a hs) | ((with_reducible apply lCons); first | (refine dv hs gw_ rfl rfl da_ ?_; clear hs hm a; rintro _ w ⟨g, rfl, -, hm⟩ a hs) | (refine stn hs rfl rfl ds_ ?_; clear hs hm a; rintro - w hm a hs)) | refine sc_ ?_)
          have hxw := RfX.same hx2 hm
          have hFw : Fr x.D wB _ := (Fr.of_pu hP2).then hm.fr (fun i _ hi => .inl hi)
          have hc := rinst_c x b1 o1 c s [] line _ hxw (hr1.ro hm hb1n) hb1n hlen hcnt (fun w'' hf => ht _ (hFw.then hf (fun i _ hi => hi)))
          refine st hs rfl rfl rfl (d_call hs rfl rfl rfl (pl 72 rfl) (hc)) ?_; clear hs a; rintro _ w3 ⟨e, rfl, he, hfr, hy, hye⟩ a hs
          have hszm := hFw.size
          have hF3 : Fr x.D wB w3 := hFw.then hfr (fun i _ hi2 => .inl hi2)
          clear hm
          by_cases he0 : e = 0
          · obtain ⟨y, hy⟩ := hy he0
            have hyg := hy.g
            have hm : Mm (own y.M) w3 [⟨some y.g, 93, [slv y.cA y.r.code.length y.cc, slv y.sA y.r.ss.length y.sc, slv y.dA y.ws.length y.dc, .map (some y.m), slv y.jA y.jp.length y.jc, slv y.lA y.ln.length y.lc, .bool y.r.last]⟩, ⟨y.cA, 54, y.ccs⟩, ⟨y.sA, 3, y.scs⟩, ⟨y.dA, 56, y.dcs⟩, ⟨y.jA, 9, y.jcs⟩, ⟨y.lA, 3, y.lcs⟩] w3 := hy.ok.mm
            rw [hyg] at hm
            repeat (first | (refine ovXAtz0_ ?_; clear hs a; intro a hs) | ((with_reducible apply lCons); first | (refine dv hs gw_ rfl rfl da_ ?_; clear hs hm a; rintro _ w ⟨g, rfl, -, hm⟩ a hs) | (refine stn hs rfl rfl ds_ ?_; clear hs hm a; rintro - w hm a hs)) | refine sc_ ?_)
            rw [← hyg] at hm
            have hyl := RfX.lst_ok (b := false) hy.ok hm
            refine gRet1 hs rfl rfl ⟨e, rfl, he.trans (by rw [hR]), hF3.then hm.fr (fun i hi hi2 => ?_), fun _ => ⟨y.lst false, hy.g, hy.m, ?_, hyl, fun i hi => ?_⟩⟩
            · rcases hy.nw i (.inl hi2) with h1 | h1
              · exact h1
              · omega
            · rw [hR, ← hy.r]
              rfl
            · rcases hy.nw i (RfX.lst_D.1 hi) with h1 | h1
              · exact .inl h1
              · exact .inr (by omega)
          · have hm : Mm (own x.M) _ [⟨some x.g, 93, [slv x.cA x.r.code.length x.cc, slv x.sA x.r.ss.length x.sc, slv x.dA x.ws.length x.dc, .map (some x.m), slv x.jA x.jp.length x.jc, slv x.lA x.ln.length x.lc, .bool x.r.last]⟩, ⟨x.cA, 54, x.ccs⟩, ⟨x.sA, 3, x.scs⟩, ⟨x.dA, 56, x.dcs⟩, ⟨x.jA, 9, x.jcs⟩, ⟨x.lA, 3, x.lcs⟩] w3 := hye he0
            repeat (first | (refine ovXAtz0_ ?_; clear hs a; intro a hs) | ((with_reducible apply lCons); first | (refine dv hs gw_ rfl rfl da_ ?_; clear hs hm a; rintro _ w ⟨g, rfl, -, hm⟩ a hs) | (refine stn hs rfl rfl ds_ ?_; clear hs hm a; rintro - w hm a hs)) | refine sc_ ?_)
            refine gRet1 hs rfl rfl ⟨e, rfl, he.trans (by rw [hR]), hFw.then hm.fr (fun i _ hi2 => .inl hi2), fun e0 => absurd e0 he0⟩
      obtain ⟨n, hsn⟩ := suf58 hsx
      have hnl1 : s.length = n.length + 1 := by rw [hsn, List.length_append]; rfl
      have hch : s[n.length]? = some 58 := by rw [hsn, List.getElem?_append_right (Nat.le_refl _), Nat.sub_self]; rfl
      have htk : s.take n.length = n := by rw [hsn]; exact List.take_left
      have hkl : n.length ≤ s.length := by omega
      have hsub : (((⟨s.toArray⟩ : ByteArray).size : Nat) : Int) - 1 = ((n.length : Nat) : Int) := by rw [hsz]; omega
      have hnl : n.length ≤ 1000000 := by omega
      have hlb := fun w => rlab_c n w (by omega)
      have hml := hx2.ml
      have hnml := hx2.nm
      repeat (first | (refine ovXAtz0_ ?_; clear hs a; intro a hs) | ((with_reducible apply lCons); first | (refine dv hs gw_ rfl rfl da_ ?_; clear hs hm a; rintro _ w ⟨g, rfl, -, hm⟩ a hs) | (refine stn hs rfl rfl ds_ ?_; clear hs hm a; rintro - w hm a hs)) | refine sc_ ?_)
      rw [htk] at hs
      cases hat : atL x.r.lab n with
      | some v =>
        have hR2 : (rdF x.r s line).2 = 2 := by
          cases hnm : nmB n
          · rw [hsn]
            exact rdF_col (by rw [← hsn]; exact hsp) hnm
          · rw [rdF_lab (n := n) (by rw [hsn, labF_app, hnm]; rfl), hat]
            rfl
        repeat (first | (refine ovXAtz0_ ?_; clear hs a; intro a hs) | ((with_reducible apply lCons); first | (refine dv hs gw_ rfl rfl da_ ?_; clear hs hm a; rintro _ w ⟨g, rfl, -, hm⟩ a hs) | (refine stn hs rfl rfl ds_ ?_; clear hs hm a; rintro - w hm a hs)) | refine sc_ ?_)
        rw [hat] at hs
        repeat (first | (refine ovXAtz0_ ?_; clear hs a; intro a hs) | ((with_reducible apply lCons); first | (refine dv hs gw_ rfl rfl da_ ?_; clear hs hm a; rintro _ w ⟨g, rfl, -, hm⟩ a hs) | (refine stn hs rfl rfl ds_ ?_; clear hs hm a; rintro - w hm a hs)) | refine sc_ ?_)
        exact gRet1 hs rfl rfl ⟨2, rfl, hR2.symm, (Fr.of_pu hP2).then hm.fr (fun i _ hi => .inl hi), (fun e => by cases e)⟩
      | none =>
        cases hnm : nmB n
        · rw [hnm] at hlb
          have hR2 : (rdF x.r s line).2 = 2 := by
            rw [hsn]
            exact rdF_col (by rw [← hsn]; exact hsp) hnm
          repeat (first | (refine ovXAtz0_ ?_; clear hs a; intro a hs) | ((with_reducible apply lCons); first | (refine dv hs gw_ rfl rfl da_ ?_; clear hs hm a; rintro _ w ⟨g, rfl, -, hm⟩ a hs) | (refine stn hs rfl rfl ds_ ?_; clear hs hm a; rintro - w hm a hs)) | refine sc_ ?_)
          rw [hat] at hs
          repeat (first | (refine ovXAtz0_ ?_; clear hs a; intro a hs) | ((with_reducible apply lCons); first | (refine dv hs gw_ rfl rfl da_ ?_; clear hs hm a; rintro _ w ⟨g, rfl, -, hm⟩ a hs) | (refine stn hs rfl rfl ds_ ?_; clear hs hm a; rintro - w hm a hs) | (refine dvc hs hm gw_ rfl rfl rfl rfl rfl (pl 70 rfl) (hlb _) ?_; clear hs hm a; intro w hm a hs)) | refine sc_ ?_)
          exact gRet1 hs rfl rfl ⟨2, rfl, hR2.symm, (Fr.of_pu hP2).then hm.fr (fun i _ hi => .inl hi), (fun e => by cases e)⟩
        rw [hnm] at hlb
        have hR : rdF x.r s line = ({ x.r with lab := (n, x.r.code.length) :: x.r.lab, last := true }, 0) := by
          rw [rdF_lab (n := n) (by rw [hsn, labF_app, hnm]; rfl), hat]
          rfl
        repeat (first | (refine ovXAtz0_ ?_; clear hs a; intro a hs) | ((with_reducible apply lCons); first | (refine dv hs gw_ rfl rfl da_ ?_; clear hs hm a; rintro _ w ⟨g, rfl, -, hm⟩ a hs) | (refine stn hs rfl rfl ds_ ?_; clear hs hm a; rintro - w hm a hs)) | refine sc_ ?_)
        rw [hat] at hs
        repeat (first | (refine ovXAtz0_ ?_; clear hs a; intro a hs) | ((with_reducible apply lCons); first | (refine dv hs gw_ rfl rfl da_ ?_; clear hs hm a; rintro _ w ⟨g, rfl, -, hm⟩ a hs) | (refine stn hs rfl rfl ds_ ?_; clear hs hm a; rintro - w hm a hs) | (refine dvc hs hm gw_ rfl rfl rfl rfl rfl (pl 70 rfl) (hlb _) ?_; clear hs hm a; intro w hm a hs)) | refine sc_ ?_)
        have hmlw := hml.keep hm.fr hnml
        have hcl_ := h.sz.1
        have hnm1 : ∀ z ∈ ([⟨some x.g, 93, [slv x.cA x.r.code.length x.cc, slv x.sA x.r.ss.length x.sc, slv x.dA x.ws.length x.dc, .map (some x.m), slv x.jA x.jp.length x.jc, slv x.lA x.ln.length x.lc, .bool x.r.last]⟩, ⟨x.cA, 54, x.ccs⟩, ⟨x.sA, 3, x.scs⟩, ⟨x.dA, 56, x.dcs⟩, ⟨x.jA, 9, x.jcs⟩, ⟨x.lA, 3, x.lcs⟩] : List Hp), z.g ≠ some x.m := fun z hz e => hnml ⟨z, hz, e⟩
        replace hm := hm.wide (T := x.D) (fun i t => .inl t)
        refine cMid (fun a w => Sl Tryz.f46.ntmps [(0, .pointer (some ⟨x.g, 0, none⟩))] a ∧ Mm x.D w2 [⟨some x.g, 93, [slv x.cA x.r.code.length x.cc, slv x.sA x.r.ss.length x.sc, slv x.dA x.ws.length x.dc, .map (some x.m), slv x.jA x.jp.length x.jc, slv x.lA x.ln.length x.lc, .bool true]⟩, ⟨x.cA, 54, x.ccs⟩, ⟨x.sA, 3, x.scs⟩, ⟨x.dA, 56, x.dcs⟩, ⟨x.jA, 9, x.jcs⟩, ⟨x.lA, 3, x.lcs⟩] w ∧ ML x.m ((n, x.r.code.length) :: x.r.lab) w) ?_ ?_
        · skip
          refine cDrawP (n := 18) [] hm rfl rfl ?_
          clear hm
          intro w2 hm hdr
          have hml2 := hmlw.keep hdr (fun t => t)
          refine hV_ 0 ?_; clear hs a; intro a hs
          refine hV_ 1 ?_; clear hs a; intro a hs
          refine hV_ 2 ?_; clear hs a; intro a hs
          refine hV_ 4 ?_; clear hs a; intro a hs
          refine hV_ 5 ?_; clear hs a; intro a hs
          refine hV_ 6 ?_; clear hs a; intro a hs
          refine hV_ 7 ?_; clear hs a; intro a hs
          refine hV_ 8 ?_; clear hs a; intro a hs
          refine hV_ 9 ?_; clear hs a; intro a hs
          refine hEach [3, 10] (by kernel_rfl) (eDo hs rfl (Wnt.none rfl) rfl rfl (RunV.does kv_) ?_ (eDo hs rfl (Wnt.none rfl) rfl rfl (RunV.does kv_) ?_ eNil))
          · skip
            clear hs a
            rintro _ _ ⟨rfl, rfl⟩ a hs
            refine ⟨hm.sub sub_, ?_⟩
            refine hEach [10, 12] (by kernel_rfl) (eDo hs rfl (Wnt.none rfl) rfl rfl (RunV.does kv_) ?_ (eDo hs rfl (Wnt.none rfl) rfl rfl (d_entry hs rfl rfl rfl hnl hml2 (by omega) hat) ?_ eNil))
            · skip
              clear hs a
              rintro _ _ ⟨rfl, rfl⟩ a hs
              refine ⟨hm.sub sub_, ?_⟩
              refine hTake 11 hs rfl (by kernel_rfl) (Wnt.none rfl) rfl rfl (by intro w hm; replace hm : Mm _ _ _ w := hm; (first | exact r_val hs tab rfl | exact r_bi hs rfl | exact r_pick hs rfl rfl rfl rfl)) (hm.sub (List.nil_sublist _)) ?_; clear hs a; intro a hs
              refine hEach [12] (by kernel_rfl) (eDo hs rfl (Wnt.none rfl) rfl rfl (d_entry hs rfl rfl rfl hnl hml2 (by omega) hat) ?_ eNil)
              clear hs
              rintro _ w1 ⟨v0, st, rfl, hmi, hfr⟩ a hs
              replace hm := hm.far hfr (.inr rfl) hnm1
              refine ⟨hm.sub sub_, ?_⟩
              refine hV_ 13 ?_; clear hs a; intro a hs
              refine hEach [14] (by kernel_rfl) (eDoN hs rfl (Wnt.none rfl) rfl (d_estore hs rfl rfl rfl rfl (by omega) hmi) ?_ eNil)
              clear hs
              rintro _ w1 ⟨hml3, hfr⟩ a hs
              replace hm := hm.far hfr (.inr rfl) hnm1
              refine ⟨hm.sub sub_, ?_⟩
              refine hRebase hm ?_
              have hmB := hm
              replace hm := hmB.rebase
              refine hV_ 15 ?_; clear hs a; intro a hs
              refine hV_ 16 ?_; clear hs a; intro a hs
              refine hEach [17] (by kernel_rfl) (eDoN hs rfl (Wnt.none rfl) rfl ds_ ?_ eNil)
              clear hs hm
              rintro - w37 hm a hs
              refine ⟨hm.sub sub_, ?_⟩
              refine hDone (by kernel_rfl) ?_
              exact And.intro rfl ⟨hs.sub (Has.all ⟨rfl, trivial⟩), hmB.trans hm, hml3.keep hm.fr (fun ⟨z, hz, e⟩ => hnm1 z hz e)⟩
            · skip
              clear hs
              rintro _ w1 ⟨v0, st, rfl, hmi, hfr⟩ a hs
              replace hm := hm.far hfr (.inr rfl) hnm1
              refine ⟨hm.sub sub_, ?_⟩
              refine hV_ 13 ?_; clear hs a; intro a hs
              refine hEach [10] (by kernel_rfl) (eDo hs rfl (Wnt.none rfl) rfl rfl (RunV.does kv_) ?_ eNil)
              clear hs a
              rintro _ _ ⟨rfl, rfl⟩ a hs
              refine ⟨hm.sub sub_, ?_⟩
              refine hTake 11 hs rfl (by kernel_rfl) (Wnt.none rfl) rfl rfl (by intro w hm; replace hm : Mm _ _ _ w := hm; (first | exact r_val hs tab rfl | exact r_bi hs rfl | exact r_pick hs rfl rfl rfl rfl)) (hm.sub (List.nil_sublist _)) ?_; clear hs a; intro a hs
              refine hEach [14] (by kernel_rfl) (eDoN hs rfl (Wnt.none rfl) rfl (d_estore hs rfl rfl rfl rfl (by omega) hmi) ?_ eNil)
              clear hs
              rintro _ w1 ⟨hml3, hfr⟩ a hs
              replace hm := hm.far hfr (.inr rfl) hnm1
              refine ⟨hm.sub sub_, ?_⟩
              refine hRebase hm ?_
              have hmB := hm
              replace hm := hmB.rebase
              refine hV_ 15 ?_; clear hs a; intro a hs
              refine hV_ 16 ?_; clear hs a; intro a hs
              refine hEach [17] (by kernel_rfl) (eDoN hs rfl (Wnt.none rfl) rfl ds_ ?_ eNil)
              clear hs hm
              rintro - w37 hm a hs
              refine ⟨hm.sub sub_, ?_⟩
              refine hDone (by kernel_rfl) ?_
              exact And.intro rfl ⟨hs.sub (Has.all ⟨rfl, trivial⟩), hmB.trans hm, hml3.keep hm.fr (fun ⟨z, hz, e⟩ => hnm1 z hz e)⟩
          · skip
            clear hs a
            rintro _ _ ⟨rfl, rfl⟩ a hs
            refine ⟨hm.sub sub_, ?_⟩
            refine hTake 11 hs rfl (by kernel_rfl) (Wnt.none rfl) rfl rfl (by intro w hm; replace hm : Mm _ _ _ w := hm; (first | exact r_val hs tab rfl | exact r_bi hs rfl | exact r_pick hs rfl rfl rfl rfl)) (hm.sub (List.nil_sublist _)) ?_; clear hs a; intro a hs
            refine hEach [3] (by kernel_rfl) (eDo hs rfl (Wnt.none rfl) rfl rfl (RunV.does kv_) ?_ eNil)
            clear hs a
            rintro _ _ ⟨rfl, rfl⟩ a hs
            refine ⟨hm.sub sub_, ?_⟩
            refine hEach [12] (by kernel_rfl) (eDo hs rfl (Wnt.none rfl) rfl rfl (d_entry hs rfl rfl rfl hnl hml2 (by omega) hat) ?_ eNil)
            clear hs
            rintro _ w1 ⟨v0, st, rfl, hmi, hfr⟩ a hs
            replace hm := hm.far hfr (.inr rfl) hnm1
            refine ⟨hm.sub sub_, ?_⟩
            refine hV_ 13 ?_; clear hs a; intro a hs
            refine hEach [14] (by kernel_rfl) (eDoN hs rfl (Wnt.none rfl) rfl (d_estore hs rfl rfl rfl rfl (by omega) hmi) ?_ eNil)
            clear hs
            rintro _ w1 ⟨hml3, hfr⟩ a hs
            replace hm := hm.far hfr (.inr rfl) hnm1
            refine ⟨hm.sub sub_, ?_⟩
            refine hRebase hm ?_
            have hmB := hm
            replace hm := hmB.rebase
            refine hV_ 15 ?_; clear hs a; intro a hs
            refine hV_ 16 ?_; clear hs a; intro a hs
            refine hEach [17] (by kernel_rfl) (eDoN hs rfl (Wnt.none rfl) rfl ds_ ?_ eNil)
            clear hs hm
            rintro - w37 hm a hs
            refine ⟨hm.sub sub_, ?_⟩
            refine hDone (by kernel_rfl) ?_
            exact And.intro rfl ⟨hs.sub (Has.all ⟨rfl, trivial⟩), hmB.trans hm, hml3.keep hm.fr (fun ⟨z, hz, e⟩ => hnm1 z hz e)⟩
        clear hs hm a
        rintro a w ⟨hs, hm, hml3⟩
        repeat (first | (refine ovXAtz0_ ?_; clear hs a; intro a hs) | ((with_reducible apply lCons); first | (refine dv hs gw_ rfl rfl da_ ?_; clear hs hm a; rintro _ w ⟨g, rfl, -, hm⟩ a hs) | (refine stn hs rfl rfl ds_ ?_; clear hs hm a; rintro - w hm a hs)) | refine sc_ ?_)
        have hF9 : Fr x.D wB _ := (Fr.of_pu hP2).then hm.fr (fun i _ hi => hi)
        refine gRet1 hs rfl rfl ⟨0, rfl, by rw [hR], hF9, fun _ => ?_⟩
        rw [hR]
        obtain ⟨y, hy⟩ : ∃ y : RfX, y = { x with r := { x.r with lab := (n, x.r.code.length) :: x.r.lab, last := true } } := ⟨_, rfl⟩
        have hyM : y.M = [⟨some x.g, 93, [slv x.cA x.r.code.length x.cc, slv x.sA x.r.ss.length x.sc, slv x.dA x.ws.length x.dc, .map (some x.m), slv x.jA x.jp.length x.jc, slv x.lA x.ln.length x.lc, .bool true]⟩, ⟨x.cA, 54, x.ccs⟩, ⟨x.sA, 3, x.scs⟩, ⟨x.dA, 56, x.dcs⟩, ⟨x.jA, 9, x.jcs⟩, ⟨x.lA, 3, x.lcs⟩] := by rw [hy]; rfl
        have hyo : ∀ i, own y.M i ↔ own x.M i := fun i => by rw [RfX.own_iff, RfX.own_iff, hy]
        have hyD : ∀ i, y.D i → x.D i := fun i hi => by
          rcases hi with hi | hi
          · exact .inl ((hyo i).1 hi)
          · rw [hy] at hi
            exact .inr hi
        rw [← hyM] at hm
        refine ⟨y, by rw [hy], by rw [hy], by rw [hy], ⟨hm.rebase, by rw [hy]; exact (hml3.keep (Fr.refl (fun _ => False) _) (fun t => t)), fun hi => ?_, by rw [hy]; exact h.c, by rw [hy]; exact h.s, by rw [hy]; exact h.d, by rw [hy]; exact h.j, by rw [hy]; exact h.l, by rw [hy]; exact h.ws, fun r hr => ?_, by rw [hy]; exact h.js, ?_, by rw [hy]; exact h.ln0⟩, fun i hi => .inl (hyD i hi)⟩
        · have h9 := (hyo _).1 hi
          rw [hy] at h9
          exact h.nm h9
        · obtain ⟨h1, h2⟩ := hx2.wr r (by rw [hy] at hr; exact hr)
          exact ⟨WS.rdn hm.fr h1 (fun g hg => (h2 g hg).1), fun g hg => ⟨fun hi => (h2 g hg).1 (hyD g hi), Nat.lt_of_lt_of_le (h2 g hg).2 hm.fr.size⟩⟩
        · rw [hy]
          obtain ⟨z1, z2, z3, z4, z4b, z5⟩ := h.sz
          exact ⟨z1, z2, z3, z4, z4b, by dsimp only; rw [List.length_cons]; omega⟩
end Go.Proofs.YtajkekhnfobgiaaGreatDoor

/- The reference's Parse. -/
namespace Go.Proofs.YtajkekhnfobgiaaGreatDoor
set_option maxRecDepth 20000
open Go.RowKit
theorem ovXAua0_ {G H : Prop} (k : H) (s : H → G := by intro k; (with_reducible refine toL hm ?_); first | exact oneV hs gw_ rfl rfl (by intro w hm; (first | exact kvR_ | exact r_lookS hs rfl rfl rfl hjl hml hm hnml)) k | exact oneN hs rfl rfl rfl rfl rfl rfl rfl k | exact oneU hs rfl rfl rfl rfl rfl rfl k) : G := s k

structure PbX where
  k : Nat
  x : RfX
structure JtX where
  k : Nat
  code : List In
  ccs : List Value


set_option maxHeartbeats 32000000 in
theorem rpar_c (s : Tx) (wB : World) (ht : TW wB) (hs0 : s.length ≤ 1000000000000) :
    Ret Tryz.prog 21 [txv s] wB (fun u w' => ∃ p : PV, u = .tuple #[p.v, .int .i64 (parF s).2.1, .int .i64 (parF s).2.2] ∧ p.ok w' ∧ p.code = (parF s).1.code ∧ p.ss = (parF s).1.ss ∧ p.ws.map WV.xs = (parF s).1.ws ∧ Pu wB w') := by
  have hsz := ba_s s
  refine enterR Tryz.func21 rfl rfl rfl fun a hs hm => ?_
  by_cases hlong : 4096 < s.length
  · have hp := par_long hlong
    repeat (first | (refine ovXAua0_ ?_; clear hs a; intro a hs) | ((with_reducible apply lCons); first | (refine dv hs gw_ rfl rfl da_ ?_; clear hs hm a; rintro _ w ⟨g, rfl, -, hm⟩ a hs) | (refine stn hs rfl rfl ds_ ?_; clear hs hm a; rintro - w hm a hs)) | refine sc_ ?_)
    exact gRetN tab hs rfl (.cons (.cells rfl rfl rfl rfl (hm.ro (k := 0) (n := 3) mem_ (cutF_ok rfl))) (.cons (.tmp rfl) (.cons (.tmp rfl) .nil))) ⟨pvE, by rw [hp]; rfl, pvE_ok _, by rw [hp]; rfl, by rw [hp]; rfl, by rw [hp]; rfl, hm.fr⟩
  repeat (first | (refine ovXAua0_ ?_; clear hs a; intro a hs) | ((with_reducible apply lCons); first | (refine dv hs gw_ rfl rfl da_ ?_; clear hs hm a; rintro _ w ⟨g, rfl, -, hm⟩ a hs) | (refine stn hs rfl rfl ds_ ?_; clear hs hm a; rintro - w hm a hs)) | refine sc_ ?_)
  obtain ⟨g2, en_⟩ := hs.pt 2 (by exact rfl); subst en_
  have htw := ht.pu hm.fr
  have hg2w := Hp.lt (hm.me _ (List.mem_cons_self ..)) rfl
  have hg2B : wB.heap.size ≤ g2 := by
    rcases hm.ow _ (List.mem_cons_self ..) g2 rfl with h1 | h1
    · exact h1
    · exact h1.elim
  refine st hs rfl rfl rfl (d_call hs rfl rfl rfl (pl 18 rfl) ((split_n 10 s _ (by omega) htw))) ?_; clear hs a; rintro _ w2 ⟨⟨lA, lc, ls⟩, rfl, hr, hx, hf, hnw⟩ a hs
  have hmS := hm.pu hf
  have hszw := hf.size
  clear hm hf htw
  dsimp only at hx hnw
  subst hx
  unfold SS.v at hs
  dsimp only at hs
  obtain ⟨b1, o1, rfl, hb1, r1⟩ := hr.2.ro (by show 0 < ((spl 10 s).map txv).length; rw [List.length_map]; exact List.length_pos_iff.2 (spl_ne 10 s))
  have hb1n := hnw _ rfl
  dsimp only at r1 hb1 hb1n
  have hn1 : 0 < (spl 10 s).length := List.length_pos_iff.2 (spl_ne 10 s)
  have hn2 := spl_cnt_le 10 s
  have hng12 : ¬ own [⟨some g2, 26, [.slice none 0 0, .slice none 0 0, .slice none 0 0]⟩] b1 := fun ⟨z, hz, e⟩ => by
    rcases List.mem_singleton.1 hz with rfl
    cases e
    omega
  have hm := hmS.rebase
  repeat (first | (refine ovXAua0_ ?_; clear hs a; intro a hs) | ((with_reducible apply lCons); first | (refine dv hs gw_ rfl rfl da_ ?_; clear hs hm a; rintro _ w ⟨g, rfl, -, hm⟩ a hs) | (refine stn hs rfl rfl ds_ ?_; clear hs hm a; rintro - w hm a hs)) | refine sc_ ?_)
  refine dv hs (Wnt.none rfl) rfl rfl (d_makeMapS rfl hm) ?_
  clear hs
  have hmB := hm
  clear hm
  rintro _ w5 ⟨rfl, hml, hf5, hm5⟩ a hs
  obtain ⟨gm, hgm⟩ : ∃ g, w2.heap.size = g := ⟨_, rfl⟩
  rw [hgm] at hs hml
  have hg2 : g2 < gm := by omega
  have hgmB : w2.heap.size ≤ gm := by omega
  clear hmB
  have hm := hm5.rebase
  repeat (first | (refine ovXAua0_ ?_; clear hs a; intro a hs) | ((with_reducible apply lCons); first | (refine dv hs gw_ rfl rfl da_ ?_; clear hs hm a; rintro _ w ⟨g, rfl, -, hm⟩ a hs) | (refine stn hs rfl rfl ds_ ?_; clear hs hm a; rintro - w hm a hs)) | refine sc_ ?_)
  obtain ⟨g6, en_⟩ := hs.pt 6 (by exact rfl); subst en_
  obtain ⟨wA, hwA⟩ : ∃ u : World, u = w := ⟨w, rfl⟩
  subst hwA
  have hmlw := hml.keep hm.fr (fun ⟨z, hz, e⟩ => by rcases List.mem_singleton.1 hz with rfl; cases e; omega)
  have hmA0 := hm5.trans hm
  clear hm hml hf5 hm5
  have q10 := r1.ro hmA0 hng12
  have hmA := hmS.trans hmA0
  have hszA := hmA0.fr.size
  have hg6n : w2.heap.size ≤ g6 := by
    rcases hmA0.ow _ (List.mem_cons_self ..) g6 rfl with h1 | ⟨z, hz, e⟩
    · exact h1
    · rcases List.mem_singleton.1 hz with rfl
      exact absurd e (fun e => hmA0.dj.1 _ (List.mem_cons_self ..) g6 rfl e)
  clear hmA0 hmS
  obtain ⟨x0, hx0⟩ : ∃ x0 : RfX, x0 = ⟨g6, gm, none, 0, [], none, 0, [], none, 0, [], none, 0, [], none, 0, [], [], [], [], r0F⟩ := ⟨_, rfl⟩
  have hx0M : Mm (fun _ => False) wB x0.M wA := by
    rw [hx0]
    exact ((((((hmA.sel (M' := [⟨some g6, 93, [.slice none 0 0, .slice none 0 0, .slice none 0 0, .map (some gm), .slice none 0 0, .slice none 0 0, .bool false]⟩]) [0] (by decide) rfl).zero 3).zero 9).zero 56).zero 3).zero 54).sel [5, 0, 1, 2, 3, 4] (by decide) rfl
  have hx0ok : x0.ok wA := by
    have h1 := hmlw.notown hx0M
    rw [hx0] at hx0M h1 ⊢
    exact ⟨hx0M.rebase, hmlw, h1, Row.empty 5, Row.empty 1, Row.empty 1, Row.empty 1, Row.empty 1, rfl, (fun _ hr => absurd hr List.not_mem_nil), rfl, ⟨Nat.zero_le _, Nat.zero_le _, rfl, rfl, rfl, Nat.zero_le _⟩, (fun _ hr => absurd hr List.not_mem_nil)⟩
  have hg6w := Hp.lt (hmA.me _ (List.mem_cons_self ..)) rfl
  have hg6B : wB.heap.size ≤ g6 := by
    rcases hmA.ow _ (List.mem_cons_self ..) g6 rfl with h1 | h1
    · exact h1
    · exact h1.elim
  have hg62 : g2 ≠ g6 := fun e => hmA.dj.1 _ (List.mem_cons_self ..) g6 rfl (by rw [e])
  have hgmw := hmlw.lt
  have b20 : Blk wA g2 26 #[.slice none 0 0, .slice none 0 0, .slice none 0 0] := hmA.me _ (List.mem_cons_of_mem _ (List.mem_cons_self ..))
  have hP := hmA.fr
  clear hmA hx0M hmlw r1
  obtain ⟨D0, hD0⟩ : ∃ D0 : Nat → Prop, ∀ i, D0 i ↔ (i = g6 ∨ i = gm ∨ wA.heap.size ≤ i) := ⟨_, fun _ => Iff.rfl⟩
  have hnb1 : ¬ D0 b1 := by rw [hD0]; omega
  have hng2 : ¬ D0 g2 := by rw [hD0]; have := b20.lt; omega
  refine cLoop (X := PbX) (fun X a w' => Sl Tryz.f21.ntmps [(2, .pointer (some ⟨g2, 0, none⟩)), (3, .int .i64 0), (4, .int .i64 0), (5, .slice (some ⟨b1, o1, none⟩) (spl 10 s).length lc), (6, .pointer (some ⟨X.x.g, 0, none⟩)), (22, .slice (some ⟨b1, o1, none⟩) (spl 10 s).length lc), (23, .int .i64 ((spl 10 s).length : Int)), (24, .int .i64 (X.k : Int))] a ∧ Fr D0 wA w' ∧ X.k < (spl 10 s).length ∧ X.x.ok w' ∧ X.x.g = g6 ∧ X.x.m = gm ∧ (∀ i, X.x.D i → D0 i) ∧ RdG X.x.r ∧ RdL X.x.r ∧ X.x.r.lab.length ≤ X.k ∧ rdA r0F (spl 10 s).dropLast 0 = rdA X.x.r ((spl 10 s).dropLast.drop X.k) X.k) (fun X => (spl 10 s).length - X.k) ⟨0, x0⟩ ⟨by rw [hx0]; exact hs.sub (Has.all ⟨rfl, rfl, rfl, rfl, rfl, rfl, rfl, rfl, trivial⟩), Fr.refl _ _, hn1, hx0ok, by rw [hx0], by rw [hx0], fun i hi => ?_, by rw [hx0]; exact RdG.nil, by rw [hx0]; exact RdL.nil, by rw [hx0]; exact Nat.zero_le _, by rw [hx0]; rfl⟩ ?_
  · rw [hx0] at hi
    rw [hD0]
    rcases hi with hi | hi
    · rw [RfX.own_iff] at hi
      simp at hi
      exact .inl hi.symm
    · exact .inr (.inl hi)
  clear hs a hx0ok hx0
  rintro ⟨k, x⟩ a w' ⟨hs, hF, hk, hx, hxg, hxm, hxD, hG, hLL, hlab, hA⟩
  dsimp only at hs hF hk hx hxg hxm hxD hG hLL hlab hA
  obtain ⟨ln, hln⟩ : ∃ z, (spl 10 s)[k] = z := ⟨_, rfl⟩
  have e1 : ((spl 10 s).map txv)[k]? = some (txv ln) := by rw [List.getElem?_map, List.getElem?_eq_getElem hk, hln]; rfl
  have hlnl : ln.length ≤ 4096 := by have := spl_mem_le 10 s _ (List.getElem_mem hk); rw [hln] at this; omega
  have q1 : Ro w' b1 o1 ((spl 10 s).map txv) := fun j v h => hF.cl (q10 j v h) hnb1
  have hnb : ¬ own x.M b1 := fun h => hnb1 (hxD _ (.inl h))
  have hD0B : ∀ i, D0 i → wB.heap.size ≤ i := fun i h => by
    have := hP.size
    rcases (hD0 i).1 h with h | h | h <;> omega
  have hm : Mm (own x.M) w' [⟨some x.g, 93, [slv x.cA x.r.code.length x.cc, slv x.sA x.r.ss.length x.sc, slv x.dA x.ws.length x.dc, .map (some x.m), slv x.jA x.jp.length x.jc, slv x.lA x.ln.length x.lc, .bool x.r.last]⟩, ⟨x.cA, 54, x.ccs⟩, ⟨x.sA, 3, x.scs⟩, ⟨x.dA, 56, x.dcs⟩, ⟨x.jA, 9, x.jcs⟩, ⟨x.lA, 3, x.lcs⟩] w' := hx.mm
  by_cases hkl : k + 1 = (spl 10 s).length
  · have hlast : (spl 10 s).getLastD [] = ln := by rw [← hln]; exact lastD_at hk hkl
    have hA0 : rdA r0F (spl 10 s).dropLast 0 = (x.r, k, 0) := by
      rw [hA, List.drop_of_length_le (by rw [List.length_dropLast]; omega)]
      rfl
    repeat (first | (refine ovXAua0_ ?_; clear hs a; intro a hs) | ((with_reducible apply lCons); first | (refine dv hs gw_ rfl rfl da_ ?_; clear hs hm a; rintro _ w ⟨g, rfl, -, hm⟩ a hs) | (refine stn hs rfl rfl ds_ ?_; clear hs hm a; rintro - w hm a hs)) | refine sc_ ?_)
    obtain ⟨w, hw9⟩ : ∃ u : World, u = w' := ⟨w', rfl⟩
    subst hw9
    have hFw : Fr D0 wA w := hF.then hm.fr (fun i _ hi => hxD i (.inl hi))
    have hPw : Pu wB w := hP.then hFw (fun i hi h => by have := hD0B i h; omega)
    have b2 : Blk w g2 26 #[.slice none 0 0, .slice none 0 0, .slice none 0 0] := hFw.blk b20 hng2
    by_cases hle : ln = []
    case neg =>
      have hp : parF s = (⟨[], [], []⟩, (k : Int), 2) := by
        rw [par_last hlong hA0 (by rw [hlast]; exact hle)]
        congr 2
        omega
      rw [sEqF hle] at hs
      clear hm
      have hm := Mm.adopt2 b2
      repeat (first | (refine ovXAua0_ ?_; clear hs a; intro a hs) | ((with_reducible apply lCons); first | (refine dv hs gw_ rfl rfl da_ ?_; clear hs hm a; rintro _ w ⟨g, rfl, -, hm⟩ a hs) | (refine stn hs rfl rfl ds_ ?_; clear hs hm a; rintro - w hm a hs)) | refine sc_ ?_)
      exact gRetN tab hs rfl (.cons (.cells rfl rfl rfl rfl (hm.ro (k := 0) (n := 3) mem_ (cutF_ok rfl))) (.cons (.tmp rfl) (.cons (.tmp rfl) .nil))) ⟨pvE, by rw [hp]; rfl, pvE_ok _, by rw [hp]; rfl, by rw [hp]; rfl, by rw [hp]; rfl, hPw.then hm.fr (fun i hi ⟨z, hz, e⟩ => by rcases List.mem_singleton.1 hz with rfl; cases e; omega)⟩
    have hxw : x.ok w := RfX.same hx hm
    have hp := par_js hlong hA0 (by rw [hlast]; exact hle)
    subst hle
    rw [sEE] at hs
    obtain ⟨wC, hwC⟩ : ∃ u : World, u = w := ⟨w, rfl⟩
    subst hwC
    have rg : Ro wC x.g 0 [slv x.cA x.r.code.length x.cc, slv x.sA x.r.ss.length x.sc, slv x.dA x.ws.length x.dc, .map (some x.m), slv x.jA x.jp.length x.jc, slv x.lA x.ln.length x.lc, .bool x.r.last] := hm.ro (k := 0) (n := 7) mem_ (cutF_ok rfl)
    have rg3 : ∀ _ : Unit, Ro wC x.g 0 [slv x.cA x.r.code.length x.cc, slv x.sA x.r.ss.length x.sc, slv x.dA x.ws.length x.dc] := fun _ => hm.ro (k := 0) (n := 3) mem_ (cutF_ok rfl)
    have hmc : Mm (own [⟨x.cA, 54, x.ccs⟩]) wC [⟨x.cA, 54, x.ccs⟩] wC := (hm.sel (M' := [⟨x.cA, 54, x.ccs⟩]) [1] (by decide) rfl).rebase
    have hdj := hm.dj
    have hjr : ∀ gj, x.jA = some gj → Ro wC gj 0 (x.jp.map txv) := fun gj e => by
      have h1 : (⟨x.jA, 9, x.jcs⟩ : Hp) ∈ x.M := mem_
      have h2 := hx.j
      rw [e] at h1 h2
      exact row_ro hxw.mm h1 h2
    have hlr : ∀ gl, x.lA = some gl → Ro wC gl 0 (ints x.ln) := fun gj e => by
      have h1 : (⟨x.lA, 3, x.lcs⟩ : Hp) ∈ x.M := mem_
      have h2 := hx.l
      rw [e] at h1 h2
      exact row_ro hxw.mm h1 h2
    have hrs : Rd wC wC.heap.size (x.sA.map fun g => ⟨g, 0, none⟩) (ints x.r.ss) := hm.rd_row mem_ hx.s
    have hrd : Rd wC wC.heap.size (x.dA.map fun g => ⟨g, 0, none⟩) (x.ws.map WS.v) := hm.rd_row mem_ hx.d
    have hrw := hxw.wr
    have hml := hxw.ml
    have hnml := hml.notown hmc
    have hng : ¬ own [⟨x.cA, 54, x.ccs⟩] x.g := fun ⟨z, hz, e⟩ => by
      rcases List.mem_singleton.1 hz with rfl
      exact hdj.1 _ (List.mem_cons_self ..) x.g rfl e
    have hngs : ∀ gj, x.sA = some gj → ¬ own [⟨x.cA, 54, x.ccs⟩] gj := fun gj e ⟨z, hz, e2⟩ => by
      rcases List.mem_singleton.1 hz with rfl
      exact hdj.2.1 ⟨x.sA, 3, x.scs⟩ mem_ gj e2 e
    have hngd : ∀ gj, x.dA = some gj → ¬ own [⟨x.cA, 54, x.ccs⟩] gj := fun gj e ⟨z, hz, e2⟩ => by
      rcases List.mem_singleton.1 hz with rfl
      exact hdj.2.1 ⟨x.dA, 56, x.dcs⟩ mem_ gj e2 e
    have hngj : ∀ gj, x.jA = some gj → ¬ own [⟨x.cA, 54, x.ccs⟩] gj := fun gj e ⟨z, hz, e2⟩ => by
      rcases List.mem_singleton.1 hz with rfl
      exact hdj.2.1 ⟨x.jA, 9, x.jcs⟩ mem_ gj e2 e
    have hngl : ∀ gj, x.lA = some gj → ¬ own [⟨x.cA, 54, x.ccs⟩] gj := fun gj e ⟨z, hz, e2⟩ => by
      rcases List.mem_singleton.1 hz with rfl
      exact hdj.2.1 ⟨x.lA, 3, x.lcs⟩ mem_ gj e2 e
    have hS1D : ∀ i, own [⟨x.cA, 54, x.ccs⟩] i → x.D i := fun i ⟨z, hz, e⟩ => by
      rcases List.mem_singleton.1 hz with rfl
      exact .inl (RfX.own_iff.2 (.inr (.inl e)))
    have hsD : ∀ g, x.sA = some g → D0 g := fun g e => hxD g (.inl (RfX.own_iff.2 (.inr (.inr (.inl e)))))
    have hdD : ∀ g, x.dA = some g → D0 g := fun g e => hxD g (.inl (RfX.own_iff.2 (.inr (.inr (.inr (.inl e))))))
    have hlD : ∀ g, x.lA = some g → D0 g := fun g e => hxD g (.inl (RfX.own_iff.2 (.inr (.inr (.inr (.inr (.inr e)))))))
    have hcD : ∀ g, x.cA = some g → D0 g := fun g e => hxD g (.inl (RfX.own_iff.2 (.inr (.inl e))))
    have hxc := hx.c
    have hjle := hx.sz
    have hln0 := hx.ln0
    rw [hx.js] at hp
    clear hm hA hA0 e1 q1
    obtain ⟨S1, hS1⟩ : ∃ S : Nat → Prop, own [⟨x.cA, 54, x.ccs⟩] = S := ⟨_, rfl⟩
    rw [hS1] at hmc hng hngj hngl hnml hngs hngd hS1D
    have hm := hmc
    repeat (first | (refine ovXAua0_ ?_; clear hs a; intro a hs) | ((with_reducible apply lCons); first | (refine dv hs gw_ rfl rfl da_ ?_; clear hs hm a; rintro _ w ⟨g, rfl, -, hm⟩ a hs) | (refine stn hs rfl rfl ds_ ?_; clear hs hm a; rintro - w hm a hs)) | refine sc_ ?_)
    refine cLoop (X := JtX) (fun X a w' => Sl Tryz.f21.ntmps [(2, .pointer (some ⟨g2, 0, none⟩)), (3, .int .i64 0), (4, .int .i64 0), (5, .slice (some ⟨b1, o1, none⟩) (spl 10 s).length lc), (6, .pointer (some ⟨x.g, 0, none⟩)), (48, slv x.jA x.jp.length x.jc), (49, .int .i64 (x.jp.length : Int)), (50, .int .i64 (X.k : Int))] a ∧ Mm S1 wC [⟨x.cA, 54, X.ccs⟩] w' ∧ X.k ≤ x.jp.length ∧ X.code.length = x.r.code.length ∧ Row x.cA x.r.code.length x.cc 5 (X.code.flatMap inV) X.ccs ∧ jsF x.r.lab x.r.code (jsO x.jp x.ln) = jsF x.r.lab X.code (jsK x.jp x.ln X.k)) (fun X => x.jp.length - X.k) ⟨0, x.r.code, x.ccs⟩ ⟨hs.sub (Has.all ⟨rfl, rfl, rfl, rfl, rfl, rfl, rfl, rfl, trivial⟩), hm, Nat.zero_le _, rfl, hxc, by rw [jsK_0]⟩ ?_
    clear hs hm hmc a
    rintro ⟨q, code, ccs⟩ a w4 ⟨hs, hm, hq, hcl, hrow, hJ⟩
    dsimp only at hs hm hq hcl hrow hJ
    have hFw4 : Fr D0 wA w4 := hFw.then hm.fr (fun i _ hi => hxD i (hS1D i hi))
    have hPw4 : Pu wB w4 := hP.then hFw4 (fun i hi h => by have := hD0B i h; omega)
    have hgx : g2 ≠ x.g := by rw [hxg]; exact hg62
    by_cases hlt : q < x.jp.length
    · obtain ⟨jl, hj⟩ : ∃ z, x.jp[q] = z := ⟨_, rfl⟩
      have e2 : (x.jp.map txv)[q]? = some (txv jl) := by rw [List.getElem?_map, List.getElem?_eq_getElem hlt, hj]; rfl
      obtain ⟨gj, hgj⟩ := hx.j.some_ (by omega)
      obtain ⟨gc, hgc⟩ := hrow.some_ (by omega)
      have r2 := hjr gj hgj
      have hnj := hngj gj hgj
      rw [hgj] at hs rg ⊢
      rw [hgc] at hm rg hrow ⊢
      by_cases hle : jl = []
      · have hJ2 := jsK_no (ln := x.ln) hlt (hj.trans hle)
        subst hle
        repeat (first | (refine ovXAua0_ ?_; clear hs a; intro a hs) | ((with_reducible apply lCons); first | (refine dv hs gw_ rfl rfl da_ ?_; clear hs hm a; rintro _ w ⟨g, rfl, -, hm⟩ a hs) | (refine stn hs rfl rfl ds_ ?_; clear hs hm a; rintro - w hm a hs)) | refine sc_ ?_)
        rw [sEE] at hs
        repeat (first | (refine ovXAua0_ ?_; clear hs a; intro a hs) | ((with_reducible apply lCons); first | (refine dv hs gw_ rfl rfl da_ ?_; clear hs hm a; rintro _ w ⟨g, rfl, -, hm⟩ a hs) | (refine stn hs rfl rfl ds_ ?_; clear hs hm a; rintro - w hm a hs)) | refine sc_ ?_)
        exact ⟨⟨q + 1, code, ccs⟩, by dsimp only; omega, hs.sub (Has.all ⟨rfl, rfl, rfl, rfl, rfl, rfl, rfl, rfl, trivial⟩), hm, by dsimp only; omega, hcl, hrow, by rw [hJ, hJ2]⟩
      have hlq : q < x.ln.length := by omega
      obtain ⟨jln, hjn⟩ : ∃ z, x.ln[q] = z := ⟨_, rfl⟩
      have hjn0 := hln0 _ (List.getElem_mem hlq)
      rw [hjn] at hjn0
      have hjl8 := (hG.js _ (by rw [hx.js]; exact jsO_mem hlt hj hle)).2
      dsimp only at hjl8
      have hjl : jl.length ≤ 1000000 := by omega
      rw [jsK_yes hlt hlq hj hjn hle] at hJ
      repeat (first | (refine ovXAua0_ ?_; clear hs a; intro a hs) | ((with_reducible apply lCons); first | (refine dv hs gw_ rfl rfl da_ ?_; clear hs hm a; rintro _ w ⟨g, rfl, -, hm⟩ a hs) | (refine stn hs rfl rfl ds_ ?_; clear hs hm a; rintro - w hm a hs)) | refine sc_ ?_)
      rw [sEqF hle] at hs
      repeat (first | (refine ovXAua0_ ?_; clear hs a; intro a hs) | ((with_reducible apply lCons); first | (refine dv hs gw_ rfl rfl da_ ?_; clear hs hm a; rintro _ w ⟨g, rfl, -, hm⟩ a hs) | (refine stn hs rfl rfl ds_ ?_; clear hs hm a; rintro - w hm a hs)) | refine sc_ ?_)
      cases hat : atL x.r.lab jl with
      | none =>
        rw [hat] at hs
        have hjt : ((jln.toNat : Nat) : Int) = jln := Int.toNat_of_nonneg hjn0
        have hp2 : parF s = (⟨[], [], []⟩, jln, 12) := by
          rw [hp, hJ]
          unfold jsF
          rw [hat]
          dsimp only
          rw [hjt]
        clear hp
        have hp := hp2
        obtain ⟨w5, hw5⟩ : ∃ u : World, u = w4 := ⟨w4, rfl⟩
        subst hw5
        have hF5 : Fr D0 wA w5 := hFw.then hm.fr (fun i _ hi => hxD i (hS1D i hi))
        have hPw : Pu wB w5 := hP.then hF5 (fun i hi h => by have := hD0B i h; omega)
        have b2 : Blk w5 g2 26 #[.slice none 0 0, .slice none 0 0, .slice none 0 0] := hF5.blk b20 hng2
        obtain ⟨gl, hgl⟩ := hx.l.some_ (by omega)
        have r9 := (hlr gl hgl).ro hm (hngl gl hgl)
        have rg9 := rg.ro hm hng
        rw [hgl] at rg9
        have e3 : (ints x.ln)[q]? = some (.int .i64 jln) := by unfold ints; rw [List.getElem?_map, List.getElem?_eq_getElem hlq, hjn]; rfl
        have hgl2 : g2 ≠ gl := fun e => hng2 (by rw [e]; exact hlD gl hgl)
        have hngx : ¬ own [⟨some g2, 26, [.slice none 0 0, .slice none 0 0, .slice none 0 0]⟩] x.g := fun ⟨z, hz, e⟩ => by
          rcases List.mem_singleton.1 hz with rfl
          exact hgx (Option.some.inj e)
        have hn9 : ¬ own [⟨some g2, 26, [.slice none 0 0, .slice none 0 0, .slice none 0 0]⟩] gl := fun ⟨z, hz, e⟩ => by
          rcases List.mem_singleton.1 hz with rfl
          exact hgl2 (Option.some.inj e)
        clear hm rg r2 rg3
        have hm : Mm (own [⟨some g2, 26, [.slice none 0 0, .slice none 0 0, .slice none 0 0]⟩]) w5 [⟨some g2, 26, [.slice none 0 0, .slice none 0 0, .slice none 0 0]⟩] w5 := Mm.adopt2 b2
        repeat (first | (refine ovXAua0_ ?_; clear hs a; intro a hs) | ((with_reducible apply lCons); first | (refine dv hs gw_ rfl rfl da_ ?_; clear hs hm a; rintro _ w ⟨g, rfl, -, hm⟩ a hs) | (refine stn hs rfl rfl ds_ ?_; clear hs hm a; rintro - w hm a hs)) | refine sc_ ?_)
        refine cMid (fun a w => Sl Tryz.f21.ntmps [(2, .pointer (some ⟨g2, 0, none⟩)), (3, .int .i64 jln), (4, .int .i64 12)] a ∧ Mm (own [⟨some g2, 26, [.slice none 0 0, .slice none 0 0, .slice none 0 0]⟩]) w5 [⟨some g2, 26, [.slice none 0 0, .slice none 0 0, .slice none 0 0]⟩] w) ?_ ?_
        · skip
          refine cDraw (n := 9) [] hm rfl rfl ?_
          clear hm
          intro w2 hm
          refine hV_ 0 ?_; clear hs a; intro a hs
          refine hV_ 1 ?_; clear hs a; intro a hs
          refine hTake 2 hs rfl (by kernel_rfl) (Wnt.none rfl) rfl rfl (by intro w hm; replace hm : Mm _ _ _ w := hm; exact klR_) (hm.sub (List.nil_sublist _)) ?_; clear hs a; intro a hs
          refine hV_ 3 ?_; clear hs a; intro a hs
          refine hTake 4 hs rfl (by kernel_rfl) (Wnt.none rfl) rfl rfl (by intro w hm; replace hm : Mm _ _ _ w := hm; (first | exact r_iz hs tab rfl rfl (by omega) | exact r_iy hs tab rfl rfl (by omega))) (hm.sub (List.nil_sublist _)) ?_; clear hs a; intro a hs
          refine hTake 5 hs rfl (by kernel_rfl) (Wnt.none rfl) rfl rfl (by intro w hm; replace hm : Mm _ _ _ w := hm; exact klR_) (hm.sub (List.nil_sublist _)) ?_; clear hs a; intro a hs
          refine hEach [6] (by kernel_rfl) (eDoN hs rfl (Wnt.none rfl) rfl ds_ ?_ eNil)
          clear hs hm
          rintro - w26 hm a hs
          refine ⟨hm.sub sub_, ?_⟩
          refine hV_ 7 ?_; clear hs a; intro a hs
          refine hV_ 8 ?_; clear hs a; intro a hs
          refine hDone (by kernel_rfl) ?_
          exact And.intro rfl ⟨hs.sub (Has.all ⟨rfl, rfl, rfl, trivial⟩), hm⟩
        clear hs hm a
        rintro a w6 ⟨hs, hm⟩
        repeat (first | (refine ovXAua0_ ?_; clear hs a; intro a hs) | ((with_reducible apply lCons); first | (refine dv hs gw_ rfl rfl da_ ?_; clear hs hm a; rintro _ w ⟨g, rfl, -, hm⟩ a hs) | (refine stn hs rfl rfl ds_ ?_; clear hs hm a; rintro - w hm a hs)) | refine sc_ ?_)
        exact gRetN tab hs rfl (.cons (.cells rfl rfl rfl rfl (hm.ro (k := 0) (n := 3) mem_ (cutF_ok rfl))) (.cons (.tmp rfl) (.cons (.tmp rfl) .nil))) ⟨pvE, by rw [hp]; rfl, pvE_ok _, by rw [hp]; rfl, by rw [hp]; rfl, by rw [hp]; rfl, hPw.then hm.fr (fun i hi ⟨z, hz, e⟩ => by rcases List.mem_singleton.1 hz with rfl; cases e; omega)⟩
      | some kk =>
        rw [hat] at hs
        obtain ⟨ci, hci⟩ : ∃ z, code[q]? = some z := ⟨_, List.getElem?_eq_getElem (by omega)⟩
        have hln2 := hrow.len
        have hle2 := hrow.le
        have hlt5 : q * 5 + 4 < ccs.length := by rw [hln2]; omega
        have hnng : x.g ≠ gc := fun e => hng (by rw [← hS1]; exact ⟨_, List.mem_singleton.2 rfl, by rw [hgc, e]⟩)
        repeat (first | (refine ovXAua0_ ?_; clear hs a; intro a hs) | ((with_reducible apply lCons); first | (refine dv hs gw_ rfl rfl da_ ?_; clear hs hm a; rintro _ w ⟨g, rfl, -, hm⟩ a hs) | (refine stn hs rfl rfl ds_ ?_; clear hs hm a; rintro - w hm a hs)) | refine sc_ ?_)
        have hcs : (code.flatMap inV).set (q * 5 + 4) (.int .i64 (kk : Int)) = (code.set q { ci with m := (kk : Int) }).flatMap inV := flat_set inV 5 inV_len code q 4 ci _ hci (by omega) _ rfl
        refine ⟨⟨q + 1, code.set q { ci with m := (kk : Int) }, ccs.set (q * 5 + 4) (.int .i64 (kk : Int))⟩, by dsimp only; omega, hs.sub (Has.all ⟨rfl, rfl, rfl, rfl, rfl, rfl, rfl, rfl, trivial⟩), hm, by dsimp only; omega, by dsimp only; rw [List.length_set]; exact hcl, by dsimp only; rw [← hcs]; exact hrow.set _ _, ?_⟩
        dsimp only
        rw [hJ]
        conv => lhs; unfold jsF
        rw [hat]
        dsimp only
        rw [modify_set _ code q ci hci]
    · have hJ2 : jsF x.r.lab x.r.code (jsO x.jp x.ln) = (code, none) := by
        rw [hJ, jsK_end (by omega)]
        rfl
      rw [hJ2] at hp
      dsimp only at hp
      have b2 : Blk w4 g2 26 #[.slice none 0 0, .slice none 0 0, .slice none 0 0] := hFw4.blk b20 hng2
      have rg4 := rg.ro hm hng
      have rg5 : ∀ _ : Unit, Ro w4 x.g (0 + 0) [slv x.cA x.r.code.length x.cc, slv x.sA x.r.ss.length x.sc, slv x.dA x.ws.length x.dc] := fun u => (rg3 u).ro hm hng
      have hrc4 : Rd w4 w4.heap.size (x.cA.map fun g => ⟨g, 0, none⟩) (code.flatMap inV) := hm.rd_row mem_ hrow
      have hrs4 := rdm hm.fr hrs hngs
      have hrd4 := rdm hm.fr hrd hngd
      have hrw4 : ∀ r ∈ x.ws, Rd w4 w4.heap.size (r.A.map fun g => ⟨g, 0, none⟩) (wds r.xs) := fun r hr => WS.rdn hm.fr (hrw r hr).1 (fun g hg hs1 => ((hrw r hr).2 g hg).1 (hS1D g hs1))
      have hngx : ¬ own [⟨some g2, 26, [.slice none 0 0, .slice none 0 0, .slice none 0 0]⟩] x.g := fun ⟨z, hz, e⟩ => by
        rcases List.mem_singleton.1 hz with rfl
        exact hgx (Option.some.inj e)
      have hPw := hPw4
      clear hm
      have hm : Mm (own [⟨some g2, 26, [.slice none 0 0, .slice none 0 0, .slice none 0 0]⟩]) w4 [⟨some g2, 26, [.slice none 0 0, .slice none 0 0, .slice none 0 0]⟩] w4 := Mm.adopt2 b2
      by_cases c1 : x.r.ss.length = 0
      · rw [if_pos (.inl (List.eq_nil_of_length_eq_zero c1))] at hp
        repeat (first | (refine ovXAua0_ ?_; clear hs a; intro a hs) | ((with_reducible apply lCons); first | (refine dv hs gw_ rfl rfl da_ ?_; clear hs hm a; rintro _ w ⟨g, rfl, -, hm⟩ a hs) | (refine stn hs rfl rfl ds_ ?_; clear hs hm a; rintro - w hm a hs)) | refine sc_ ?_)
        exact gRetN tab hs rfl (.cons (.cells rfl rfl rfl rfl (hm.ro (k := 0) (n := 3) mem_ (cutF_ok rfl))) (.cons (.tmp rfl) (.cons (.tmp rfl) .nil))) ⟨pvE, by rw [hp]; rfl, pvE_ok _, by rw [hp]; rfl, by rw [hp]; rfl, by rw [hp]; rfl, hPw.then hm.fr (fun i hi ⟨z, hz, e⟩ => by rcases List.mem_singleton.1 hz with rfl; cases e; omega)⟩
      by_cases c2 : x.r.code.length = 0
      · rw [if_pos (.inr (.inl (List.eq_nil_of_length_eq_zero (by omega))))] at hp
        repeat (first | (refine ovXAua0_ ?_; clear hs a; intro a hs) | ((with_reducible apply lCons); first | (refine dv hs gw_ rfl rfl da_ ?_; clear hs hm a; rintro _ w ⟨g, rfl, -, hm⟩ a hs) | (refine stn hs rfl rfl ds_ ?_; clear hs hm a; rintro - w hm a hs)) | refine sc_ ?_)
        exact gRetN tab hs rfl (.cons (.cells rfl rfl rfl rfl (hm.ro (k := 0) (n := 3) mem_ (cutF_ok rfl))) (.cons (.tmp rfl) (.cons (.tmp rfl) .nil))) ⟨pvE, by rw [hp]; rfl, pvE_ok _, by rw [hp]; rfl, by rw [hp]; rfl, by rw [hp]; rfl, hPw.then hm.fr (fun i hi ⟨z, hz, e⟩ => by rcases List.mem_singleton.1 hz with rfl; cases e; omega)⟩
      cases hla : x.r.last
      case true =>
        rw [if_pos (.inr (.inr hla))] at hp
        rw [hla] at rg4
        repeat (first | (refine ovXAua0_ ?_; clear hs a; intro a hs) | ((with_reducible apply lCons); first | (refine dv hs gw_ rfl rfl da_ ?_; clear hs hm a; rintro _ w ⟨g, rfl, -, hm⟩ a hs) | (refine stn hs rfl rfl ds_ ?_; clear hs hm a; rintro - w hm a hs)) | refine sc_ ?_)
        exact gRetN tab hs rfl (.cons (.cells rfl rfl rfl rfl (hm.ro (k := 0) (n := 3) mem_ (cutF_ok rfl))) (.cons (.tmp rfl) (.cons (.tmp rfl) .nil))) ⟨pvE, by rw [hp]; rfl, pvE_ok _, by rw [hp]; rfl, by rw [hp]; rfl, by rw [hp]; rfl, hPw.then hm.fr (fun i hi ⟨z, hz, e⟩ => by rcases List.mem_singleton.1 hz with rfl; cases e; omega)⟩
      rw [if_neg (by rintro (h1 | h1 | h1); exact c1 (by rw [h1]; rfl); exact c2 (by rw [← hcl, h1]; rfl); rw [hla] at h1; cases h1)] at hp
      rw [hla] at rg4
      repeat (first | (refine ovXAua0_ ?_; clear hs a; intro a hs) | ((with_reducible apply lCons); first | (refine dv hs gw_ rfl rfl da_ ?_; clear hs hm a; rintro _ w ⟨g, rfl, -, hm⟩ a hs) | (refine stn hs rfl rfl ds_ ?_; clear hs hm a; rintro - w hm a hs)) | refine sc_ ?_)
      clear rg4
      replace rg5 := rg5 ()
      repeat (first | (refine ovXAua0_ ?_; clear hs a; intro a hs) | ((with_reducible apply lCons); first | (refine dv hs gw_ rfl rfl da_ ?_; clear hs hm a; rintro _ w ⟨g, rfl, -, hm⟩ a hs) | (refine stn hs rfl rfl ds_ ?_; clear hs hm a; rintro - w hm a hs)) | refine sc_ ?_)
      obtain ⟨p, hpp⟩ : ∃ p : PV, p = ⟨x.cA.map fun g => ⟨g, 0, none⟩, x.cc, code, x.sA.map fun g => ⟨g, 0, none⟩, x.sc, x.r.ss, x.dA.map fun g => ⟨g, 0, none⟩, x.dc, x.ws.map fun r => ⟨r.A.map fun g => ⟨g, 0, none⟩, r.c, r.xs⟩⟩ := ⟨_, rfl⟩
      have hpv : p.v = .agg #[slv x.cA x.r.code.length x.cc, slv x.sA x.r.ss.length x.sc, slv x.dA x.ws.length x.dc] := by
        rw [hpp]
        unfold PV.v
        dsimp only
        rw [hcl, List.length_map]
        rfl
      have hng2o : ∀ g, D0 g → ¬ own [⟨some g2, 26, [.slice none 0 0, .slice none 0 0, .slice none 0 0]⟩] g := fun g hg ⟨z, hz, e⟩ => by
        rcases List.mem_singleton.1 hz with rfl
        rw [← Option.some.inj e] at hg
        exact hng2 hg
      have hfin := hm.fr
      refine gRetN tab hs rfl (.cons (.cells rfl rfl rfl rfl (hm.ro (k := 0) (n := 3) mem_ (cutF_ok rfl))) (.cons (.tmp rfl) (.cons (.tmp rfl) .nil))) ⟨p, by rw [hp, hpv]; rfl, ?_, by rw [hp, hpp], by rw [hp, hpp], by rw [hp, hpp]; dsimp only; rw [hx.ws, List.map_map]; rfl, hPw.then hm.fr (fun i hi ⟨z, hz, e⟩ => by rcases List.mem_singleton.1 hz with rfl; cases e; omega)⟩
      rw [hpp]
      refine ⟨rdm hfin hrc4 (fun g hg => hng2o g (hcD g hg)), rdm hfin hrs4 (fun g hg => hng2o g (hsD g hg)), ?_, fun r hr => ?_⟩
      · dsimp only
        rw [List.map_map]
        exact rdm hfin hrd4 (fun g hg => hng2o g (hdD g hg))
      · dsimp only at hr
        obtain ⟨r0, hr0, rfl⟩ := List.mem_map.1 hr
        exact rd_g2 b2 (by intro v hv k n e; subst e; simp at hv) hfin (hrw4 r0 hr0)
  · have hA1 : rdA r0F (spl 10 s).dropLast 0 = if (rdF x.r ln k).2 = 0 then rdA (rdF x.r ln k).1 ((spl 10 s).dropLast.drop (k + 1)) (k + 1) else ((rdF x.r ln k).1, k, (rdF x.r ln k).2) := by
      have hkd : k < (spl 10 s).dropLast.length := by rw [List.length_dropLast]; omega
      rw [hA, rdA_drop hkd]
      have : (spl 10 s).dropLast[k] = ln := by rw [List.getElem_dropLast, hln]
      rw [this]
    clear hA
    repeat (first | (refine ovXAua0_ ?_; clear hs a; intro a hs) | ((with_reducible apply lCons); first | (refine dv hs gw_ rfl rfl da_ ?_; clear hs hm a; rintro _ w ⟨g, rfl, -, hm⟩ a hs) | (refine stn hs rfl rfl ds_ ?_; clear hs hm a; rintro - w hm a hs)) | refine sc_ ?_)
    obtain ⟨w, hw9⟩ : ∃ u : World, u = w' := ⟨w', rfl⟩
    subst hw9
    have hFw : Fr D0 wA w := hF.then hm.fr (fun i _ hi => hxD i (.inl hi))
    have hPw : Pu wB w := hP.then hFw (fun i hi h => by have := hD0B i h; omega)
    have hxw : x.ok w := RfX.same hx hm
    have hc := rline_c x ln k w hxw hLL hlnl (by omega) (fun w'' hf => ht.pu (hPw.then hf (fun i hi h => by have := hD0B i (hxD i h); omega)))
    refine st hs rfl rfl rfl (d_call hs rfl rfl rfl (pl 46 rfl) (hc)) ?_; clear hs a; rintro _ w3 ⟨e, rfl, he, hfr, hy⟩ a hs
    have hF3 : Fr D0 wA w3 := hFw.then hfr (fun i _ hi => hxD i hi)
    have hP3 : Pu wB w3 := hP.then hF3 (fun i hi h => by have := hD0B i h; omega)
    have hszF := hFw.size
    clear hm
    by_cases he0 : e = 0
    case neg =>
      have hp : parF s = (⟨[], [], []⟩, (k : Int), e) := by
        rw [he] at he0 ⊢
        exact par_err hlong (by rw [hA1, if_neg he0]) he0
      have b2 : Blk w3 g2 26 #[.slice none 0 0, .slice none 0 0, .slice none 0 0] := hF3.blk b20 hng2
      have hPw := hP3
      have hm := Mm.adopt2 b2
      repeat (first | (refine ovXAua0_ ?_; clear hs a; intro a hs) | ((with_reducible apply lCons); first | (refine dv hs gw_ rfl rfl da_ ?_; clear hs hm a; rintro _ w ⟨g, rfl, -, hm⟩ a hs) | (refine stn hs rfl rfl ds_ ?_; clear hs hm a; rintro - w hm a hs)) | refine sc_ ?_)
      exact gRetN tab hs rfl (.cons (.cells rfl rfl rfl rfl (hm.ro (k := 0) (n := 3) mem_ (cutF_ok rfl))) (.cons (.tmp rfl) (.cons (.tmp rfl) .nil))) ⟨pvE, by rw [hp]; rfl, pvE_ok _, by rw [hp]; rfl, by rw [hp]; rfl, by rw [hp]; rfl, hPw.then hm.fr (fun i hi ⟨z, hz, e⟩ => by rcases List.mem_singleton.1 hz with rfl; cases e; omega)⟩
    obtain ⟨y, hyy⟩ := hy he0
    clear hy
    have hG2 := rdF_G hG ln k
    have hL2 := rdF_L hLL ln k
    subst he0
    rw [if_pos he.symm] at hA1
    have hm := Mm.nil (fun _ => False) w3
    repeat (first | (refine ovXAua0_ ?_; clear hs a; intro a hs) | ((with_reducible apply lCons); first | (refine dv hs gw_ rfl rfl da_ ?_; clear hs hm a; rintro _ w ⟨g, rfl, -, hm⟩ a hs) | (refine stn hs rfl rfl ds_ ?_; clear hs hm a; rintro - w hm a hs)) | refine sc_ ?_)
    refine ⟨⟨k + 1, y⟩, by dsimp only; omega, by rw [show y.g = x.g from hyy.g]; exact hs.sub (Has.all ⟨rfl, rfl, rfl, rfl, rfl, rfl, rfl, rfl, trivial⟩), hF3.pu hm.fr, by dsimp only; omega, hyy.ok.pu hm.fr, by dsimp only; rw [hyy.g, hxg], by dsimp only; rw [hyy.m, hxm], fun i hi => ?_, by dsimp only; rw [hyy.r]; exact hG2.1, by dsimp only; rw [hyy.r]; exact hL2, by dsimp only; rw [hyy.r]; omega, by dsimp only; rw [hyy.r]; exact hA1⟩
    rcases hyy.nw i hi with h1 | h1
    · exact hxD i h1
    · rw [hD0]
      omega
end Go.Proofs.YtajkekhnfobgiaaGreatDoor

/- AssemblerReads: the walk. -/
namespace Go.Proofs.YtajkekhnfobgiaaGreatDoor
set_option maxRecDepth 20000
open Go.RowKit
theorem oqXAuc0_ {G H : Prop} (k : H) (s : H → G := by intro k; (with_reducible first | refine toL hm ?_ | refine toQ ?_); first | exact oneV hs gw_ rfl rfl (by intro w hm; (first | exact kvR_ | exact kb2_ | exact ksl_ | exact r_sto (k := k3) hs rfl rfl rfl tab rfl rfl (by omega) | exact r_bstr hs rfl rfl tab rfl rfl rfl rfl rfl rfl (hbr9.keep hm.fr (fun t => t)) | exact r_sadd hs rfl rfl rfl (by omega) | exact r_slTo hs rfl rfl rfl tab rfl rfl rfl (by omega) | exact r_slFrom hs rfl rfl rfl tab rfl rfl rfl (by omega) (by omega) rfl | exact r_sidx hs rfl rfl rfl tab rfl rfl (by assumption))) k | exact oneN hs rfl rfl rfl rfl rfl rfl rfl k | exact oneU hs rfl rfl rfl rfl rfl rfl k) : G := s k
theorem ovXAuc1_ {G H : Prop} (k : H) (s : H → G := by intro k; (with_reducible refine toL hm ?_); first | exact oneV hs gw_ rfl rfl (by intro w hm; (first | exact kvR_ | exact kb2_ | exact ksl_ | exact r_sto (k := k3) hs rfl rfl rfl tab rfl rfl (by omega) | exact r_bstr hs rfl rfl tab rfl rfl rfl rfl rfl rfl (hbr9.keep hm.fr (fun t => t)) | exact r_sadd hs rfl rfl rfl (by omega) | exact r_slTo hs rfl rfl rfl tab rfl rfl rfl (by omega) | exact r_slFrom hs rfl rfl rfl tab rfl rfl rfl (by omega) (by omega) rfl | exact r_sidx hs rfl rfl rfl tab rfl rfl (by assumption))) k | exact oneN hs rfl rfl rfl rfl rfl rfl rfl k | exact oneU hs rfl rfl rfl rfl rfl rfl k) : G := s k

theorem split_k (c : UInt8) (l : List UInt8) (w : World) (hl : l.length < 4294967281) (ht : TW w) : Ret Tryz.prog 18 [txv l, txv [c]] w (fun u w' => ∃ g, u = .slice (some ⟨g, 0, none⟩) (spl c l).length (spl c l).length ∧ New w w' [⟨some g, 9, (spl c l).map txv⟩] ∧ Pu w w') := by
  obtain ⟨m, hm⟩ := ht.mxl
  refine ⟨Calls.mono (Tryz.strings_Split ⟨l.toArray⟩ ⟨[c].toArray⟩ m w (by rw [ba_s]; exact hl) hm (by rw [ba_s]; exact Nat.le_refl 1)) ?_⟩
  rintro e w' ⟨rfl, rfl⟩
  rw [splitB_spl, ← spl_len c l]
  exact ⟨_, rfl, _, rfl, New.alloc w _ _, (Fr.refl _ w).alloc _⟩
def exL (line : Tx) : List Tx := [[], [120, 58], [108, 48, 58], [108, 105, 58], [114, 101, 103, 105, 111, 110, 32, 52, 32, 49, 32, 50], [114, 101, 103, 105, 111, 110, 32, 51, 51], [106, 109, 112, 32, 120], [106, 109, 112, 32, 108, 48], [108, 105, 32, 114, 48, 32, 54, 53, 53, 51, 54], [108, 105, 32, 114, 56, 32, 49], [108, 105, 32, 114, 48, 49, 32, 49], [97, 100, 100, 32, 114, 49, 32, 114, 50], [108, 101, 97, 32, 114, 49, 32, 51], [115, 121, 115, 32, 49, 54], [110, 111, 112, 32, 110, 111, 112], [32, 110, 111, 112], [115, 116, 32, 114, 49, 32, 114, 50, 32, 48, 48], [114, 116, 105], [114, 101, 103, 105, 111, 110], [108, 105, 32, 114, 48, 32, 120, 57], [106, 122, 32, 114, 48, 32, 97, 98, 99, 100, 101, 102, 103, 104, 105], line]
theorem ex_cell (line : Tx) (hl : line.length ≤ 100) (r : Nat) (h : r < 22) : ∃ ex : Tx, ex.length ≤ 100 ∧ ([txv [], txv [120, 58], txv [108, 48, 58], txv [108, 105, 58], txv [114, 101, 103, 105, 111, 110, 32, 52, 32, 49, 32, 50], txv [114, 101, 103, 105, 111, 110, 32, 51, 51], txv [106, 109, 112, 32, 120], txv [106, 109, 112, 32, 108, 48], txv [108, 105, 32, 114, 48, 32, 54, 53, 53, 51, 54], txv [108, 105, 32, 114, 56, 32, 49], txv [108, 105, 32, 114, 48, 49, 32, 49], txv [97, 100, 100, 32, 114, 49, 32, 114, 50], txv [108, 101, 97, 32, 114, 49, 32, 51], txv [115, 121, 115, 32, 49, 54], txv [110, 111, 112, 32, 110, 111, 112], txv [32, 110, 111, 112], txv [115, 116, 32, 114, 49, 32, 114, 50, 32, 48, 48], txv [114, 116, 105], txv [114, 101, 103, 105, 111, 110], txv [108, 105, 32, 114, 48, 32, 120, 57], txv [106, 122, 32, 114, 48, 32, 97, 98, 99, 100, 101, 102, 103, 104, 105], txv line] : List Value)[r]? = some (txv ex) := by
  have h1 : (exL line).length = 22 := rfl
  refine ⟨(exL line)[r]'(by omega), ?_, ?_⟩
  · have h2 : ∀ x ∈ exL line, x.length ≤ 100 := by
      unfold exL
      intro x hx
      simp only [List.mem_cons, List.not_mem_nil, or_false] at hx
      rcases hx with rfl | rfl | rfl | rfl | rfl | rfl | rfl | rfl | rfl | rfl | rfl | rfl | rfl | rfl | rfl | rfl | rfl | rfl | rfl | rfl | rfl | rfl <;> first | exact hl | (simp only [List.length_cons, List.length_nil]; omega)
    exact h2 _ (List.getElem_mem _)
  · show ((exL line).map txv)[r]? = _
    rw [List.getElem?_map, List.getElem?_eq_getElem (by omega)]
    rfl
def byL : Tx := [48, 49, 50, 51, 52, 53, 54, 55, 56, 57, 32, 10, 114, 108, 122, 58]
theorem by_cell (r : Nat) (h : r < 16) : ∃ c : UInt8, ([48, 49, 50, 51, 52, 53, 54, 55, 56, 57, 32, 10, 114, 108, 122, 58] : Tx)[r]? = some c := ⟨byL[r]'(by show r < 16; exact h), List.getElem?_eq_getElem _⟩
theorem join_bd (xs : List Tx) (c : UInt8) (B : Nat) (h : ∀ x ∈ xs, x.length ≤ B) : (Lib.join xs [c]).length ≤ xs.length * (B + 1) := by
  cases xs with
  | nil => exact Nat.zero_le _
  | cons w ws =>
    rw [Lib.join_cons]
    unfold Lib.joinTail
    rw [← List.flatMap_def, List.length_append]
    have h1 := h w (List.mem_cons_self ..)
    have h2 := flat_le (B := B + 1) (f := fun x : Tx => [c] ++ x) ws (fun x hx => by
      have := h x (List.mem_cons_of_mem _ hx)
      rw [List.length_append, List.length_singleton]
      omega)
    rw [List.length_cons, Nat.succ_mul]
    exact Nat.le_trans (Nat.add_le_add h1 h2) (by omega)
theorem all_txv (l : List Tx) : (l.map txv).all (·.oneCell') = true := by
  rw [List.all_eq_true]
  intro v hv
  obtain ⟨x, _, rfl⟩ := List.mem_map.1 hv
  rfl
theorem rd_take {w : World} {g : Nat} {vs : List Value} (h : Ro w g 0 vs) (hg : g < w.heap.size) (k : Nat) : Rd w w.heap.size (some ⟨g, 0, none⟩) (vs.take k) := fun _ => ⟨g, 0, rfl, hg, fun j u hj => by
  rw [List.getElem?_take] at hj
  split at hj
  · exact h j u hj
  · cases hj⟩
theorem rd_drop {w : World} {g : Nat} {vs : List Value} (h : Ro w g 0 vs) (hg : g < w.heap.size) (k : Nat) : Rd w w.heap.size (some ⟨g, k, none⟩) (vs.drop k) := fun _ => ⟨g, k, rfl, hg, fun j u hj => by
  rw [List.getElem?_drop] at hj
  have := h (k + j) u hj
  rwa [Nat.zero_add] at this⟩
section
variable {P : Program} {N : Nat} {L : List (Nat × Value)} {a : Act} {w : World} {o : Oper} {x y : Operand} {T : List (Nat × TI)} {t e : TypeId} {i j : TI}
theorem r_slTo {A : Option Addr} {n c h : Nat} (hs : Sl N L a) (ho : o.op = .slice t x none (some y) none) (hx : ev L x = some (.slice A n c)) (hy : ev L y = some (.int .i64 (h : Int))) (hT : TabOk P T) (hc : tlk T t = some i) (hd : i.d = .sl e) (he : tlk T e = some j) (h1 : h ≤ c) : RunV P a o w (.slice A h c) :=
  r_sliceTo hs ho hx hy hT hc hd he (by omega) (by omega)
theorem r_slFrom {g n c h : Nat} (hs : Sl N L a) (ho : o.op = .slice t x (some y) none none) (hx : ev L x = some (.slice (some ⟨g, 0, none⟩) n c)) (hy : ev L y = some (.int .i64 (h : Int))) (hT : TabOk P T) (hc : tlk T t = some i) (hd : i.d = .sl e) (he : tlk T e = some j) (h1 : h ≤ n) (h2 : h < c) (h3 : j.sz = 1) : RunV P a o w (.slice (some ⟨g, h, none⟩) (n - h) (c - h)) := by
  have h4 := r_sliceFrom (P := P) (w := w) hs ho hx hy hT hc hd he (by omega) (by omega)
  rw [if_neg (by rw [Int.toNat_natCast]; omega), Int.toNat_natCast, h3] at h4
  have h5 : (some (⟨g, 0, none⟩ : Addr)).map (·.add (h * 1)) = some ⟨g, h, none⟩ := by
    rw [Option.map_some, add_lit, Nat.mul_one, Nat.zero_add]
  rw [h5] at h4
  exact h4
end
theorem same_t (p q : PV) (h : SameP p q) (wB : World) (hp : p.ok wB) (hq : q.ok wB) (hps : p.sm) (hqs : q.sm) : Ret Tryz.prog 22 [p.v, q.v] wB (fun u w' => u = .bool true ∧ Pu wB w') :=
  (same_c p q wB hp hq hps hqs).mono fun u w' ⟨b', h1, h2, h3⟩ => ⟨by rw [h1, h2.2 h], h3⟩








set_option maxHeartbeats 32000000 in
theorem reads_c (raw : Tx) (A : Option Addr) (n c : Nat) (xs : List Int) (at_ by_ : Int) (line : Tx) (w0 : World) (hI : IsInts .i64 w0 A n c xs) (ht : TW w0) :
    Ret Tryz.prog 4 [txv raw, .slice A n c, .int .i64 at_, .int .i64 by_, txv line] w0 (fun v w' => v = .bool true ∧ Pu w0 w') := by
  obtain ⟨hl, hnc, hc63, hrx, hwx⟩ := hI
  have hn63 : n ≤ 9223372036854775807 := by omega
  have kA0 := fun w'' (hf : Pu w0 w'') => awk_c w'' (ht.pu hf)
  have hz1 := ba_s raw
  have hz2 := ba_s line
  refine enterR Tryz.func4 rfl rfl rfl fun a hs hm => ?_
  by_cases p1 : 800 < raw.length
  · repeat (first | (refine oqXAuc0_ ?_; clear hs a; intro a hs) | ((with_reducible apply lCons); first | (refine dv hs gw_ rfl rfl da_ ?_; clear hs hm a; rintro _ w ⟨g, rfl, -, hm⟩ a hs) | (refine stn hs rfl rfl ds_ ?_; clear hs hm a; rintro - w hm a hs) | (refine dvc hs hm gw_ rfl rfl rfl rfl rfl (pl 9 rfl) (kA0 _ hm.fr) ?_; clear hs hm a; intro w hm a hs)) | ((with_reducible apply qCons); first | (refine qwc hs gw_ rfl rfl rfl rfl rfl (pl 9 rfl) (fun w hm => kA0 _ hm.fr) ?_; clear hs a; intro a hs)) | ((with_reducible apply qNil); clear hm; intro w hm) | refine cQ_ ?_ | refine sc_ ?_)
    exact gRet1 hs rfl rfl ⟨rfl, hm.fr⟩
  by_cases p2 : 100 < line.length
  · repeat (first | (refine oqXAuc0_ ?_; clear hs a; intro a hs) | ((with_reducible apply lCons); first | (refine dv hs gw_ rfl rfl da_ ?_; clear hs hm a; rintro _ w ⟨g, rfl, -, hm⟩ a hs) | (refine stn hs rfl rfl ds_ ?_; clear hs hm a; rintro - w hm a hs) | (refine dvc hs hm gw_ rfl rfl rfl rfl rfl (pl 9 rfl) (kA0 _ hm.fr) ?_; clear hs hm a; intro w hm a hs)) | ((with_reducible apply qCons); first | (refine qwc hs gw_ rfl rfl rfl rfl rfl (pl 9 rfl) (fun w hm => kA0 _ hm.fr) ?_; clear hs a; intro a hs)) | ((with_reducible apply qNil); clear hm; intro w hm) | refine cQ_ ?_ | refine sc_ ?_)
    exact gRet1 hs rfl rfl ⟨rfl, hm.fr⟩
  repeat (first | (refine oqXAuc0_ ?_; clear hs a; intro a hs) | ((with_reducible apply lCons); first | (refine dv hs gw_ rfl rfl da_ ?_; clear hs hm a; rintro _ w ⟨g, rfl, -, hm⟩ a hs) | (refine stn hs rfl rfl ds_ ?_; clear hs hm a; rintro - w hm a hs)) | ((with_reducible apply qNil); clear hm; intro w hm) | refine cQ_ ?_ | refine sc_ ?_)
  refine st hs rfl rfl rfl (d_call hs rfl rfl rfl (pl 10 rfl) ((mk_c A n c _))) ?_; clear hs a; rintro _ w1 ⟨gd, rfl, hN, hf⟩ a hs
  have hD := Dk.start hl (hm.fr.rd' hrx) hn63 hN hf
  replace hm := hm.gain hf hN
  clear hN hf
  refine st hs rfl rfl rfl (d_call hs rfl rfl rfl (pl 11 rfl) ((prg_c gd A n c 0 xs _ hD))) ?_; clear hs a; rintro _ w2 ⟨p, rfl, hpv, hrw, -, a1, k1, hf⟩ a hs
  replace hm := hm.dkt (Rep.head _ _ _) k1 hf
  have hF := hm.fr
  clear hm hf k1 hD
  have hm := Mm.nil (fun _ => False) w2
  obtain ⟨hg, hsm⟩ := PgX.good hpv
  have hok := PgX.pv_ok hrw
  rw [← PgX.pv_v] at hs
  obtain ⟨q, hq⟩ : ∃ q : PV, p.pv = q := ⟨_, rfl⟩
  rw [hq] at hs hg hsm hok
  clear hq hpv hrw
  have htl : (textP q).length ≤ 4096 := by rw [text_lines hg]; exact len_N lnm_ok hg hsm
  have htl1 : 1 ≤ (textP q).length := by
    have h1 := (text_cnt hg hsm).2.2
    cases h : textP q with
    | nil => rw [h] at h1; cases h1
    | cons _ _ => exact Nat.succ_le_succ (Nat.zero_le _)
  repeat (first | (refine oqXAuc0_ ?_; clear hs a; intro a hs) | ((with_reducible apply lCons); first | (refine dv hs gw_ rfl rfl da_ ?_; clear hs hm a; rintro _ w ⟨g, rfl, -, hm⟩ a hs) | (refine stn hs rfl rfl ds_ ?_; clear hs hm a; rintro - w hm a hs)) | ((with_reducible apply qNil); clear hm; intro w hm) | refine cQ_ ?_ | refine sc_ ?_)
  refine st hs rfl rfl rfl (d_call hs rfl rfl rfl (pl 14 rfl) ((rprint_c q _ (hok.pu hm.fr) hsm (ht.pu (hF.pu hm.fr))))) ?_; clear hs a; rintro _ w3 ⟨h1, -, hf⟩ a hs
  obtain rfl := h1 hg
  replace hm := hm.pu hf
  clear hf h1
  have hF3 := hF.pu hm.fr
  clear hm hok hF
  obtain ⟨T, hT⟩ : ∃ T, textP q = T := ⟨_, rfl⟩
  rw [hT] at hs htl htl1
  clear hT hg hsm
  have hzT := ba_s T
  have hm := Mm.nil (fun _ => False) w3
  repeat (first | (refine oqXAuc0_ ?_; clear hs a; intro a hs) | ((with_reducible apply lCons); first | (refine dv hs gw_ rfl rfl da_ ?_; clear hs hm a; rintro _ w ⟨g, rfl, -, hm⟩ a hs) | (refine stn hs rfl rfl ds_ ?_; clear hs hm a; rintro - w hm a hs)) | ((with_reducible apply qNil); clear hm; intro w hm) | refine cQ_ ?_ | refine sc_ ?_)
  refine st hs rfl rfl rfl (d_call hs rfl rfl rfl (pl 18 rfl) ((split_k 10 T _ (by omega) (ht.pu (hF3.pu hm.fr))))) ?_; clear hs a; rintro _ w4 ⟨gl, rfl, hN, hf⟩ a hs
  replace hm := hm.gain hf hN
  clear hN hf
  have hL1 : 1 ≤ (spl 10 T).length := List.length_pos_iff.2 (spl_ne 10 T)
  have hL2 : (spl 10 T).length ≤ 4097 := by have := spl_cnt_le 10 T; omega
  have hL3 : ∀ x ∈ spl 10 T, x.length ≤ 4096 := fun x hx => by have := spl_mem_le 10 T x hx; omega
  obtain ⟨Ls, hLs⟩ : ∃ l, spl 10 T = l := ⟨_, rfl⟩
  rw [hLs] at hs hm hL1 hL2 hL3
  clear hLs
  have hF4 := hF3.pu hm.fr
  have hbl : Blk w4 gl 9 (Ls.map txv).toArray := hm.me ⟨some gl, 9, Ls.map txv⟩ (List.mem_cons_self ..)
  have hgl := hbl.lt
  have rgl : Ro w4 gl 0 (Ls.map txv) := blk_ro hbl
  clear hbl hm hF3
  have hm := Mm.nil (fun _ => False) w4
  have hmdb := modF_bd at_ (m := (Ls.length : Int)) (by omega)
  have hmd := fun w => mod_c at_ (Ls.length : Int) w (by omega) (by omega)
  obtain ⟨k, hk⟩ : ∃ k : Nat, modF at_ (Ls.length : Int) = (k : Int) := ⟨(modF at_ (Ls.length : Int)).toNat, by omega⟩
  rw [hk] at hmd hmdb
  clear hk
  have hk : k < Ls.length := by omega
  have hmdb2 := modF_bd by_ (m := 22) (by omega)
  have hmd2 := fun w => mod_c by_ 22 w (by omega) (by omega)
  obtain ⟨r, hr⟩ : ∃ r : Nat, modF by_ 22 = (r : Int) := ⟨(modF by_ 22).toNat, by omega⟩
  rw [hr] at hmd2 hmdb2
  clear hr
  obtain ⟨ex, hex, hcell⟩ := ex_cell line (by omega) r (by omega)
  repeat (first | (refine oqXAuc0_ ?_; clear hs a; intro a hs) | ((with_reducible apply lCons); first | (refine dv hs gw_ rfl rfl da_ ?_; clear hs hm a; rintro _ w ⟨g, rfl, -, hm⟩ a hs) | (refine stn hs rfl rfl ds_ ?_; clear hs hm a; rintro - w hm a hs) | (refine dvc hs hm gw_ rfl rfl rfl rfl rfl (pl 17 rfl) (hmd _) ?_; clear hs hm a; intro w hm a hs) | (refine dvc hs hm gw_ rfl rfl rfl rfl rfl (pl 17 rfl) (hmd2 _) ?_; clear hs hm a; intro w hm a hs)) | ((with_reducible apply qCons); first | (refine qwc hs gw_ rfl rfl rfl rfl rfl (pl 17 rfl) (fun w hm => hmd _) ?_; clear hs a; intro a hs) | (refine qwc hs gw_ rfl rfl rfl rfl rfl (pl 17 rfl) (fun w hm => hmd2 _) ?_; clear hs a; intro a hs)) | ((with_reducible apply qNil); clear hm; intro w hm) | refine cQ_ ?_ | refine sc_ ?_)
  have hF5 := hF4.pu hm.fr
  have rgl5 := rgl.pu_ hm.fr
  have hszm := hm.fr.size
  obtain ⟨wD, hwD⟩ : ∃ u : World, u = w := ⟨w, rfl⟩
  subst hwD
  clear hm hmd hmd2 hcell rgl
  have hgl5 : gl < wD.heap.size := by omega
  have rk1 : Rd wD wD.heap.size (some ⟨gl, 0, none⟩) ((Ls.take k).map txv) := by rw [List.map_take]; exact rd_take rgl5 hgl5 k
  have rk2 : Rd wD wD.heap.size (if Ls.length = ((k : Nat) : Int).toNat then some ⟨gl, 0, none⟩ else (some (⟨gl, 0, none⟩ : Addr)).map (·.add (((k : Nat) : Int).toNat * 1))) ((Ls.drop k).map txv) := by
    rw [if_neg (by rw [Int.toNat_natCast]; omega), List.map_drop, Int.toNat_natCast, Option.map_some, add_lit, Nat.mul_one, Nat.zero_add]
    exact rd_drop rgl5 hgl5 k
  have rk3 : Rd wD wD.heap.size (some ⟨gl, 0, none⟩) (Ls.map txv) := by have := rd_take rgl5 hgl5 (Ls.map txv).length; rwa [List.take_length] at this
  have ltk : ((Ls.take k).map txv).length = k * 1 := by rw [List.length_map, List.length_take]; omega
  have ldk : ((Ls.drop k).map txv).length = (Ls.length - k) * 1 := by rw [List.length_map, List.length_drop]; omega
  obtain ⟨Xs, hXs⟩ : ∃ X, Ls.take k ++ [ex] ++ Ls.drop k = X := ⟨_, rfl⟩
  have hXl : 0 + k + 1 + (Ls.length - ((k : Nat) : Int).toNat) = Xs.length := by
    rw [Int.toNat_natCast, ← hXs, List.length_append, List.length_append, List.length_take, List.length_drop, List.length_singleton]
    omega
  have hXm : ([] ++ (Ls.take k).map txv ++ [txv ex]) ++ (Ls.drop k).map txv = Xs.map txv := by
    rw [← hXs, List.map_append, List.map_append, List.nil_append]
    rfl
  have hXe : ∀ x ∈ Xs, x.length ≤ 4096 := fun x hx => by
    rw [← hXs] at hx
    rcases List.mem_append.1 hx with hx | hx
    · rcases List.mem_append.1 hx with hx | hx
      · exact hL3 x (List.mem_of_mem_take hx)
      · rcases List.mem_singleton.1 hx with rfl
        omega
    · exact hL3 x (List.mem_of_mem_drop hx)
  have hXn : Xs.length ≤ 5000 := by omega
  have hXj : (Lib.join Xs [10]).length ≤ 100000000 := by
    have h1 := join_bd Xs 10 4096 hXe
    have h2 : Xs.length * (4096 + 1) ≤ 5000 * (4096 + 1) := Nat.mul_le_mul_right _ hXn
    omega
  clear hXs
  have hm := (Mm.nil (fun _ => False) wD).zero 9
  refine cMid (fun a w => ∃ U : Tx, U.length ≤ 100000000 ∧ Sl Tryz.f4.ntmps [(0, txv raw), (2, .int .i64 at_), (3, .int .i64 by_), (11, txv T), (13, .slice (some ⟨gl, 0, none⟩) Ls.length Ls.length), (14, .int .i64 (k : Int)), (15, txv ex), (16, txv U)] a ∧ Pu wD w) ?_ ?_
  · skip
    refine cDraw (n := 13) [] hm rfl rfl ?_
    clear hm
    intro w2 hm
    refine hV_ 0 ?_; clear hs a; intro a hs
    refine hV_ 1 ?_; clear hs a; intro a hs
    refine hTake 2 hs rfl (by kernel_rfl) (Wnt.none rfl) rfl rfl (by intro w hm; replace hm : Mm _ _ _ w := hm; (first | exact kvR_ | exact kb2_ | exact ksl_ | exact r_sto (k := k3) hs rfl rfl rfl tab rfl rfl (by omega) | exact r_bstr hs rfl rfl tab rfl rfl rfl rfl rfl rfl (hbr9.keep hm.fr (fun t => t)) | exact r_sadd hs rfl rfl rfl (by omega) | exact r_slTo hs rfl rfl rfl tab rfl rfl rfl (by omega) | exact r_slFrom hs rfl rfl rfl tab rfl rfl rfl (by omega) (by omega) rfl | exact r_sidx hs rfl rfl rfl tab rfl rfl (by assumption))) (hm.sub (List.nil_sublist _)) ?_; clear hs a; intro a hs
    refine hV_ 4 ?_; clear hs a; intro a hs
    refine hV_ 7 ?_; clear hs a; intro a hs
    refine hV_ 8 ?_; clear hs a; intro a hs
    refine hTake 9 hs rfl (by kernel_rfl) (Wnt.none rfl) rfl rfl (by intro w hm; replace hm : Mm _ _ _ w := hm; (first | exact kvR_ | exact kb2_ | exact ksl_ | exact r_sto (k := k3) hs rfl rfl rfl tab rfl rfl (by omega) | exact r_bstr hs rfl rfl tab rfl rfl rfl rfl rfl rfl (hbr9.keep hm.fr (fun t => t)) | exact r_sadd hs rfl rfl rfl (by omega) | exact r_slTo hs rfl rfl rfl tab rfl rfl rfl (by omega) | exact r_slFrom hs rfl rfl rfl tab rfl rfl rfl (by omega) (by omega) rfl | exact r_sidx hs rfl rfl rfl tab rfl rfl (by assumption))) (hm.sub (List.nil_sublist _)) ?_; clear hs a; intro a hs
    refine hEach [3, 5] (by kernel_rfl) (eDo hs rfl (Wnt.none rfl) rfl rfl (d_appendS (A := none) (n := 0) (c := 0) (cs := []) (xs := []) (news := (Ls.take k).map txv) hs rfl rfl rfl rfl tab rfl rfl rfl rfl rfl hm mem_ (Row.empty 1) ltk (hm.fr.rd' rk1) (all_txv _) (by show (0 + k) * 16 ≤ _; omega) (by omega)) ?_ (eDo hs rfl (Wnt.none rfl) rfl rfl (by exact d_buildSlice hs rfl tab rfl rfl rfl rfl rfl rfl rfl rfl rfl hm) ?_ eNil))
    · skip
      clear hs
      rintro _ w1 ⟨A1, c1, cs1, rfl, hr1, hM⟩ a hs
      replace hm := hM _ rep_
      clear hM
      refine ⟨hm.sub sub_, ?_⟩
      refine hEach [5] (by kernel_rfl) (eDo hs rfl (Wnt.none rfl) rfl rfl (by exact d_buildSlice hs rfl tab rfl rfl rfl rfl rfl rfl rfl rfl rfl hm) ?_ eNil)
      clear hs hm a
      rintro _ w25 ⟨g60, rfl, -, hm⟩ a hs
      refine ⟨hm.sub sub_, ?_⟩
      refine hEach [6] (by kernel_rfl) (eDo hs rfl (Wnt.none rfl) rfl rfl (d_append (A := A1) (n := 0 + k) (c := c1) (news := [txv ex]) hs rfl rfl rfl rfl rfl tab rfl rfl rfl rfl rfl hm mem_ hr1 rfl (hm.ro (n := 1) mem_ (cutF_ok rfl)) rfl (by show (0 + k + 1) * 16 ≤ _; omega) (by omega)) ?_ eNil)
      clear hs
      rintro _ w1 ⟨A2, c2, cs2, rfl, hr2, hM⟩ a hs
      replace hm := hM _ rep_
      clear hM
      refine ⟨hm.sub sub_, ?_⟩
      refine hEach [10] (by kernel_rfl) (eDo hs rfl (Wnt.none rfl) rfl rfl (d_appendS (A := A2) (n := 0 + k + 1) (c := c2) (news := (Ls.drop k).map txv) hs rfl rfl rfl rfl tab rfl rfl rfl rfl rfl hm mem_ hr2 ldk (hm.fr.rd' rk2) (all_txv _) (by show (0 + k + 1 + (Ls.length - k)) * 16 ≤ _; omega) (by show 0 + k + 1 + (Ls.length - k) ≤ _; omega)) ?_ eNil)
      clear hs
      rintro _ w1 ⟨A3, c3, cs3, rfl, hr3, hM⟩ a hs
      replace hm := hM _ rep_
      clear hM
      rw [hXl] at hs hr3
      rw [hXm] at hr3
      refine ⟨hm.sub sub_, ?_⟩
      refine hEach [11] (by kernel_rfl) (eDo hs rfl (Wnt.none rfl) rfl rfl (by exact d_call hs rfl rfl rfl (pl 19 rfl) ((join_c ⟨A3.map fun g => ⟨g, 0, none⟩, c3, Xs⟩ [10] _ ⟨hr3.le, hm.rd_row mem_ hr3⟩ (by dsimp only; omega) (by dsimp only; omega)))) ?_ eNil)
      clear hs
      rintro _ w1 ⟨rfl, hf⟩ a hs
      replace hm := hm.pu hf
      clear hf
      refine ⟨hm.sub sub_, ?_⟩
      refine hV_ 12 ?_; clear hs a; intro a hs
      refine hDone (by kernel_rfl) ?_
      exact And.intro rfl ⟨Lib.join Xs [10], hXj, hs.sub (Has.all ⟨rfl, rfl, rfl, rfl, rfl, rfl, rfl, rfl, trivial⟩), hm.fr⟩
    · skip
      clear hs hm a
      rintro _ w25 ⟨g60, rfl, -, hm⟩ a hs
      refine ⟨hm.sub sub_, ?_⟩
      refine hEach [3] (by kernel_rfl) (eDo hs rfl (Wnt.none rfl) rfl rfl (d_appendS (A := none) (n := 0) (c := 0) (cs := []) (xs := []) (news := (Ls.take k).map txv) hs rfl rfl rfl rfl tab rfl rfl rfl rfl rfl hm mem_ (Row.empty 1) ltk (hm.fr.rd' rk1) (all_txv _) (by show (0 + k) * 16 ≤ _; omega) (by omega)) ?_ eNil)
      clear hs
      rintro _ w1 ⟨A1, c1, cs1, rfl, hr1, hM⟩ a hs
      replace hm := hM _ rep_
      clear hM
      refine ⟨hm.sub sub_, ?_⟩
      refine hEach [6] (by kernel_rfl) (eDo hs rfl (Wnt.none rfl) rfl rfl (d_append (A := A1) (n := 0 + k) (c := c1) (news := [txv ex]) hs rfl rfl rfl rfl rfl tab rfl rfl rfl rfl rfl hm mem_ hr1 rfl (hm.ro (n := 1) mem_ (cutF_ok rfl)) rfl (by show (0 + k + 1) * 16 ≤ _; omega) (by omega)) ?_ eNil)
      clear hs
      rintro _ w1 ⟨A2, c2, cs2, rfl, hr2, hM⟩ a hs
      replace hm := hM _ rep_
      clear hM
      refine ⟨hm.sub sub_, ?_⟩
      refine hEach [10] (by kernel_rfl) (eDo hs rfl (Wnt.none rfl) rfl rfl (d_appendS (A := A2) (n := 0 + k + 1) (c := c2) (news := (Ls.drop k).map txv) hs rfl rfl rfl rfl tab rfl rfl rfl rfl rfl hm mem_ hr2 ldk (hm.fr.rd' rk2) (all_txv _) (by show (0 + k + 1 + (Ls.length - k)) * 16 ≤ _; omega) (by show 0 + k + 1 + (Ls.length - k) ≤ _; omega)) ?_ eNil)
      clear hs
      rintro _ w1 ⟨A3, c3, cs3, rfl, hr3, hM⟩ a hs
      replace hm := hM _ rep_
      clear hM
      rw [hXl] at hs hr3
      rw [hXm] at hr3
      refine ⟨hm.sub sub_, ?_⟩
      refine hEach [11] (by kernel_rfl) (eDo hs rfl (Wnt.none rfl) rfl rfl (by exact d_call hs rfl rfl rfl (pl 19 rfl) ((join_c ⟨A3.map fun g => ⟨g, 0, none⟩, c3, Xs⟩ [10] _ ⟨hr3.le, hm.rd_row mem_ hr3⟩ (by dsimp only; omega) (by dsimp only; omega)))) ?_ eNil)
      clear hs
      rintro _ w1 ⟨rfl, hf⟩ a hs
      replace hm := hm.pu hf
      clear hf
      refine ⟨hm.sub sub_, ?_⟩
      refine hV_ 12 ?_; clear hs a; intro a hs
      refine hDone (by kernel_rfl) ?_
      exact And.intro rfl ⟨Lib.join Xs [10], hXj, hs.sub (Has.all ⟨rfl, rfl, rfl, rfl, rfl, rfl, rfl, rfl, trivial⟩), hm.fr⟩
  clear hs hm a
  rintro a wE ⟨U, hU, hs, hFE⟩
  have hF6 := hF5.pu hFE
  have rk4 := hFE.rd' rk3
  have hm := (Mm.nil (fun _ => False) wE).zero 9
  repeat (first | (refine oqXAuc0_ ?_; clear hs a; intro a hs) | ((with_reducible apply lCons); first | (refine dv hs gw_ rfl rfl da_ ?_; clear hs hm a; rintro _ w ⟨g, rfl, -, hm⟩ a hs) | (refine stn hs rfl rfl ds_ ?_; clear hs hm a; rintro - w hm a hs)) | ((with_reducible apply qNil); clear hm; intro w hm) | refine cQ_ ?_ | refine sc_ ?_)
  refine dv hs (Wnt.none rfl) rfl rfl (d_appendS (A := none) (n := 0) (c := 0) (cs := []) (xs := []) (news := Ls.map txv) hs rfl rfl rfl rfl tab rfl rfl rfl rfl rfl hm mem_ (Row.empty 1) (by rw [List.length_map, Nat.mul_one]) (hm.fr.rd' rk4) (all_txv _) (by show (0 + Ls.length) * 16 ≤ _; omega) (by omega)) ?_
  clear hs
  rintro _ w7 ⟨A2, c2, cs2, rfl, hr2, hM⟩ a hs
  replace hm := hM _ rep_
  clear hM
  rw [Nat.zero_add] at hs hr2
  rw [List.nil_append] at hr2
  obtain ⟨gs, rfl⟩ := hr2.some_ hL1
  have hle2 := hr2.le
  have hcl2 : cs2.length = c2 * 1 := hr2.len
  have hks : k < cs2.length := by omega
  repeat (first | (refine oqXAuc0_ ?_; clear hs a; intro a hs) | ((with_reducible apply lCons); first | (refine dv hs gw_ rfl rfl da_ ?_; clear hs hm a; rintro _ w ⟨g, rfl, -, hm⟩ a hs) | (refine stn hs rfl rfl ds_ ?_; clear hs hm a; rintro - w hm a hs)) | ((with_reducible apply qNil); clear hm; intro w hm) | refine cQ_ ?_ | refine sc_ ?_)
  replace hr2 := hr2.set k (txv ex)
  have hrS := hm.rd_row mem_ hr2
  rw [← List.map_set] at hrS
  have hgs := Hp.lt (hm.me _ (List.mem_cons_self ..)) rfl
  have hF7 := hF6.pu hm.fr
  have hWe : ∀ x ∈ Ls.set k ex, x.length ≤ 4096 := fun x hx => by
    rcases List.mem_or_eq_of_mem_set hx with hx | rfl
    · exact hL3 x hx
    · omega
  have hWl : Ls.length = (Ls.set k ex).length := (List.length_set ..).symm
  obtain ⟨Ws, hWs⟩ : ∃ W, Ls.set k ex = W := ⟨_, rfl⟩
  rw [hWs] at hrS hWe hWl
  clear hWs
  rw [hWl] at hs hle2
  have hWn : Ws.length ≤ 5000 := by omega
  have hWj : (Lib.join Ws [10]).length ≤ 100000000 := by
    have h1 := join_bd Ws 10 4096 hWe
    have h2 : Ws.length * (4096 + 1) ≤ 5000 * (4096 + 1) := Nat.mul_le_mul_right _ hWn
    omega
  obtain ⟨wF, hwF⟩ : ∃ u : World, u = w := ⟨w, rfl⟩
  subst hwF
  clear hm
  have hm := Mm.nil (fun _ => False) wF
  refine dv hs (Wnt.none rfl) rfl rfl (d_bytes hs rfl rfl tab rfl rfl rfl rfl rfl rfl hm) ?_
  clear hs hm
  rintro _ w8 ⟨cb, rfl, hbr, hf8, -⟩ a hs
  obtain ⟨gb, hgb⟩ : ∃ g, wF.heap.size = g := ⟨_, rfl⟩
  rw [hgb] at hs hbr
  have hF8 := hF7.pu hf8
  have hrS8 := hf8.rd' hrS
  have hm := Mm.nil (fun _ => False) w8
  have hmdb3 := modF_bd at_ (m := (T.length : Int)) (by omega)
  have hmd3 := fun w => mod_c at_ (T.length : Int) w (by omega) (by omega)
  obtain ⟨jj, hj⟩ : ∃ j : Nat, modF at_ (T.length : Int) = (j : Int) := ⟨(modF at_ (T.length : Int)).toNat, by omega⟩
  rw [hj] at hmd3 hmdb3
  clear hj
  have hmdb4 := modF_bd by_ (m := 16) (by omega)
  have hmd4 := fun w => mod_c by_ 16 w (by omega) (by omega)
  obtain ⟨r2, hr4⟩ : ∃ r : Nat, modF by_ 16 = (r : Int) := ⟨(modF by_ 16).toNat, by omega⟩
  rw [hr4] at hmd4 hmdb4
  clear hr4
  obtain ⟨ch, hch⟩ := by_cell r2 (by omega)
  repeat (first | (refine oqXAuc0_ ?_; clear hs a; intro a hs) | ((with_reducible apply lCons); first | (refine dv hs gw_ rfl rfl da_ ?_; clear hs hm a; rintro _ w ⟨g, rfl, -, hm⟩ a hs) | (refine stn hs rfl rfl ds_ ?_; clear hs hm a; rintro - w hm a hs) | (refine dvc hs hm gw_ rfl rfl rfl rfl rfl (pl 17 rfl) (hmd3 _) ?_; clear hs hm a; intro w hm a hs) | (refine dvc hs hm gw_ rfl rfl rfl rfl rfl (pl 17 rfl) (hmd4 _) ?_; clear hs hm a; intro w hm a hs)) | ((with_reducible apply qCons); first | (refine qwc hs gw_ rfl rfl rfl rfl rfl (pl 17 rfl) (fun w hm => hmd3 _) ?_; clear hs a; intro a hs) | (refine qwc hs gw_ rfl rfl rfl rfl rfl (pl 17 rfl) (fun w hm => hmd4 _) ?_; clear hs a; intro a hs)) | ((with_reducible apply qNil); clear hm; intro w hm) | refine cQ_ ?_ | refine sc_ ?_)
  refine stn hs rfl rfl (d_bstore (c := ch) hs rfl rfl rfl tab rfl rfl (hbr.keep hm.fr (fun t => t)) (by omega)) ?_
  clear hs
  rintro - w9 ⟨hbr9, hf9⟩ a hs
  have hF0w := hF7.size
  have hF9 : Pu w0 w9 := (hF8.pu hm.fr).then hf9 (fun i hi e => by omega)
  have hrS9 := Fr.rdS hf9 (hm.fr.rd' hrS8) (fun g o e e2 => by
    cases e
    omega)
  clear hm hmd3 hmd4 hch hbr
  have hBl : T.length = (T.set jj ch).length := (List.length_set ..).symm
  obtain ⟨Bs, hBs⟩ : ∃ B, T.set jj ch = B := ⟨_, rfl⟩
  rw [hBs] at hBl hbr9
  clear hBs
  rw [hBl] at hs
  have hm := Mm.nil (fun _ => False) w9
  have hsum : (((⟨T.toArray⟩ : ByteArray).size : Nat) : Int) + 1 = ((T.length + 1 : Nat) : Int) := by rw [hzT]; rfl
  have hmdb5 := modF_bd at_ (m := ((T.length + 1 : Nat) : Int)) (by omega)
  have hmd5 := fun w => mod_c at_ ((T.length + 1 : Nat) : Int) w (by omega) (by omega)
  obtain ⟨k3, hk3⟩ : ∃ k : Nat, modF at_ ((T.length + 1 : Nat) : Int) = (k : Int) := ⟨(modF at_ ((T.length + 1 : Nat) : Int)).toNat, by omega⟩
  rw [hk3] at hmd5 hmdb5
  clear hk3
  have hTs : ∀ t ∈ ([raw, T, U, Lib.join Ws [10], Bs, T.take k3, T ++ raw, []] : List Tx), t.length ≤ 1000000000 := fun t ht_ => by
    simp only [List.mem_cons, List.not_mem_nil, or_false] at ht_
    rcases ht_ with rfl | rfl | rfl | rfl | rfl | rfl | rfl | rfl
    · omega
    · omega
    · omega
    · omega
    · omega
    · rw [List.length_take]; omega
    · rw [List.length_append]; omega
    · exact Nat.zero_le _
  repeat (first | (refine oqXAuc0_ ?_; clear hs a; intro a hs) | ((with_reducible apply lCons); first | (refine dv hs gw_ rfl rfl da_ ?_; clear hs hm a; rintro _ w ⟨g, rfl, -, hm⟩ a hs) | (refine stn hs rfl rfl ds_ ?_; clear hs hm a; rintro - w hm a hs)) | ((with_reducible apply qNil); clear hm; intro w hm) | refine cQ_ ?_ | refine sc_ ?_)
  refine cMid (fun a w => ∃ (Ts : List Tx) (g : Nat), Ts.length = 8 ∧ (∀ t ∈ Ts, t.length ≤ 1000000000) ∧ Ro w g 0 (Ts.map txv) ∧ Sl Tryz.f4.ntmps [(101, .slice (some ⟨g, 0, none⟩) 8 8), (102, .int .i64 8), (103, .int .i64 0)] a ∧ Pu w9 w) ?_ ?_
  · skip
    refine cDraw (n := 20) [] hm rfl rfl ?_
    clear hm
    intro w2 hm
    refine hV_ 0 ?_; clear hs a; intro a hs
    refine hV_ 1 ?_; clear hs a; intro a hs
    refine hV_ 2 ?_; clear hs a; intro a hs
    refine hV_ 3 ?_; clear hs a; intro a hs
    refine hV_ 5 ?_; clear hs a; intro a hs
    refine hTake 6 hs rfl (by kernel_rfl) (Wnt.none rfl) rfl rfl (by intro w hm; replace hm : Mm _ _ _ w := hm; (first | exact r_val hs tab rfl | exact r_bstr hs rfl rfl tab rfl rfl rfl rfl rfl rfl (hbr9.keep hm.fr (fun t => t)))) (hm.sub (List.nil_sublist _)) ?_; clear hs a; intro a hs
    refine hV_ 7 ?_; clear hs a; intro a hs
    refine hV_ 8 ?_; clear hs a; intro a hs
    refine hV_ 9 ?_; clear hs a; intro a hs
    refine hTake 10 hs rfl (by kernel_rfl) (Wnt.none rfl) rfl rfl (by intro w hm; replace hm : Mm _ _ _ w := hm; (first | exact r_val hs tab rfl | exact r_bi hs rfl | exact r_pick hs rfl rfl rfl rfl)) (hm.sub (List.nil_sublist _)) ?_; clear hs a; intro a hs
    refine hTake 11 hs rfl (by kernel_rfl) (Wnt.none rfl) rfl rfl (by intro w hm; replace hm : Mm _ _ _ w := hm; (first | exact r_sadd hs rfl rfl rfl (by omega) | exact r_arH hs rfl (by assumption) (by omega) | exact r_pred hs rfl rfl rfl (by omega) | exact r_ar hs rfl (by omega) | exact r_bi hs rfl)) (hm.sub (List.nil_sublist _)) ?_; clear hs a; intro a hs
    refine hV_ 14 ?_; clear hs a; intro a hs
    refine hV_ 15 ?_; clear hs a; intro a hs
    refine hTake 16 hs rfl (by kernel_rfl) (Wnt.none rfl) rfl rfl (by intro w hm; replace hm : Mm _ _ _ w := hm; (first | exact r_sadd hs rfl rfl rfl (by omega) | exact r_arH hs rfl (by assumption) (by omega) | exact r_pred hs rfl rfl rfl (by omega) | exact r_ar hs rfl (by omega) | exact r_bi hs rfl)) (hm.sub (List.nil_sublist _)) ?_; clear hs a; intro a hs
    refine hV_ 19 ?_; clear hs a; intro a hs
    refine hEach [4] (by kernel_rfl) (eDo hs rfl (Wnt.none rfl) rfl rfl (by exact d_call hs rfl rfl rfl (pl 19 rfl) ((join_c ⟨some ⟨gs, 0, none⟩, c2, Ws⟩ [10] _ ⟨hle2, hm.fr.rd' hrS9⟩ (by dsimp only; omega) (by dsimp only; omega)))) ?_ eNil)
    clear hs
    rintro _ w1 ⟨rfl, hf⟩ a hs
    replace hm := hm.pu hf
    clear hf
    refine ⟨hm.sub sub_, ?_⟩
    refine hEach [12] (by kernel_rfl) (eDo hs rfl (Wnt.none rfl) rfl rfl (by exact d_call hs rfl rfl rfl (pl 17 rfl) ((hmd5 _))) ?_ eNil)
    clear hs
    rintro _ w1 ⟨rfl, hf⟩ a hs
    replace hm := hm.pu hf
    clear hf
    refine ⟨hm.sub sub_, ?_⟩
    refine hTake 13 hs rfl (by kernel_rfl) (Wnt.none rfl) rfl rfl (by intro w hm; replace hm : Mm _ _ _ w := hm; (first | exact kvR_ | exact kb2_ | exact ksl_ | exact r_sto (k := k3) hs rfl rfl rfl tab rfl rfl (by omega) | exact r_bstr hs rfl rfl tab rfl rfl rfl rfl rfl rfl (hbr9.keep hm.fr (fun t => t)) | exact r_sadd hs rfl rfl rfl (by omega) | exact r_slTo hs rfl rfl rfl tab rfl rfl rfl (by omega) | exact r_slFrom hs rfl rfl rfl tab rfl rfl rfl (by omega) (by omega) rfl | exact r_sidx hs rfl rfl rfl tab rfl rfl (by assumption))) (hm.sub (List.nil_sublist _)) ?_; clear hs a; intro a hs
    refine hEach [17] (by kernel_rfl) (eDo hs rfl (Wnt.none rfl) rfl rfl (by exact d_buildSlice hs rfl tab rfl rfl rfl rfl rfl rfl rfl rfl rfl hm) ?_ eNil)
    clear hs hm a
    rintro _ w37 ⟨g101, rfl, -, hm⟩ a hs
    refine ⟨hm.sub sub_, ?_⟩
    refine hTake 18 hs rfl (by kernel_rfl) (Wnt.none rfl) rfl rfl (by intro w hm; replace hm : Mm _ _ _ w := hm; (first | exact r_val hs tab rfl | exact r_bi hs rfl | exact r_pick hs rfl rfl rfl rfl)) (hm.sub (List.nil_sublist _)) ?_; clear hs a; intro a hs
    refine hDone (by kernel_rfl) ?_
    exact And.intro rfl ⟨[raw, T, U, Lib.join Ws [10], Bs, T.take k3, T ++ raw, []], _, rfl, hTs, hm.ro (k := 0) (n := 8) mem_ (cutF_ok rfl), hs.sub (Has.all ⟨rfl, rfl, rfl, trivial⟩), hm.fr⟩
  clear hs hm a hTs
  rintro a wG ⟨Ts, gt, hT8, hTs, hrT, hs, hFG⟩
  have hF10 := hF9.pu hFG
  have hm := Mm.nil (fun _ => False) wG
  repeat (first | (refine ovXAuc1_ ?_; clear hs a; intro a hs) | ((with_reducible apply lCons); first | (refine dv hs gw_ rfl rfl da_ ?_; clear hs hm a; rintro _ w ⟨g, rfl, -, hm⟩ a hs) | (refine stn hs rfl rfl ds_ ?_; clear hs hm a; rintro - w hm a hs)) | refine sc_ ?_)
  clear hm
  refine cLoop (X := Nat) (fun k a w' => Sl Tryz.f4.ntmps [(101, .slice (some ⟨gt, 0, none⟩) 8 8), (102, .int .i64 8), (103, .int .i64 (k : Int))] a ∧ Pu wG w' ∧ k ≤ 8) (fun k => 8 - k) 0 ⟨hs.sub (Has.all ⟨rfl, rfl, rfl, trivial⟩), Fr.refl _ _, Nat.zero_le _⟩ ?_
  clear hs a
  rintro k a w' ⟨hs, hP, hk⟩
  have hm := Mm.nil (fun _ => False) w'
  have htl := ht.pu (hF10.pu hP)
  by_cases hlt : k < 8
  · obtain ⟨S, hS⟩ : ∃ S, Ts[k]'(by omega) = S := ⟨_, rfl⟩
    have hSl := hTs _ (List.getElem_mem (l := Ts) (n := k) (by omega))
    rw [hS] at hSl
    have hrk := hrT.pu_ hP
    have e1 : (Ts.map txv)[k]? = some (txv S) := by rw [List.getElem?_map, List.getElem?_eq_getElem (by omega), hS]; rfl
    repeat (first | (refine ovXAuc1_ ?_; clear hs a; intro a hs) | ((with_reducible apply lCons); first | (refine dv hs gw_ rfl rfl da_ ?_; clear hs hm a; rintro _ w ⟨g, rfl, -, hm⟩ a hs) | (refine stn hs rfl rfl ds_ ?_; clear hs hm a; rintro - w hm a hs)) | refine sc_ ?_)
    refine st hs rfl rfl rfl (d_call hs rfl rfl rfl (pl 20 rfl) ((par_c S _ (htl.pu hm.fr) (by omega)))) ?_; clear hs a; rintro _ w1 ⟨p1, rfl, hp1, hpc1, hps1, hpw1, hf⟩ a hs
    have hsm1 := par_sm hpc1 hps1 hpw1
    have hF11 := hm.fr.pu hf
    clear hm hf
    have hm := Mm.nil (fun _ => False) w1
    unfold PV.v at hs
    repeat (first | (refine ovXAuc1_ ?_; clear hs a; intro a hs) | ((with_reducible apply lCons); first | (refine dv hs gw_ rfl rfl da_ ?_; clear hs hm a; rintro _ w ⟨g, rfl, -, hm⟩ a hs) | (refine stn hs rfl rfl ds_ ?_; clear hs hm a; rintro - w hm a hs)) | refine sc_ ?_)
    refine st hs rfl rfl rfl (d_call hs rfl rfl rfl (pl 21 rfl) ((rpar_c S _ (htl.pu (hF11.pu hm.fr)) (by omega)))) ?_; clear hs a; rintro _ w2 ⟨p2, rfl, hp2, hpc2, hps2, hpw2, hf⟩ a hs
    replace hm := hm.pu hf
    clear hf
    have hsm2 := par_sm hpc2 hps2 hpw2
    have hSame : SameP p1 p2 := ⟨hpc1.trans hpc2.symm, hps1.trans hps2.symm, hpw1.trans hpw2.symm⟩
    obtain ⟨g21, en_⟩ := hs.pt 21 (by exact rfl); subst en_
    have r21 := hm.ro (k := 0) (n := 3) (g := g21) mem_ (cutF_ok rfl)
    have hF12 := hF11.pu hm.fr
    have hp1' := hp1.pu hm.fr
    clear hm
    have hm := Mm.nil (fun _ => False) w2
    unfold PV.v at hs
    clear hpc1 hps1 hpw1 hpc2 hps2 hpw2
    generalize (parF S).2.1 = m1 at hs
    generalize (parF S).2.2 = m2 at hs
    have kS := fun w'' (hf : Pu w2 w'') => same_t p1 p2 hSame w'' (hp1'.pu hf) (hp2.pu hf) hsm1 hsm2
    unfold PV.v at kS
    repeat (first | (refine oqXAuc0_ ?_; clear hs a; intro a hs) | ((with_reducible apply lCons); first | (refine dv hs gw_ rfl rfl da_ ?_; clear hs hm a; rintro _ w ⟨g, rfl, -, hm⟩ a hs) | (refine stn hs rfl rfl ds_ ?_; clear hs hm a; rintro - w hm a hs) | (refine dvc hs hm gw_ rfl rfl rfl rfl rfl (pl 22 rfl) (kS _ hm.fr) ?_; clear hs hm a; intro w hm a hs)) | ((with_reducible apply qCons); first | (refine qwc hs gw_ rfl rfl rfl rfl rfl (pl 22 rfl) (fun w hm => kS _ hm.fr) ?_; clear hs a; intro a hs)) | ((with_reducible apply qNil); clear hm; intro w hm) | refine cQ_ ?_ | refine sc_ ?_)
    exact ⟨k + 1, by omega, hs.sub (Has.all ⟨rfl, rfl, rfl, trivial⟩), hP.pu (hF12.pu hm.fr), by omega⟩
  obtain rfl : k = 8 := by omega
  have kA := fun w'' (hf : Pu w' w'') => awk_c w'' (htl.pu hf)
  repeat (first | (refine oqXAuc0_ ?_; clear hs a; intro a hs) | ((with_reducible apply lCons); first | (refine dv hs gw_ rfl rfl da_ ?_; clear hs hm a; rintro _ w ⟨g, rfl, -, hm⟩ a hs) | (refine stn hs rfl rfl ds_ ?_; clear hs hm a; rintro - w hm a hs) | (refine dvc hs hm gw_ rfl rfl rfl rfl rfl (pl 9 rfl) (kA _ hm.fr) ?_; clear hs hm a; intro w hm a hs)) | ((with_reducible apply qCons); first | (refine qwc hs gw_ rfl rfl rfl rfl rfl (pl 9 rfl) (fun w hm => kA _ hm.fr) ?_; clear hs a; intro a hs)) | ((with_reducible apply qNil); clear hm; intro w hm) | refine cQ_ ?_ | refine sc_ ?_)
  exact gRet1 hs rfl rfl ⟨rfl, hF10.pu (hP.pu hm.fr)⟩
theorem walk_AssemblerReads (raw : ByteArray) (A : Option Addr) (n c : Nat) (xs : List Int) (at_ by_ : Int) (line : ByteArray) (w : World) (_ : raw.size ≤ maxLen) (hI : IsInts .i64 w A n c xs) (_ : (Lit.int .i64 at_).wf = true) (_ : (Lit.int .i64 by_).wf = true) (_ : line.size ≤ maxLen) (ht : TW w) : Calls Tryz.prog 4 #[.string raw, .slice A n c, .int .i64 at_, .int .i64 by_, .string line] w (fun e w' => e = .returned (.bool true) ∧ Pu w w') := by
  have h := Ret.law (reads_c raw.data.toList A n c xs at_ by_ line.data.toList w hI ht)
  rw [txv_of raw, txv_of line]
  exact h
end Go.Proofs.YtajkekhnfobgiaaGreatDoor

/- Arguments of flat types (integers and bools, structs and arrays of these) and slices of them: over any program. -/
namespace Go.Proofs.YtajkekhnfobgiaaGreatDoor
set_option maxRecDepth 20000
open Go.ChangeShapes Go.WideShapes Go.ChangeAt Go.RowKit

/-- one cell: an integer of a kind, or a bool -/
def isCell : Option IntKind → Value → Prop
  | some k, v => ∃ n, v = .int k n ∧ (Lit.int k n).wf = true
  | none, v => ∃ b, v = .bool b
def areCells : List (Option IntKind) → List Value → Prop
  | [], [] => True
  | c :: cs, v :: vs => isCell c v ∧ areCells cs vs
  | _, _ => False
theorem areCells_len {ks : List (Option IntKind)} {vs : List Value} (h : areCells ks vs) : vs.length = ks.length := by
  induction ks generalizing vs with
  | nil => cases vs <;> simp_all [areCells]
  | cons k ks ih =>
    cases vs with
    | nil => simp [areCells] at h
    | cons v vs => simp only [areCells] at h; simp [ih h.2]
theorem areCells_cons {k : Option IntKind} {ks : List (Option IntKind)} {vs : List Value} (h : areCells (k :: ks) vs) : ∃ v vs', vs = v :: vs' ∧ isCell k v ∧ areCells ks vs' := by
  cases vs with
  | nil => simp [areCells] at h
  | cons v vs' => exact ⟨v, vs', rfl, h.1, h.2⟩
theorem areCells_nil {vs : List Value} (h : areCells [] vs) : vs = [] := by cases vs <;> simp_all [areCells]
theorem areCells_append {a b : List (Option IntKind)} {vs ws : List Value} (h : areCells a vs) (h' : areCells b ws) : areCells (a ++ b) (vs ++ ws) := by
  induction a generalizing vs with
  | nil => have := areCells_nil h; subst this; exact h'
  | cons k ks ih =>
    obtain ⟨v, vs', rfl, h1, h2⟩ := areCells_cons h
    exact ⟨h1, ih h2⟩

/-- the fields' cells, one behind the other from cell o on -/
def flatFs (P : Program) (F : TypeId → Option (List (Option IntKind))) : Nat → List Field → Option (List (Option IntKind))
  | _, [] => some []
  | o, f :: r => if f.offset = o then (F f.type).bind fun l => if P.cellsOf f.type = l.length then (flatFs P F (o + l.length) r).bind fun l' => some (l ++ l') else none else none
/-- the kinds of a flat type's cells -/
def flat (P : Program) : Nat → TypeId → Option (List (Option IntKind))
  | 0, _ => none
  | n + 1, t => match P.underlying t with
    | some (.int k) => some [some k]
    | some .bool => some [none]
    | some (.struct fs) => (flatFs P (flat P n) 0 fs.toList).bind fun l => if P.cellsOf t = l.length then some l else none
    | some (.array m e) => (flat P n e).bind fun l => if P.cellsOf e = l.length then if P.cellsOf t = m * l.length then some (List.replicate m l).flatten else none else none
    | _ => none

section
variable {H : Type} {enc : TypeId × Value → H} {P : Program} {W : World} {base b0 : Nat} {spare : Nat → Bool} {held : Bool}

theorem flatFs_ok {F : TypeId → Option (List (Option IntKind))} {cs : List Value} (hF : ∀ t l ws, F t = some l → (∃ n x, DataW.trod enc P W base spare held n t ws = some x) → areCells l ws) (fs : List Field) :
    ∀ (o : Nat) (l : List (Option IntKind)), flatFs P F o fs = some l → cs.length = o + l.length → (∀ f ∈ fs, ∃ n x, DataW.trod enc P W base spare held n f.type ((cs.drop f.offset).take (P.cellsOf f.type)) = some x) → areCells l (cs.drop o) := by
  induction fs with
  | nil =>
    intro o l h hl _
    simp only [flatFs, Option.some.injEq] at h
    subst h
    rw [List.drop_of_length_le (by simp at hl; omega)]
    trivial
  | cons f r ih =>
    intro o l h hl ht
    simp only [flatFs] at h
    split at h
    · rename_i ho
      subst ho
      cases h1 : F f.type with
      | none => rw [h1] at h; simp at h
      | some l1 =>
        rw [h1] at h
        simp only [Option.bind_some] at h
        split at h
        · rename_i hc
          cases h2 : flatFs P F (f.offset + l1.length) r with
          | none => rw [h2] at h; simp at h
          | some l2 =>
            rw [h2] at h
            simp only [Option.bind_some, Option.some.injEq] at h
            subst h
            have a1 := hF _ _ _ h1 (ht f (by simp))
            have a2 := ih _ _ h2 (by rw [hl, List.length_append]; omega) (fun g hg => ht g (by simp [hg]))
            have := areCells_append a1 a2
            rw [hc, ← List.drop_drop, List.take_append_drop] at this
            exact this
        · simp at h
    · simp at h
theorem flat_arr {l : List (Option IntKind)} (m : Nat) : ∀ (cs : List Value), cs.length = m * l.length → (∀ i, i < m → areCells l ((cs.drop (i * l.length)).take l.length)) → areCells (List.replicate m l).flatten cs := by
  induction m with
  | zero =>
    intro cs h _
    have : cs = [] := List.eq_nil_of_length_eq_zero (by omega)
    subst this; simp [areCells]
  | succ m ih =>
    intro cs h ha
    rw [List.replicate_succ, List.flatten_cons]
    have h0 := ha 0 (by omega)
    rw [Nat.zero_mul, List.drop_zero] at h0
    have h1 := ih (cs.drop l.length) (by rw [List.length_drop, h, Nat.succ_mul]; omega) (fun i hi => by
      have := ha (i + 1) (by omega)
      rw [List.drop_drop]
      have e : l.length + i * l.length = (i + 1) * l.length := by rw [Nat.succ_mul]; omega
      rw [e]; exact this)
    have := areCells_append h0 h1
    rwa [List.take_append_drop] at this
theorem flat_ok (n : Nat) : ∀ (t : TypeId) (l : List (Option IntKind)) (cs : List Value), flat P n t = some l → (∃ m x, DataW.trod enc P W base spare held m t cs = some x) → areCells l cs := by
  induction n with
  | zero => intro t l cs h; simp [flat] at h
  | succ n ih =>
    intro t l cs h ⟨m, x, hx⟩
    simp only [flat] at h
    split at h
    · rename_i k hk
      simp only [Option.some.injEq] at h; subst h
      obtain ⟨z, rfl, _, hw⟩ := DataW.trod_int hk hx
      exact ⟨⟨z, rfl, hw⟩, trivial⟩
    · rename_i hk
      simp only [Option.some.injEq] at h; subst h
      obtain ⟨z, rfl, _⟩ := DataW.trod_bool hk hx
      exact ⟨⟨z, rfl⟩, trivial⟩
    · rename_i fs hk
      cases h1 : flatFs P (flat P n) 0 fs.toList with
      | none => rw [h1] at h; simp at h
      | some l' =>
        rw [h1] at h
        simp only [Option.bind_some] at h
        split at h
        · rename_i hc
          simp only [Option.some.injEq] at h; subst h
          obtain ⟨xs, n', _, _, hl, hlen, hf⟩ := DataW.trod_struct hk hx
          have := flatFs_ok (F := flat P n) (cs := cs) (fun t l ws h1 h2 => ih t l ws h1 h2) fs.toList 0 l' h1 (by omega) (fun f hfm => by
            obtain ⟨i, hi, rfl⟩ := List.getElem_of_mem hfm
            have hi' : i < fs.size := by simpa using hi
            have h2 := hf i fs[i] (Array.getElem?_eq_getElem hi')
            rw [List.getElem?_eq_getElem (by omega)] at h2
            exact ⟨n', _, by simpa using h2⟩)
          simpa using this
        · simp at h
    · rename_i m' e hk
      cases h1 : flat P n e with
      | none => rw [h1] at h; simp at h
      | some l' =>
        rw [h1] at h
        simp only [Option.bind_some] at h
        split at h
        · rename_i hc
          split at h
          · rename_i hc2
            simp only [Option.some.injEq] at h; subst h
            obtain ⟨xs, n', _, _, hl, hlen, hf⟩ := DataW.trod_array hk hx
            refine flat_arr m' cs (by omega) fun i hi => ?_
            have h2 := hf i hi
            rw [List.getElem?_eq_getElem (by omega), hc] at h2
            exact ih e l' _ h1 ⟨n', _, h2⟩
          · simp at h
        · simp at h
    · simp at h

/-- a struct or an array of flat cells that came in -/
theorem opn_flat {T : TypeId} {v : Value} {d : DataW H} {p : List MemPlace} {l : List (Option IntKind)} {r : Reach} (n : Nat) (hs : (∃ fs, P.underlying T = some (.struct fs)) ∨ (∃ m e, P.underlying T = some (.array m e))) (hl : flat P n T = some l)
    (hval : Value.okWide P W r b0 T v) (h : DataW.Trod enc P W base spare held T v d p) : ∃ vs : List Value, v = .agg vs.toArray ∧ areCells l vs := by
  obtain ⟨fuel, hf⟩ := h
  have hv : ∃ cs, v = .agg cs := by
    rcases hs with ⟨fs, hs⟩ | ⟨m, e, hs⟩
    · obtain ⟨cs, rfl, _⟩ := okWide_struct hs hval
      exact ⟨cs, rfl⟩
    · simp only [Value.okWide, hs] at hval
      obtain ⟨cs, rfl, _⟩ := hval
      exact ⟨cs, rfl⟩
  obtain ⟨cs, rfl⟩ := hv
  exact ⟨cs.toList, by simp, flat_ok n T l _ hl ⟨fuel, _, hf⟩⟩

/-- a slice of flat elements that came in: each element's cells -/
def IsRows (ks : List (Option IntKind)) (W : World) (A : Option Addr) (n c : Nat) (rows : List (List Value)) : Prop :=
  rows.length = n ∧ n ≤ c ∧ c ≤ 9223372036854775807 ∧ Rd W W.heap.size A rows.flatten ∧ ∀ r ∈ rows, areCells ks r

theorem flatten_get {s : Nat} (rows : List (List Value)) (hs : ∀ r ∈ rows, r.length = s) (j : Nat) (u : Value) (h : rows.flatten[j]? = some u) : ∃ (k i : Nat) (hk : k < rows.length), i < s ∧ j = k * s + i ∧ rows[k][i]? = some u := by
  induction rows generalizing j with
  | nil => simp at h
  | cons r t ih =>
    rw [List.flatten_cons] at h
    have hr := hs r (by simp)
    by_cases hj : j < s
    · rw [List.getElem?_append_left (by omega)] at h
      exact ⟨0, j, by simp, hj, by omega, by simpa using h⟩
    · rw [List.getElem?_append_right (by omega)] at h
      obtain ⟨k, i, hk, hi, e, hu⟩ := ih (fun r hr => hs r (by simp [hr])) _ h
      exact ⟨k + 1, i, by simp; omega, hi, by rw [Nat.succ_mul]; omega, by simpa using hu⟩
theorem mapM_get {α β : Type} (f : α → Option β) (l : List α) (r : List β) (h : l.mapM f = some r) : r.length = l.length ∧ ∀ i (hi : i < l.length), f l[i] = r[i]? := by
  induction l generalizing r with
  | nil => simp at h; subst h; exact ⟨rfl, fun i hi => by simp at hi⟩
  | cons a t ih =>
    rw [List.mapM_cons] at h
    cases ha : f a with
    | none => rw [ha] at h; simp at h
    | some b =>
      rw [ha] at h
      cases ht : t.mapM f with
      | none => rw [ht] at h; simp at h
      | some r' =>
        rw [ht] at h
        simp at h
        subst h
        obtain ⟨h1, h2⟩ := ih r' ht
        exact ⟨by simp [h1], fun i hi => by
          cases i with
          | zero => simpa using ha
          | succ i => simpa using h2 i (by simpa using hi)⟩
theorem cells?_get {w : World} {b : Nat} {a : Addr} {n : Nat} {l : List Value} (h : w.cells? b a n = some l) : l.length = n ∧ ∀ i, i < n → w.cell? (a.add i) = l[i]? := by
  unfold World.cells? at h
  split at h
  · obtain ⟨h1, h2⟩ := mapM_get _ _ _ h
    simp only [List.length_range] at h1 h2
    exact ⟨h1, fun i hi => by have := h2 i hi; simpa using this⟩
  · cases h
theorem add_add' (a : Addr) (i j : Nat) : (a.add i).add j = a.add (i + j) := add_add a i j

theorem opn_rows {T E : TypeId} {v : Value} {d : DataW H} {p : List MemPlace} {ks : List (Option IntKind)} {r : Reach} (n : Nat) (hT : P.underlying T = some (.slice E)) (hE : flat P n E = some ks) (hc : P.cellsOf E = ks.length)
    (hval : Value.okWide P W r b0 T v) (h : DataW.Trod enc P W base spare held T v d p) : ∃ A n c rows, v = .slice A n c ∧ IsRows ks W A n c rows := by
  obtain ⟨A, len, cap, rfl⟩ := okWide_slice hT hval
  obtain ⟨fuel, hf⟩ := h
  rcases DataW.trod_slice hT hf with ⟨hcs, _⟩ | ⟨a, len', cap', elems, rest, m, _, hcs, _, _, hl, hm, hel, hget, _⟩
  · simp [Value.cells] at hcs
    obtain ⟨rfl, rfl, rfl⟩ := hcs
    exact ⟨none, 0, 0, [], rfl, rfl, Nat.le_refl _, by omega, Rd.nil, by simp⟩
  · simp [Value.cells] at hcs
    obtain ⟨rfl, rfl, rfl⟩ := hcs
    have each : ∀ i, i < len → ∃ row, W.cells? base (a.add (i * P.cellsOf E)) (P.cellsOf E) = some row ∧ areCells ks row := fun i hi => by
      have h1 := hget i hi
      rw [List.getElem?_eq_getElem (by omega)] at h1
      cases h2 : W.cells? base (a.add (i * P.cellsOf E)) (P.cellsOf E) with
      | none => rw [h2] at h1; simp at h1
      | some row =>
        rw [h2] at h1
        exact ⟨row, rfl, flat_ok n E ks row hE ⟨m, _, by simpa using h1⟩⟩
    refine ⟨some a, len, cap, (List.range len).map fun i => (W.cells? base (a.add (i * P.cellsOf E)) (P.cellsOf E)).getD [], rfl, by simp, hl, hm, ?_, ?_⟩
    · have hrow : ∀ r ∈ (List.range len).map fun i => (W.cells? base (a.add (i * P.cellsOf E)) (P.cellsOf E)).getD [], r.length = ks.length := fun r hr => by
        obtain ⟨i, hi, rfl⟩ := List.mem_map.1 hr
        obtain ⟨row, h1, h2⟩ := each i (by simpa using hi)
        rw [h1]; exact areCells_len h2
      have hcell : ∀ j u, ((List.range len).map fun i => (W.cells? base (a.add (i * P.cellsOf E)) (P.cellsOf E)).getD []).flatten[j]? = some u → W.cell? (a.add j) = some u := fun j u hu => by
        obtain ⟨k, i, hk, hi, rfl, hku⟩ := flatten_get _ hrow j u hu
        have hk' : k < len := by simpa using hk
        obtain ⟨row, h1, h2⟩ := each k hk'
        simp only [List.getElem_map, List.getElem_range, h1, Option.getD_some] at hku
        have := (cells?_get h1).2 i (by omega)
        rw [add_add, hc] at this
        rw [this]; exact hku
      intro hn
      have h0 := hcell 0 _ (List.getElem?_eq_getElem hn)
      have hb : a.block < W.heap.size := by have := cell_lt h0; rwa [block_add] at this
      exact Rd.of_add hb hcell hn
    · intro r hr
      obtain ⟨i, hi, rfl⟩ := List.mem_map.1 hr
      obtain ⟨row, h1, h2⟩ := each i (by simpa using hi)
      rw [h1]; exact h2
end
end Go.Proofs.YtajkekhnfobgiaaGreatDoor
