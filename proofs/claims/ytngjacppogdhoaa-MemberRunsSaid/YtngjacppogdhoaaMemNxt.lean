/- MemberNext: plain law and walk. -/
import Derived.Test.YtngjacppogdhoaaMem7
namespace Go.Proofs.Ytngjacppogdhoaa
open Go.RowKit

theorem ints_set' (xs : List Int) (k : Nat) (v : Int) : (ints xs).set k (.int .i64 v) = ints (xs.set k v) := by simp [ints, List.map_set]
theorem getD_some {α : Type} {l : List α} {i : Nat} {d : α} (h : i < l.length) : l.getD i d = l[i] := by rw [List.getD_eq_getElem?_getD, List.getElem?_eq_getElem h]; rfl
theorem u8_in {x : Int} (h : (Lit.int .u8 x).wf = true) : 0 ≤ x ∧ x ≤ 255 := by
  simp [Lit.wf] at h; exact h
section
variable (at_ : Nat → Int) (out : Nat → Bool)
def lI (i : Nat) : List Mb := (List.range 5).map fun j => if j < i ∧ out j = true then (1, at_ j, 0) else (0, 0, 0)
def lF : List Mb := (List.range 5).map fun j => if out j = true then (1, at_ j, 0) else (0, 0, 0)
def atL (i : Nat) : List Int := (List.range 5).map fun j => if j < i then at_ j else 0
theorem lI_5 : lI at_ out 5 = lF at_ out := by
  unfold lI lF
  refine List.map_congr_left fun j hj => ?_
  have := List.mem_range.1 hj
  simp [this]
theorem lI_skip {i : Nat} (h : out i = false) : lI at_ out (i + 1) = lI at_ out i := by
  unfold lI
  refine List.map_congr_left fun j _ => ?_
  by_cases hj : j = i
  · subst hj; simp [h]
  · have : j < i + 1 ↔ j < i := by omega
    simp only [this]
theorem lI_at {i j : Nat} (hj : j < 5) : (lI at_ out i)[j]? = some (if j < i ∧ out j = true then (1, at_ j, 0) else (0, 0, 0)) := by
  unfold lI
  rw [List.getElem?_map, List.getElem?_range hj]; rfl
theorem lF_at {j : Nat} (hj : j < 5) : (lF at_ out).getD j (0, 0, 0) = if out j = true then (1, at_ j, 0) else (0, 0, 0) := by
  unfold lF
  rw [List.getD_eq_getElem?_getD, List.getElem?_map, List.getElem?_range hj]; rfl
theorem lI_set {i : Nat} (hi : i < 5) (h : out i = true) : (lI at_ out i).set i (1, at_ i, 0) = lI at_ out (i + 1) := by
  refine List.ext_getElem? fun j => ?_
  rw [List.getElem?_set]
  by_cases hj : j < 5
  · rw [lI_at at_ out hj, lI_at at_ out hj]
    by_cases hij : i = j
    · subst hij
      rw [if_pos rfl, if_pos (by simpa [lI] using hi), if_pos ⟨by omega, h⟩]
    · rw [if_neg hij]
      have : j < i + 1 ↔ j < i := by omega
      simp only [this]
  · rw [if_neg (by omega), List.getElem?_eq_none (by simp [lI]; omega), List.getElem?_eq_none (by simp [lI]; omega)]
theorem lI_chk (i : Nat) (h : ∀ j, 0 ≤ at_ j ∧ at_ j < 50) : chkF (lI at_ out i) = 0 := by
  refine chk_good (by simp [lI]) (List.all_eq_true.2 fun x hx => ?_)
  unfold lI at hx
  obtain ⟨j, _, rfl⟩ := List.mem_map.1 hx
  have := h j
  unfold okM
  split
  · rw [inB_t (by dsimp only; omega), inB_t (by dsimp only; omega), inB_t (by dsimp only; omega)]; rfl
  · rw [inB_t (by dsimp only; omega), inB_t (by dsimp only; omega), inB_t (by dsimp only; omega)]; rfl
theorem lI_step {i : Nat} (hi : i < 5) (ho : out i = true) (h : ∀ j, 0 ≤ at_ j ∧ at_ j < 50) : stepF (alF 0) true (fun x => (1, x.2.1, x.2.2)) (lI at_ out i) (i : Int) (at_ i) = (lI at_ out (i + 1), 0) := by
  have hg : (lI at_ out i).getD (i : Int).toNat (0, 0, 0) = (0, 0, 0) := by
    rw [Int.toNat_natCast, List.getD_eq_getElem?_getD, lI_at at_ out hi, if_neg (by omega)]; rfl
  unfold stepF
  rw [if_pos (lI_chk at_ out i h), hg, if_pos ⟨⟨by omega, by simp [lI]; omega⟩, by decide⟩, if_pos (by rw [inB_t (by have := h i; omega)]; rfl), ← lI_set at_ out hi ho]
  rfl
theorem lF_none {k : Nat} (hk : k < 5) : stepN (lF at_ out) none k = if out k = true then some k else none := by
  rw [stepN_none, lF_at at_ out hk]
  by_cases hq : out k = true <;> simp [hq]
theorem lF_some {j k : Nat} (hk : k < 5) (hj : j < 5) (ho : out j = true) : stepN (lF at_ out) (some j) k = if out k = true ∧ at_ k < at_ j then some k else some j := by
  rw [stepN_some, lF_at at_ out hk, lF_at at_ out hj, ho]
  by_cases hq : out k = true <;> simp [hq]
theorem lF_out : ∀ {k j : Nat}, k ≤ 5 → nextF (lF at_ out) k = some j → out j = true
  | 0, _, _, h => by cases h
  | k + 1, j, hk, h => by
    have h' : stepN (lF at_ out) (nextF (lF at_ out) k) k = some j := h
    cases hn : nextF (lF at_ out) k with
    | none =>
      rw [hn, lF_none at_ out (by omega)] at h'
      split at h'
      · rename_i hq; obtain rfl := Option.some.inj h'; exact hq
      · cases h'
    | some i =>
      have hi := nextF_lt _ _ _ hn
      have ho := lF_out (by omega) hn
      rw [hn, lF_some at_ out (by omega) (by omega) ho] at h'
      split at h'
      · rename_i hq; obtain rfl := Option.some.inj h'; exact hq.1
      · obtain rfl := Option.some.inj h'; exact ho
theorem atL_len (i : Nat) : (atL at_ i).length = 5 := by simp [atL]
theorem atL_at {i j : Nat} (hj : j < i) (hi : j < 5) : (atL at_ i)[j]? = some (at_ j) := by
  unfold atL
  rw [List.getElem?_map, List.getElem?_range hi]
  simp [hj]
theorem atL_set {i : Nat} (hi : i < 5) : (atL at_ i).set i (at_ i) = atL at_ (i + 1) := by
  refine List.ext_getElem? fun j => ?_
  rw [List.getElem?_set]
  unfold atL
  by_cases hj : j < 5
  · rw [List.getElem?_map, List.getElem?_map, List.getElem?_range hj]
    by_cases hij : i = j
    · subst hij
      simp [hi]
    · rw [if_neg hij]
      have : j < i + 1 ↔ j < i := by omega
      simp only [Option.map_some, this]
  · rw [if_neg (by omega), List.getElem?_eq_none (by simp; omega), List.getElem?_eq_none (by simp; omega)]
end
/-- members lie elsewhere than in a small block -/
theorem MS.ok.past {u : MS} {w w' : World} {g : Nat} {t : TypeId} {cs : List Value} (h : u.ok w) (hg : (⟨some g, t, cs⟩ : Hp).sat w) (hc : cs.length < u.n * 3) (hf : Fr (own [⟨some g, t, cs⟩]) w w') : u.ok w' := by
  refine ⟨h.len, fun h0 => ?_⟩
  obtain ⟨b1, o, e, hb, hcell⟩ := h.rd h0
  have hno : ¬ own [⟨some g, t, cs⟩] b1 := fun hw => by
    have e' : g = b1 := Option.some.inj (own_one hw)
    subst e'
    have hl := flat_len mcs 3 mcs_len u.l
    rw [h.len] at hl
    obtain ⟨v, hv⟩ : ∃ v, (u.l.flatMap mcs)[u.n * 3 - 1]? = some v := ⟨_, List.getElem?_eq_getElem (by rw [hl]; omega)⟩
    have h1 := hcell _ _ hv
    rw [Blk.cell (show Blk w g t _ from hg)] at h1
    rw [List.getElem?_toArray, List.getElem?_eq_none (by dsimp only; omega)] at h1
    cases h1
  exact ⟨b1, o, e, Nat.lt_of_lt_of_le hb hf.size, fun j u hj => hf.cl (hcell j u hj) hno⟩

set_option maxHeartbeats 8000000 in
theorem mnext_c (v0 v1 v2 v3 v4 : Int) (b0 b1 b2 b3 b4 : Bool) (w : World) (h0 : 0 ≤ v0 ∧ v0 ≤ 255) (h1 : 0 ≤ v1 ∧ v1 ≤ 255) (h2 : 0 ≤ v2 ∧ v2 ≤ 255) (h3 : 0 ≤ v3 ∧ v3 ≤ 255) (h4 : 0 ≤ v4 ∧ v4 ≤ 255) :
    Ret Try.prog 5 [.agg #[.int .u8 v0, .int .u8 v1, .int .u8 v2, .int .u8 v3, .int .u8 v4], .agg #[.bool b0, .bool b1, .bool b2, .bool b3, .bool b4]] w (fun v w' => v = .bool true ∧ Pu w w') := by
  have hnw := fun w => new_c 5 w
  rw [show newF 5 = (List.replicate 5 (0, 0, 0), 0) by decide] at hnw
  refine enterR Try.func5 rfl rfl rfl fun a hs hm => ?_
  repeat (first
    | ((with_reducible refine toL hm ?_); (first
        | refine oneV hs (by first | exact Wnt.none rfl | exact Wnt.some rfl rfl rfl rfl) rfl rfl (by intro w hm; (first | exact r_val hs tab rfl | ((with_reducible apply kLoad); first | exact r_load hs rfl rfl tab rfl rfl (by first | exact Ro.cl (by assumption) hm (by first | exact (fun t => t) | assumption) (by first | rfl | assumption) | exact Ro.cl0 (by assumption) hm (by first | exact (fun t => t) | assumption) (by first | rfl | assumption) | exact hm.cl (by repeat (first | exact mH | apply mT)) (by first | rfl | assumption)) | exact r_loadO hs rfl rfl tab rfl rfl rfl hm (by repeat (first | exact mH | apply mT)) (by rfl) | exact r_loadA hs rfl rfl tab rfl rfl (Ro.ro (by assumption) hm (by first | exact (fun t => t) | assumption)) rfl) | exact r_iz hs tab rfl rfl (by omega) | exact r_iy hs tab rfl rfl (by omega) | exact r_cT hs rfl (by omega) | exact r_cF hs rfl (by omega) | exact r_arH hs rfl (by assumption) (by omega) | exact r_pred hs rfl rfl rfl (by omega) | exact r_ar hs rfl (by omega) | exact r_rem64 hs rfl rfl rfl (by omega) (by omega) | exact r_bi hs rfl | exact r_pick hs rfl rfl rfl rfl | exact r_b2s hs rfl rfl tab rfl rfl rfl rfl rfl rfl (by first | exact Fr.rd' hm.fr (by assumption) | exact Mm.rd_row hm (by repeat (first | exact mH | apply mT)) (by assumption)) (by assumption))) ?_
        | refine oneN hs rfl rfl rfl rfl rfl rfl rfl ?_
        | refine oneU hs rfl rfl rfl rfl rfl rfl ?_); clear hs a; intro a hs)
    | ((with_reducible apply lCons); (first
        | (refine dv hs (by first | exact Wnt.none rfl | exact Wnt.some rfl rfl rfl rfl) rfl rfl (by first | exact d_alloc rfl tab rfl rfl hm | exact d_box hs rfl rfl rfl hm | exact d_buildSlice0 rfl tab rfl rfl rfl hm | exact d_buildSlice hs rfl tab rfl rfl rfl rfl rfl rfl rfl rfl rfl hm) ?_; clear hs hm a; rintro _ w ⟨g, rfl, -, hm⟩ a hs)
        | (refine stn hs rfl rfl (by first | exact d_store hs rfl rfl rfl tab rfl rfl rfl rfl hm (by repeat (first | exact Rep.head _ _ _ | apply Rep.tail)) (by rfl) | exact d_store1 hs rfl rfl rfl tab rfl rfl rfl rfl hm (by repeat (first | exact Rep.head _ _ _ | apply Rep.tail)) (by first | omega | assumption | (simp; omega))) ?_; clear hs hm a; rintro - w hm a hs)
        ))
    | (with_reducible first | apply lNilThen | apply lNilBlock | apply lNil | apply wp_seq | apply wp_region_lit | apply wp_block | apply cExit | apply cRet | apply cSkip | apply gThen | apply gBlock | apply eThen | apply eBlockHit | refine eBlock rfl ?_ | apply rThen | apply rBlock)
    | ((with_reducible apply cCond); (first | refine cTrue hs rfl (by first | rfl | assumption | exact decide_eq_true (by omega) | exact decide_eq_false (by omega) | exact ndT (by omega) | exact ndF (by omega)) ?_ | refine cFalse hs rfl (by first | rfl | assumption | exact decide_eq_true (by omega) | exact decide_eq_false (by omega) | exact ndT (by omega) | exact ndF (by omega)) ?_))
    )
  rename_i w0 _ g2
  rename Nat => g3
  refine st hs rfl rfl rfl (d_call hs rfl rfl rfl (pl 6 rfl) ((hnw _))) ?_; clear hs a; rintro _ w1 ⟨u, rfl, hu, hul, hun, hf⟩ a hs
  replace hm := hm.pu hf
  dsimp only at hul hun hs
  rw [List.length_replicate] at hun
  obtain ⟨wr, hwr⟩ : ∃ wr, wr = [v0, v1, v2, v3, v4] := ⟨_, rfl⟩
  obtain ⟨ob, hob⟩ : ∃ ob, ob = [b0, b1, b2, b3, b4] := ⟨_, rfl⟩
  have q2 := hm.ro (n := 5) (g := g2) (by repeat (first | exact List.Mem.head _ | apply List.Mem.tail)) (cutF_ok (k := 0) rfl)
  have q3 := hm.ro (n := 5) (g := g3) (by repeat (first | exact List.Mem.head _ | apply List.Mem.tail)) (cutF_ok (k := 0) rfl)
  have l2 := Hp.lt (hm.me ⟨some g2, _, _⟩ (by repeat (first | exact List.Mem.head _ | apply List.Mem.tail))) rfl
  have l3 := Hp.lt (hm.me ⟨some g3, _, _⟩ (by repeat (first | exact List.Mem.head _ | apply List.Mem.tail))) rfl
  replace q2 : Ro w1 g2 0 (bys wr) := by rw [hwr]; exact q2
  replace q3 : Ro w1 g3 0 (bools ob) := by rw [hob]; exact q3
  have n2 : wr.length = 5 := by rw [hwr]; rfl
  have n3 : ob.length = 5 := by rw [hob]; rfl
  have hwv : ∀ v ∈ wr, 0 ≤ v ∧ v ≤ 255 := by
    intro v hv
    rw [hwr] at hv
    simp only [List.mem_cons, List.not_mem_nil, or_false] at hv
    rcases hv with rfl | rfl | rfl | rfl | rfl <;> assumption
  have hF := hm.fr
  clear hm hf hwr hob h0 h1 h2 h3 h4
  have hm := Mm.nil (fun _ => False) w1
  obtain ⟨at_, hat⟩ : ∃ at_ : Nat → Int, at_ = fun j => wr.getD j 0 % 50 := ⟨_, rfl⟩
  obtain ⟨out, hout⟩ : ∃ out : Nat → Bool, out = fun j => ob.getD j false := ⟨_, rfl⟩
  have hab : ∀ j, 0 ≤ at_ j ∧ at_ j < 50 := fun j => by rw [hat]; dsimp only; omega
  repeat (first
    | ((with_reducible refine toL hm ?_); (first
        | refine oneV hs (by first | exact Wnt.none rfl | exact Wnt.some rfl rfl rfl rfl) rfl rfl (by intro w hm; (first | exact r_val hs tab rfl | ((with_reducible apply kLoad); first | exact r_load hs rfl rfl tab rfl rfl (by first | exact Ro.cl (by assumption) hm (by first | exact (fun t => t) | assumption) (by first | rfl | assumption) | exact Ro.cl0 (by assumption) hm (by first | exact (fun t => t) | assumption) (by first | rfl | assumption) | exact hm.cl (by repeat (first | exact mH | apply mT)) (by first | rfl | assumption)) | exact r_loadO hs rfl rfl tab rfl rfl rfl hm (by repeat (first | exact mH | apply mT)) (by rfl) | exact r_loadA hs rfl rfl tab rfl rfl (Ro.ro (by assumption) hm (by first | exact (fun t => t) | assumption)) rfl) | exact r_iz hs tab rfl rfl (by omega) | exact r_iy hs tab rfl rfl (by omega) | exact r_cT hs rfl (by omega) | exact r_cF hs rfl (by omega) | exact r_arH hs rfl (by assumption) (by omega) | exact r_pred hs rfl rfl rfl (by omega) | exact r_ar hs rfl (by omega) | exact r_rem64 hs rfl rfl rfl (by omega) (by omega) | exact r_bi hs rfl | exact r_pick hs rfl rfl rfl rfl | exact r_b2s hs rfl rfl tab rfl rfl rfl rfl rfl rfl (by first | exact Fr.rd' hm.fr (by assumption) | exact Mm.rd_row hm (by repeat (first | exact mH | apply mT)) (by assumption)) (by assumption))) ?_
        | refine oneN hs rfl rfl rfl rfl rfl rfl rfl ?_
        | refine oneU hs rfl rfl rfl rfl rfl rfl ?_); clear hs a; intro a hs)
    | ((with_reducible apply lCons); (first
        | (refine dv hs (by first | exact Wnt.none rfl | exact Wnt.some rfl rfl rfl rfl) rfl rfl (by first | exact d_alloc rfl tab rfl rfl hm | exact d_box hs rfl rfl rfl hm | exact d_buildSlice0 rfl tab rfl rfl rfl hm | exact d_buildSlice hs rfl tab rfl rfl rfl rfl rfl rfl rfl rfl rfl hm) ?_; clear hs hm a; rintro _ w ⟨g, rfl, -, hm⟩ a hs)
        | (refine stn hs rfl rfl (by first | exact d_store hs rfl rfl rfl tab rfl rfl rfl rfl hm (by repeat (first | exact Rep.head _ _ _ | apply Rep.tail)) (by rfl) | exact d_store1 hs rfl rfl rfl tab rfl rfl rfl rfl hm (by repeat (first | exact Rep.head _ _ _ | apply Rep.tail)) (by first | omega | assumption | (simp; omega))) ?_; clear hs hm a; rintro - w hm a hs)
        ))
    | (with_reducible first | apply lNilThen | apply lNilBlock | apply lNil | apply wp_seq | apply wp_region_lit | apply wp_block | apply cExit | apply cRet | apply cSkip | apply gThen | apply gBlock | apply eThen | apply eBlockHit | refine eBlock rfl ?_ | apply rThen | apply rBlock)
    | ((with_reducible apply cCond); (first | refine cTrue hs rfl (by first | rfl | assumption | exact decide_eq_true (by omega) | exact decide_eq_false (by omega) | exact ndT (by omega) | exact ndF (by omega)) ?_ | refine cFalse hs rfl (by first | rfl | assumption | exact decide_eq_true (by omega) | exact decide_eq_false (by omega) | exact ndT (by omega) | exact ndF (by omega)) ?_))
    )
  obtain ⟨g9, hg9⟩ : ∃ g9, g9 = g := ⟨_, rfl⟩
  rw [← hg9] at hs hm
  clear hg9
  refine cLoop (X := Nat × MS) (fun x a w' => Sl Try.f5.ntmps [(2, .pointer (some ⟨g2, 0, none⟩)), (3, .pointer (some ⟨g3, 0, none⟩)), (4, .bool false), (5, x.2.v), (6, .int .i64 0), (7, .int .i64 (((nextF (lF at_ out) x.1).getD 0 : Nat) : Int)), (8, .bool (nextF (lF at_ out) x.1).isSome), (9, .pointer (some ⟨g9, 0, none⟩)), (10, .int .i64 (x.1 : Int))] a ∧ Mm (fun _ => False) w1 [⟨some g9, 42, ints (atL at_ x.1)⟩] w' ∧ x.1 ≤ 5 ∧ x.2.ok w' ∧ x.2.l = lI at_ out x.1 ∧ x.2.n = 5) (fun x => 5 - x.1) (0, u) ⟨hs.sub (Has.all ⟨rfl, rfl, rfl, rfl, rfl, rfl, rfl, rfl, rfl, trivial⟩), hm, Nat.zero_le _, hu.pu hm.fr, hul, hun⟩ ?_
  clear hs hm a hu hul hun
  rintro ⟨i, u⟩ a w' ⟨hs, hm0, hi, hu, hul, hun⟩
  dsimp only at *
  by_cases hlt : i < 5
  · have hm := hm0.rebase
    have hno : ∀ k, k < w1.heap.size → ¬ own [⟨some g9, 42, ints (atL at_ i)⟩] k := fun k hk h => by
      rcases hm0.own_ h with h | h
      · omega
      · exact h
    have r2 := q2.ro hm0 (fun t => t)
    have r3 := q3.ro hm0 (fun t => t)
    have o2 := hno g2 l2
    have o3 := hno g3 l3
    have hsat := hm0.me _ (List.Mem.head _)
    have e2 := bys_some (xs := wr) (k := i) (by omega)
    have e3 := bools_some (xs := ob) (k := i) (by omega)
    have hv := hwv wr[i] (List.getElem_mem (by omega))
    have hai : at_ i = wr[i] % 50 := by rw [hat]; dsimp only; rw [getD_some (by omega)]
    have hoi : out i = ob[i] := by rw [hout]; dsimp only; rw [getD_some (by omega)]
    generalize wr[i]'(_) = v at *
    generalize ob[i]'(_) = bo at *
    have hwv' : IntKind.i64.wrap v = v := by simp [IntKind.wrap, IntKind.bits, IntKind.signed]; omega
    have hal := atL_len at_ i
    have hil : i < (ints (atL at_ i)).length := by rw [ints_len]; omega
    have hset : (ints (atL at_ i)).set i (.int .i64 (IntKind.i64.wrap v % 50)) = ints (atL at_ (i + 1)) := by
      rw [ints_set', hwv', ← hai, atL_set at_ hlt]
    have hai' : IntKind.i64.wrap v % 50 = at_ i := by rw [hwv', hai]
    cases bo
    · have hst : nextF (lF at_ out) (i + 1) = nextF (lF at_ out) i := by
        show stepN _ _ _ = _
        cases hn : nextF (lF at_ out) i with
        | none => rw [lF_none at_ out hlt, hoi]; rfl
        | some j => rw [lF_some at_ out hlt (by have := nextF_lt _ _ _ hn; omega) (lF_out at_ out (by omega) hn), hoi, if_neg (by simp)]
      repeat (first
        | ((with_reducible refine toL hm ?_); (first
            | refine oneV hs (by first | exact Wnt.none rfl | exact Wnt.some rfl rfl rfl rfl) rfl rfl (by intro w hm; (first | exact r_val hs tab rfl | ((with_reducible apply kLoad); first | exact r_load hs rfl rfl tab rfl rfl (by first | exact Ro.cl (by assumption) hm (by first | exact (fun t => t) | assumption) (by first | rfl | assumption) | exact Ro.cl0 (by assumption) hm (by first | exact (fun t => t) | assumption) (by first | rfl | assumption) | exact hm.cl (by repeat (first | exact mH | apply mT)) (by first | rfl | assumption)) | exact r_loadO hs rfl rfl tab rfl rfl rfl hm (by repeat (first | exact mH | apply mT)) (by rfl) | exact r_loadA hs rfl rfl tab rfl rfl (Ro.ro (by assumption) hm (by first | exact (fun t => t) | assumption)) rfl) | exact r_iz hs tab rfl rfl (by omega) | exact r_iy hs tab rfl rfl (by omega) | exact r_cT hs rfl (by omega) | exact r_cF hs rfl (by omega) | exact r_arH hs rfl (by assumption) (by omega) | exact r_pred hs rfl rfl rfl (by omega) | exact r_ar hs rfl (by omega) | exact r_rem64 hs rfl rfl rfl (by omega) (by omega) | exact r_bi hs rfl | exact r_pick hs rfl rfl rfl rfl | exact r_b2s hs rfl rfl tab rfl rfl rfl rfl rfl rfl (by first | exact Fr.rd' hm.fr (by assumption) | exact Mm.rd_row hm (by repeat (first | exact mH | apply mT)) (by assumption)) (by assumption))) ?_
            | refine oneN hs rfl rfl rfl rfl rfl rfl rfl ?_
            | refine oneU hs rfl rfl rfl rfl rfl rfl ?_); clear hs a; intro a hs)
        | ((with_reducible apply lCons); (first
            | (refine dv hs (by first | exact Wnt.none rfl | exact Wnt.some rfl rfl rfl rfl) rfl rfl (by first | exact d_alloc rfl tab rfl rfl hm | exact d_box hs rfl rfl rfl hm | exact d_buildSlice0 rfl tab rfl rfl rfl hm | exact d_buildSlice hs rfl tab rfl rfl rfl rfl rfl rfl rfl rfl rfl hm) ?_; clear hs hm a; rintro _ w ⟨g, rfl, -, hm⟩ a hs)
            | (refine stn hs rfl rfl (by first | exact d_store hs rfl rfl rfl tab rfl rfl rfl rfl hm (by repeat (first | exact Rep.head _ _ _ | apply Rep.tail)) (by rfl) | exact d_store1 hs rfl rfl rfl tab rfl rfl rfl rfl hm (by repeat (first | exact Rep.head _ _ _ | apply Rep.tail)) (by first | omega | assumption | (simp; omega))) ?_; clear hs hm a; rintro - w hm a hs)
            ))
        | (with_reducible first | apply lNilThen | apply lNilBlock | apply lNil | apply wp_seq | apply wp_region_lit | apply wp_block | apply cExit | apply cRet | apply cSkip | apply gThen | apply gBlock | apply eThen | apply eBlockHit | refine eBlock rfl ?_ | apply rThen | apply rBlock)
        | ((with_reducible apply cCond); (first | refine cTrue hs rfl (by first | rfl | assumption | exact decide_eq_true (by omega) | exact decide_eq_false (by omega) | exact ndT (by omega) | exact ndF (by omega)) ?_ | refine cFalse hs rfl (by first | rfl | assumption | exact decide_eq_true (by omega) | exact decide_eq_false (by omega) | exact ndT (by omega) | exact ndF (by omega)) ?_))
        )
      have hu' := hu.past hsat (by rw [ints_len]; omega) hm.fr
      replace hm := hm0.trans hm
      rw [hset] at hm
      exact ⟨(i + 1, u), by dsimp only; omega, hs.sub (Has.all ⟨rfl, rfl, rfl, rfl, rfl, by dsimp only; rw [hst]; rfl, by dsimp only; rw [hst]; rfl, rfl, rfl, trivial⟩), hm, by dsimp only; omega, hu', by dsimp only; rw [hul, lI_skip at_ out hoi], hun⟩
    · have hiso := fun w'' (h : u.ok w'') => isolate_c u (i : Int) (at_ i) w'' h (by omega)
      rw [hul, lI_step at_ out hlt hoi hab] at hiso
      have e9 : (ints (atL at_ (i + 1)))[i]? = some (.int .i64 (at_ i)) := by unfold ints; rw [List.getElem?_map, atL_at at_ (by omega) hlt]; rfl
      repeat (first
        | ((with_reducible refine toL hm ?_); (first
            | refine oneV hs (by first | exact Wnt.none rfl | exact Wnt.some rfl rfl rfl rfl) rfl rfl (by intro w hm; (first | exact r_val hs tab rfl | ((with_reducible apply kLoad); first | exact r_load hs rfl rfl tab rfl rfl (by first | exact Ro.cl (by assumption) hm (by first | exact (fun t => t) | assumption) (by first | rfl | assumption) | exact Ro.cl0 (by assumption) hm (by first | exact (fun t => t) | assumption) (by first | rfl | assumption) | exact hm.cl (by repeat (first | exact mH | apply mT)) (by first | rfl | assumption)) | exact r_loadO hs rfl rfl tab rfl rfl rfl hm (by repeat (first | exact mH | apply mT)) (by rfl) | exact r_loadA hs rfl rfl tab rfl rfl (Ro.ro (by assumption) hm (by first | exact (fun t => t) | assumption)) rfl) | exact r_iz hs tab rfl rfl (by omega) | exact r_iy hs tab rfl rfl (by omega) | exact r_cT hs rfl (by omega) | exact r_cF hs rfl (by omega) | exact r_arH hs rfl (by assumption) (by omega) | exact r_pred hs rfl rfl rfl (by omega) | exact r_ar hs rfl (by omega) | exact r_rem64 hs rfl rfl rfl (by omega) (by omega) | exact r_bi hs rfl | exact r_pick hs rfl rfl rfl rfl | exact r_b2s hs rfl rfl tab rfl rfl rfl rfl rfl rfl (by first | exact Fr.rd' hm.fr (by assumption) | exact Mm.rd_row hm (by repeat (first | exact mH | apply mT)) (by assumption)) (by assumption))) ?_
            | refine oneN hs rfl rfl rfl rfl rfl rfl rfl ?_
            | refine oneU hs rfl rfl rfl rfl rfl rfl ?_); clear hs a; intro a hs)
        | ((with_reducible apply lCons); (first
            | (refine dv hs (by first | exact Wnt.none rfl | exact Wnt.some rfl rfl rfl rfl) rfl rfl (by first | exact d_alloc rfl tab rfl rfl hm | exact d_box hs rfl rfl rfl hm | exact d_buildSlice0 rfl tab rfl rfl rfl hm | exact d_buildSlice hs rfl tab rfl rfl rfl rfl rfl rfl rfl rfl rfl hm) ?_; clear hs hm a; rintro _ w ⟨g, rfl, -, hm⟩ a hs)
            | (refine stn hs rfl rfl (by first | exact d_store hs rfl rfl rfl tab rfl rfl rfl rfl hm (by repeat (first | exact Rep.head _ _ _ | apply Rep.tail)) (by rfl) | exact d_store1 hs rfl rfl rfl tab rfl rfl rfl rfl hm (by repeat (first | exact Rep.head _ _ _ | apply Rep.tail)) (by first | omega | assumption | (simp; omega))) ?_; clear hs hm a; rintro - w hm a hs)
            ))
        | (with_reducible first | apply lNilThen | apply lNilBlock | apply lNil | apply wp_seq | apply wp_region_lit | apply wp_block | apply cExit | apply cRet | apply cSkip | apply gThen | apply gBlock | apply eThen | apply eBlockHit | refine eBlock rfl ?_ | apply rThen | apply rBlock)
        | ((with_reducible apply cCond); (first | refine cTrue hs rfl (by first | rfl | assumption | exact decide_eq_true (by omega) | exact decide_eq_false (by omega) | exact ndT (by omega) | exact ndF (by omega)) ?_ | refine cFalse hs rfl (by first | rfl | assumption | exact decide_eq_true (by omega) | exact decide_eq_false (by omega) | exact ndT (by omega) | exact ndF (by omega)) ?_))
        )
      rw [hset] at hm
      repeat (first
        | ((with_reducible refine toL hm ?_); (first
            | refine oneV hs (by first | exact Wnt.none rfl | exact Wnt.some rfl rfl rfl rfl) rfl rfl (by intro w hm; (first | exact r_val hs tab rfl | ((with_reducible apply kLoad); first | exact r_load hs rfl rfl tab rfl rfl (by first | exact Ro.cl (by assumption) hm (by first | exact (fun t => t) | assumption) (by first | rfl | assumption) | exact Ro.cl0 (by assumption) hm (by first | exact (fun t => t) | assumption) (by first | rfl | assumption) | exact hm.cl (by repeat (first | exact mH | apply mT)) (by first | rfl | assumption)) | exact r_loadO hs rfl rfl tab rfl rfl rfl hm (by repeat (first | exact mH | apply mT)) (by rfl) | exact r_loadA hs rfl rfl tab rfl rfl (Ro.ro (by assumption) hm (by first | exact (fun t => t) | assumption)) rfl) | exact r_iz hs tab rfl rfl (by omega) | exact r_iy hs tab rfl rfl (by omega) | exact r_cT hs rfl (by omega) | exact r_cF hs rfl (by omega) | exact r_arH hs rfl (by assumption) (by omega) | exact r_pred hs rfl rfl rfl (by omega) | exact r_ar hs rfl (by omega) | exact r_rem64 hs rfl rfl rfl (by omega) (by omega) | exact r_bi hs rfl | exact r_pick hs rfl rfl rfl rfl | exact r_b2s hs rfl rfl tab rfl rfl rfl rfl rfl rfl (by first | exact Fr.rd' hm.fr (by assumption) | exact Mm.rd_row hm (by repeat (first | exact mH | apply mT)) (by assumption)) (by assumption))) ?_
            | refine oneN hs rfl rfl rfl rfl rfl rfl rfl ?_
            | refine oneU hs rfl rfl rfl rfl rfl rfl ?_); clear hs a; intro a hs)
        | ((with_reducible apply lCons); (first
            | (refine dv hs (by first | exact Wnt.none rfl | exact Wnt.some rfl rfl rfl rfl) rfl rfl (by first | exact d_alloc rfl tab rfl rfl hm | exact d_box hs rfl rfl rfl hm | exact d_buildSlice0 rfl tab rfl rfl rfl hm | exact d_buildSlice hs rfl tab rfl rfl rfl rfl rfl rfl rfl rfl rfl hm) ?_; clear hs hm a; rintro _ w ⟨g, rfl, -, hm⟩ a hs)
            | (refine stn hs rfl rfl (by first | exact d_store hs rfl rfl rfl tab rfl rfl rfl rfl hm (by repeat (first | exact Rep.head _ _ _ | apply Rep.tail)) (by rfl) | exact d_store1 hs rfl rfl rfl tab rfl rfl rfl rfl hm (by repeat (first | exact Rep.head _ _ _ | apply Rep.tail)) (by first | omega | assumption | (simp; omega))) ?_; clear hs hm a; rintro - w hm a hs)
            ))
        | (with_reducible first | apply lNilThen | apply lNilBlock | apply lNil | apply wp_seq | apply wp_region_lit | apply wp_block | apply cExit | apply cRet | apply cSkip | apply gThen | apply gBlock | apply eThen | apply eBlockHit | refine eBlock rfl ?_ | apply rThen | apply rBlock)
        | ((with_reducible apply cCond); (first | refine cTrue hs rfl (by first | rfl | assumption | exact decide_eq_true (by omega) | exact decide_eq_false (by omega) | exact ndT (by omega) | exact ndF (by omega)) ?_ | refine cFalse hs rfl (by first | rfl | assumption | exact decide_eq_true (by omega) | exact decide_eq_false (by omega) | exact ndT (by omega) | exact ndF (by omega)) ?_))
        )
      have hu' := hu.past hsat (by rw [ints_len]; omega) hm.fr
      refine st hs rfl rfl rfl (d_call hs rfl rfl rfl (pl 15 rfl) ((hiso _ hu'))) ?_; clear hs a; rintro _ w2 ⟨u2, rfl, hu2, hul2, hun2, hf⟩ a hs
      replace hm := hm.pu hf
      clear hf
      dsimp only at hs hul2
      have hm1 := hm
      have hsat2 := hm1.me _ (List.Mem.head _)
      have hal2 := atL_len at_ (i + 1)
      clear hm
      have hm := hm1.rebase
      cases hn : nextF (lF at_ out) i with
      | none =>
        have hst : nextF (lF at_ out) (i + 1) = some i := by
          show stepN _ _ _ = _
          rw [hn, lF_none at_ out hlt, hoi]; rfl
        rw [hn] at hs
        dsimp only [Option.isSome, Option.getD] at hs
        repeat (first
          | ((with_reducible first | refine toL hm ?_ | refine toQ ?_); (first
              | refine oneV hs (by first | exact Wnt.none rfl | exact Wnt.some rfl rfl rfl rfl) rfl rfl (by intro w hm; (first | exact r_val hs tab rfl | ((with_reducible apply kLoad); first | exact r_load hs rfl rfl tab rfl rfl (by first | exact Ro.cl (by assumption) hm (by first | exact (fun t => t) | assumption) (by first | rfl | assumption) | exact Ro.cl0 (by assumption) hm (by first | exact (fun t => t) | assumption) (by first | rfl | assumption) | exact hm.cl (by repeat (first | exact mH | apply mT)) (by first | rfl | assumption)) | exact r_loadO hs rfl rfl tab rfl rfl rfl hm (by repeat (first | exact mH | apply mT)) (by rfl) | exact r_loadA hs rfl rfl tab rfl rfl (Ro.ro (by assumption) hm (by first | exact (fun t => t) | assumption)) rfl) | exact r_iz hs tab rfl rfl (by omega) | exact r_iy hs tab rfl rfl (by omega) | exact r_cT hs rfl (by omega) | exact r_cF hs rfl (by omega) | exact r_arH hs rfl (by assumption) (by omega) | exact r_pred hs rfl rfl rfl (by omega) | exact r_ar hs rfl (by omega) | exact r_rem64 hs rfl rfl rfl (by omega) (by omega) | exact r_bi hs rfl | exact r_pick hs rfl rfl rfl rfl | exact r_b2s hs rfl rfl tab rfl rfl rfl rfl rfl rfl (by first | exact Fr.rd' hm.fr (by assumption) | exact Mm.rd_row hm (by repeat (first | exact mH | apply mT)) (by assumption)) (by assumption))) ?_
              | refine oneN hs rfl rfl rfl rfl rfl rfl rfl ?_
              | refine oneU hs rfl rfl rfl rfl rfl rfl ?_); clear hs a; intro a hs)
          | ((with_reducible apply lCons); (first
              | (refine dv hs (by first | exact Wnt.none rfl | exact Wnt.some rfl rfl rfl rfl) rfl rfl (by first | exact d_alloc rfl tab rfl rfl hm | exact d_box hs rfl rfl rfl hm | exact d_buildSlice0 rfl tab rfl rfl rfl hm | exact d_buildSlice hs rfl tab rfl rfl rfl rfl rfl rfl rfl rfl rfl hm) ?_; clear hs hm a; rintro _ w ⟨g, rfl, -, hm⟩ a hs)
              | (refine stn hs rfl rfl (by first | exact d_store hs rfl rfl rfl tab rfl rfl rfl rfl hm (by repeat (first | exact Rep.head _ _ _ | apply Rep.tail)) (by rfl) | exact d_store1 hs rfl rfl rfl tab rfl rfl rfl rfl hm (by repeat (first | exact Rep.head _ _ _ | apply Rep.tail)) (by first | omega | assumption | (simp; omega))) ?_; clear hs hm a; rintro - w hm a hs)
              ))
          | ((with_reducible apply qNil); clear hm; intro w hm)
          | ((with_reducible refine cQuiet hm ?_ ?_ ?_ ?_); rfl; kernel_rfl; kernel_rfl)
          | (with_reducible first | apply lNilThen | apply lNilBlock | apply lNil | apply wp_seq | apply wp_region_lit | apply wp_block | apply cExit | apply cRet | apply cSkip | apply gThen | apply gBlock | apply eThen | apply eBlockHit | refine eBlock rfl ?_ | apply rThen | apply rBlock)
          | ((with_reducible apply cCond); (first | refine cTrue hs rfl (by first | rfl | assumption | exact decide_eq_true (by omega) | exact decide_eq_false (by omega) | exact ndT (by omega) | exact ndF (by omega)) ?_ | refine cFalse hs rfl (by first | rfl | assumption | exact decide_eq_true (by omega) | exact decide_eq_false (by omega) | exact ndT (by omega) | exact ndF (by omega)) ?_))
          )
        exact ⟨(i + 1, u2), by dsimp only; omega, hs.sub (Has.all ⟨rfl, rfl, rfl, rfl, rfl, by dsimp only; rw [hst]; rfl, by dsimp only; rw [hst]; rfl, rfl, rfl, trivial⟩), hm0.trans (hm1.trans hm), by dsimp only; omega, hu2.past hsat2 (by rw [ints_len]; omega) hm.fr, hul2, by dsimp only; omega⟩
      | some j =>
        have hjl := nextF_lt _ _ _ hn
        have hjo := lF_out at_ out (by omega) hn
        have hst : nextF (lF at_ out) (i + 1) = if at_ i < at_ j then some i else some j := by
          show stepN _ _ _ = _
          rw [hn, lF_some at_ out hlt (by omega) hjo, hoi]
          simp
        have e8 : (ints (atL at_ (i + 1)))[j]? = some (.int .i64 (at_ j)) := by unfold ints; rw [List.getElem?_map, atL_at at_ (by omega) (by omega)]; rfl
        rw [hn] at hs
        dsimp only [Option.isSome, Option.getD] at hs
        by_cases htt : at_ i < at_ j
        · rw [if_pos htt] at hst
          repeat (first
            | ((with_reducible first | refine toL hm ?_ | refine toQ ?_); (first
                | refine oneV hs (by first | exact Wnt.none rfl | exact Wnt.some rfl rfl rfl rfl) rfl rfl (by intro w hm; (first | exact r_val hs tab rfl | ((with_reducible apply kLoad); first | exact r_load hs rfl rfl tab rfl rfl (by first | exact Ro.cl (by assumption) hm (by first | exact (fun t => t) | assumption) (by first | rfl | assumption) | exact Ro.cl0 (by assumption) hm (by first | exact (fun t => t) | assumption) (by first | rfl | assumption) | exact hm.cl (by repeat (first | exact mH | apply mT)) (by first | rfl | assumption)) | exact r_loadO hs rfl rfl tab rfl rfl rfl hm (by repeat (first | exact mH | apply mT)) (by rfl) | exact r_loadA hs rfl rfl tab rfl rfl (Ro.ro (by assumption) hm (by first | exact (fun t => t) | assumption)) rfl) | exact r_iz hs tab rfl rfl (by omega) | exact r_iy hs tab rfl rfl (by omega) | exact r_cT hs rfl (by omega) | exact r_cF hs rfl (by omega) | exact r_arH hs rfl (by assumption) (by omega) | exact r_pred hs rfl rfl rfl (by omega) | exact r_ar hs rfl (by omega) | exact r_rem64 hs rfl rfl rfl (by omega) (by omega) | exact r_bi hs rfl | exact r_pick hs rfl rfl rfl rfl | exact r_b2s hs rfl rfl tab rfl rfl rfl rfl rfl rfl (by first | exact Fr.rd' hm.fr (by assumption) | exact Mm.rd_row hm (by repeat (first | exact mH | apply mT)) (by assumption)) (by assumption))) ?_
                | refine oneN hs rfl rfl rfl rfl rfl rfl rfl ?_
                | refine oneU hs rfl rfl rfl rfl rfl rfl ?_); clear hs a; intro a hs)
            | ((with_reducible apply lCons); (first
                | (refine dv hs (by first | exact Wnt.none rfl | exact Wnt.some rfl rfl rfl rfl) rfl rfl (by first | exact d_alloc rfl tab rfl rfl hm | exact d_box hs rfl rfl rfl hm | exact d_buildSlice0 rfl tab rfl rfl rfl hm | exact d_buildSlice hs rfl tab rfl rfl rfl rfl rfl rfl rfl rfl rfl hm) ?_; clear hs hm a; rintro _ w ⟨g, rfl, -, hm⟩ a hs)
                | (refine stn hs rfl rfl (by first | exact d_store hs rfl rfl rfl tab rfl rfl rfl rfl hm (by repeat (first | exact Rep.head _ _ _ | apply Rep.tail)) (by rfl) | exact d_store1 hs rfl rfl rfl tab rfl rfl rfl rfl hm (by repeat (first | exact Rep.head _ _ _ | apply Rep.tail)) (by first | omega | assumption | (simp; omega))) ?_; clear hs hm a; rintro - w hm a hs)
                ))
            | ((with_reducible apply qNil); clear hm; intro w hm)
            | ((with_reducible refine cQuiet hm ?_ ?_ ?_ ?_); rfl; kernel_rfl; kernel_rfl)
            | (with_reducible first | apply lNilThen | apply lNilBlock | apply lNil | apply wp_seq | apply wp_region_lit | apply wp_block | apply cExit | apply cRet | apply cSkip | apply gThen | apply gBlock | apply eThen | apply eBlockHit | refine eBlock rfl ?_ | apply rThen | apply rBlock)
            | ((with_reducible apply cCond); (first | refine cTrue hs rfl (by first | rfl | assumption | exact decide_eq_true (by omega) | exact decide_eq_false (by omega) | exact ndT (by omega) | exact ndF (by omega)) ?_ | refine cFalse hs rfl (by first | rfl | assumption | exact decide_eq_true (by omega) | exact decide_eq_false (by omega) | exact ndT (by omega) | exact ndF (by omega)) ?_))
            )
          exact ⟨(i + 1, u2), by dsimp only; omega, hs.sub (Has.all ⟨rfl, rfl, rfl, rfl, rfl, by dsimp only; rw [hst]; rfl, by dsimp only; rw [hst]; rfl, rfl, rfl, trivial⟩), hm0.trans (hm1.trans hm), by dsimp only; omega, hu2.past hsat2 (by rw [ints_len]; omega) hm.fr, hul2, by dsimp only; omega⟩
        · rw [if_neg htt] at hst
          repeat (first
            | ((with_reducible first | refine toL hm ?_ | refine toQ ?_); (first
                | refine oneV hs (by first | exact Wnt.none rfl | exact Wnt.some rfl rfl rfl rfl) rfl rfl (by intro w hm; (first | exact r_val hs tab rfl | ((with_reducible apply kLoad); first | exact r_load hs rfl rfl tab rfl rfl (by first | exact Ro.cl (by assumption) hm (by first | exact (fun t => t) | assumption) (by first | rfl | assumption) | exact Ro.cl0 (by assumption) hm (by first | exact (fun t => t) | assumption) (by first | rfl | assumption) | exact hm.cl (by repeat (first | exact mH | apply mT)) (by first | rfl | assumption)) | exact r_loadO hs rfl rfl tab rfl rfl rfl hm (by repeat (first | exact mH | apply mT)) (by rfl) | exact r_loadA hs rfl rfl tab rfl rfl (Ro.ro (by assumption) hm (by first | exact (fun t => t) | assumption)) rfl) | exact r_iz hs tab rfl rfl (by omega) | exact r_iy hs tab rfl rfl (by omega) | exact r_cT hs rfl (by omega) | exact r_cF hs rfl (by omega) | exact r_arH hs rfl (by assumption) (by omega) | exact r_pred hs rfl rfl rfl (by omega) | exact r_ar hs rfl (by omega) | exact r_rem64 hs rfl rfl rfl (by omega) (by omega) | exact r_bi hs rfl | exact r_pick hs rfl rfl rfl rfl | exact r_b2s hs rfl rfl tab rfl rfl rfl rfl rfl rfl (by first | exact Fr.rd' hm.fr (by assumption) | exact Mm.rd_row hm (by repeat (first | exact mH | apply mT)) (by assumption)) (by assumption))) ?_
                | refine oneN hs rfl rfl rfl rfl rfl rfl rfl ?_
                | refine oneU hs rfl rfl rfl rfl rfl rfl ?_); clear hs a; intro a hs)
            | ((with_reducible apply lCons); (first
                | (refine dv hs (by first | exact Wnt.none rfl | exact Wnt.some rfl rfl rfl rfl) rfl rfl (by first | exact d_alloc rfl tab rfl rfl hm | exact d_box hs rfl rfl rfl hm | exact d_buildSlice0 rfl tab rfl rfl rfl hm | exact d_buildSlice hs rfl tab rfl rfl rfl rfl rfl rfl rfl rfl rfl hm) ?_; clear hs hm a; rintro _ w ⟨g, rfl, -, hm⟩ a hs)
                | (refine stn hs rfl rfl (by first | exact d_store hs rfl rfl rfl tab rfl rfl rfl rfl hm (by repeat (first | exact Rep.head _ _ _ | apply Rep.tail)) (by rfl) | exact d_store1 hs rfl rfl rfl tab rfl rfl rfl rfl hm (by repeat (first | exact Rep.head _ _ _ | apply Rep.tail)) (by first | omega | assumption | (simp; omega))) ?_; clear hs hm a; rintro - w hm a hs)
                ))
            | ((with_reducible apply qNil); clear hm; intro w hm)
            | ((with_reducible refine cQuiet hm ?_ ?_ ?_ ?_); rfl; kernel_rfl; kernel_rfl)
            | (with_reducible first | apply lNilThen | apply lNilBlock | apply lNil | apply wp_seq | apply wp_region_lit | apply wp_block | apply cExit | apply cRet | apply cSkip | apply gThen | apply gBlock | apply eThen | apply eBlockHit | refine eBlock rfl ?_ | apply rThen | apply rBlock)
            | ((with_reducible apply cCond); (first | refine cTrue hs rfl (by first | rfl | assumption | exact decide_eq_true (by omega) | exact decide_eq_false (by omega) | exact ndT (by omega) | exact ndF (by omega)) ?_ | refine cFalse hs rfl (by first | rfl | assumption | exact decide_eq_true (by omega) | exact decide_eq_false (by omega) | exact ndT (by omega) | exact ndF (by omega)) ?_))
            )
          exact ⟨(i + 1, u2), by dsimp only; omega, hs.sub (Has.all ⟨rfl, rfl, rfl, rfl, rfl, by dsimp only; rw [hst]; rfl, by dsimp only; rw [hst]; rfl, rfl, rfl, trivial⟩), hm0.trans (hm1.trans hm), by dsimp only; omega, hu2.past hsat2 (by rw [ints_len]; omega) hm.fr, hul2, by dsimp only; omega⟩
  · obtain rfl : i = 5 := by omega
    rw [lI_5] at hul
    have hnx := fun w'' (hf : Pu w' w'') => next_c u w'' (hu.pu hf) (by omega)
    have hpr := fun w'' (hf : Pu w' w'') => present_c u w'' (hu.pu hf) (by omega)
    rw [hul, hun] at hnx hpr
    have hF1 := hF.pu hm0.fr
    have q3' := q3.ro hm0 (fun t => t)
    clear hm0
    have hm := Mm.nil (fun _ => False) w'
    cases hn : nextF (lF at_ out) 5 with
    | none =>
      rw [hn] at hs hnx
      dsimp only [Option.isSome, Option.getD] at hs
      unfold nxV at hnx
      dsimp only [Option.isSome, Option.getD] at hnx
      repeat (first
        | ((with_reducible refine toL hm ?_); (first
            | refine oneV hs (by first | exact Wnt.none rfl | exact Wnt.some rfl rfl rfl rfl) rfl rfl (by intro w hm; (first | exact r_val hs tab rfl | ((with_reducible apply kLoad); first | exact r_load hs rfl rfl tab rfl rfl (by first | exact Ro.cl (by assumption) hm (by first | exact (fun t => t) | assumption) (by first | rfl | assumption) | exact Ro.cl0 (by assumption) hm (by first | exact (fun t => t) | assumption) (by first | rfl | assumption) | exact hm.cl (by repeat (first | exact mH | apply mT)) (by first | rfl | assumption)) | exact r_loadO hs rfl rfl tab rfl rfl rfl hm (by repeat (first | exact mH | apply mT)) (by rfl) | exact r_loadA hs rfl rfl tab rfl rfl (Ro.ro (by assumption) hm (by first | exact (fun t => t) | assumption)) rfl) | exact r_iz hs tab rfl rfl (by omega) | exact r_iy hs tab rfl rfl (by omega) | exact r_cT hs rfl (by omega) | exact r_cF hs rfl (by omega) | exact r_arH hs rfl (by assumption) (by omega) | exact r_pred hs rfl rfl rfl (by omega) | exact r_ar hs rfl (by omega) | exact r_rem64 hs rfl rfl rfl (by omega) (by omega) | exact r_bi hs rfl | exact r_pick hs rfl rfl rfl rfl | exact r_b2s hs rfl rfl tab rfl rfl rfl rfl rfl rfl (by first | exact Fr.rd' hm.fr (by assumption) | exact Mm.rd_row hm (by repeat (first | exact mH | apply mT)) (by assumption)) (by assumption))) ?_
            | refine oneN hs rfl rfl rfl rfl rfl rfl rfl ?_
            | refine oneU hs rfl rfl rfl rfl rfl rfl ?_); clear hs a; intro a hs)
        | ((with_reducible apply lCons); (first
            | (refine dv hs (by first | exact Wnt.none rfl | exact Wnt.some rfl rfl rfl rfl) rfl rfl (by first | exact d_alloc rfl tab rfl rfl hm | exact d_box hs rfl rfl rfl hm | exact d_buildSlice0 rfl tab rfl rfl rfl hm | exact d_buildSlice hs rfl tab rfl rfl rfl rfl rfl rfl rfl rfl rfl hm) ?_; clear hs hm a; rintro _ w ⟨g, rfl, -, hm⟩ a hs)
            | (refine stn hs rfl rfl (by first | exact d_store hs rfl rfl rfl tab rfl rfl rfl rfl hm (by repeat (first | exact Rep.head _ _ _ | apply Rep.tail)) (by rfl) | exact d_store1 hs rfl rfl rfl tab rfl rfl rfl rfl hm (by repeat (first | exact Rep.head _ _ _ | apply Rep.tail)) (by first | omega | assumption | (simp; omega))) ?_; clear hs hm a; rintro - w hm a hs)
            | (refine dv hs (by first | exact Wnt.none rfl | exact Wnt.some rfl rfl rfl rfl) rfl rfl (d_call hs rfl rfl rfl (pl 18 rfl) (hnx _ hm.fr)) ?_; clear hs a; rintro _ w ⟨rfl, hf⟩ a hs; replace hm := hm.pu hf; clear hf)
            ))
        | (with_reducible first | apply lNilThen | apply lNilBlock | apply lNil | apply wp_seq | apply wp_region_lit | apply wp_block | apply cExit | apply cRet | apply cSkip | apply gThen | apply gBlock | apply eThen | apply eBlockHit | refine eBlock rfl ?_ | apply rThen | apply rBlock)
        | ((with_reducible apply cCond); (first | refine cTrue hs rfl (by first | rfl | assumption | exact decide_eq_true (by omega) | exact decide_eq_false (by omega) | exact ndT (by omega) | exact ndF (by omega)) ?_ | refine cFalse hs rfl (by first | rfl | assumption | exact decide_eq_true (by omega) | exact decide_eq_false (by omega) | exact ndT (by omega) | exact ndF (by omega)) ?_))
        )
      refine st hs rfl rfl rfl (d_call hs rfl rfl rfl (pl 19 rfl) ((hpr _ hm.fr))) ?_; clear hs a; rintro _ w2 ⟨p, rfl, hp, hpn, hpx, hf⟩ a hs
      replace hm := hm.pu hf
      have hF2 := hF1.pu hm.fr
      have q4 : Ro w2 g3 0 (bools ob) := fun j u hu => hm.fr.cl (q3' j u hu) (fun t => t)
      clear hm
      have hm := Mm.nil (fun _ => False) w2
      obtain ⟨pA, pn, pc, px⟩ := p
      dsimp only at hpn hpx
      subst hpx; subst hpn
      obtain ⟨-, p2⟩ := hp
      obtain ⟨b1, o1, rfl, hb1, r1⟩ := p2.ro (by show 0 < (bools (inF (lF at_ out))).length; rw [bools_len]; simp [inF, lF])
      unfold TS.v at hs
      dsimp only at hs r1
      repeat (first
        | ((with_reducible refine toL hm ?_); (first
            | refine oneV hs (by first | exact Wnt.none rfl | exact Wnt.some rfl rfl rfl rfl) rfl rfl (by intro w hm; (first | exact r_val hs tab rfl | ((with_reducible apply kLoad); first | exact r_load hs rfl rfl tab rfl rfl (by first | exact Ro.cl (by assumption) hm (by first | exact (fun t => t) | assumption) (by first | rfl | assumption) | exact Ro.cl0 (by assumption) hm (by first | exact (fun t => t) | assumption) (by first | rfl | assumption) | exact hm.cl (by repeat (first | exact mH | apply mT)) (by first | rfl | assumption)) | exact r_loadO hs rfl rfl tab rfl rfl rfl hm (by repeat (first | exact mH | apply mT)) (by rfl) | exact r_loadA hs rfl rfl tab rfl rfl (Ro.ro (by assumption) hm (by first | exact (fun t => t) | assumption)) rfl) | exact r_iz hs tab rfl rfl (by omega) | exact r_iy hs tab rfl rfl (by omega) | exact r_cT hs rfl (by omega) | exact r_cF hs rfl (by omega) | exact r_arH hs rfl (by assumption) (by omega) | exact r_pred hs rfl rfl rfl (by omega) | exact r_ar hs rfl (by omega) | exact r_rem64 hs rfl rfl rfl (by omega) (by omega) | exact r_bi hs rfl | exact r_pick hs rfl rfl rfl rfl | exact r_b2s hs rfl rfl tab rfl rfl rfl rfl rfl rfl (by first | exact Fr.rd' hm.fr (by assumption) | exact Mm.rd_row hm (by repeat (first | exact mH | apply mT)) (by assumption)) (by assumption))) ?_
            | refine oneN hs rfl rfl rfl rfl rfl rfl rfl ?_
            | refine oneU hs rfl rfl rfl rfl rfl rfl ?_); clear hs a; intro a hs)
        | ((with_reducible apply lCons); (first
            | (refine dv hs (by first | exact Wnt.none rfl | exact Wnt.some rfl rfl rfl rfl) rfl rfl (by first | exact d_alloc rfl tab rfl rfl hm | exact d_box hs rfl rfl rfl hm | exact d_buildSlice0 rfl tab rfl rfl rfl hm | exact d_buildSlice hs rfl tab rfl rfl rfl rfl rfl rfl rfl rfl rfl hm) ?_; clear hs hm a; rintro _ w ⟨g, rfl, -, hm⟩ a hs)
            | (refine stn hs rfl rfl (by first | exact d_store hs rfl rfl rfl tab rfl rfl rfl rfl hm (by repeat (first | exact Rep.head _ _ _ | apply Rep.tail)) (by rfl) | exact d_store1 hs rfl rfl rfl tab rfl rfl rfl rfl hm (by repeat (first | exact Rep.head _ _ _ | apply Rep.tail)) (by first | omega | assumption | (simp; omega))) ?_; clear hs hm a; rintro - w hm a hs)
            ))
        | (with_reducible first | apply lNilThen | apply lNilBlock | apply lNil | apply wp_seq | apply wp_region_lit | apply wp_block | apply cExit | apply cRet | apply cSkip | apply gThen | apply gBlock | apply eThen | apply eBlockHit | refine eBlock rfl ?_ | apply rThen | apply rBlock)
        | ((with_reducible apply cCond); (first | refine cTrue hs rfl (by first | rfl | assumption | exact decide_eq_true (by omega) | exact decide_eq_false (by omega) | exact ndT (by omega) | exact ndF (by omega)) ?_ | refine cFalse hs rfl (by first | rfl | assumption | exact decide_eq_true (by omega) | exact decide_eq_false (by omega) | exact ndT (by omega) | exact ndF (by omega)) ?_))
        )
      refine cLoop (X := Nat) (fun k a w' => Sl Try.f5.ntmps [(3, .pointer (some ⟨g3, 0, none⟩)), (4, .bool false), (15, .slice (some ⟨b1, o1, none⟩) 5 pc), (16, .int .i64 (k : Int))] a ∧ Mm (fun _ => False) w2 [] w' ∧ k ≤ 5) (fun k => 5 - k) 0 ⟨hs.sub (Has.all ⟨rfl, rfl, rfl, rfl, trivial⟩), hm, Nat.zero_le _⟩ ?_
      clear hs hm a
      rintro k a w3 ⟨hs, hm, hk⟩
      by_cases hlt2 : k < 5
      · have e4 := bools_some (xs := ob) (k := k) (by omega)
        have hok : out k = ob[k] := by rw [hout]; dsimp only; rw [getD_some (by omega)]
        have e5 : (bools (inF (lF at_ out)))[k]? = some (.bool (!out k)) := by
          unfold bools inF lF
          rw [List.getElem?_map, List.getElem?_map, List.getElem?_map, List.getElem?_range hlt2]
          by_cases hq : out k = true <;> simp [hq]
        rw [hok] at e5
        generalize ob[k]'(_) = b at *
        cases b
        · replace e5 : (bools (inF (lF at_ out)))[k]? = some (.bool true) := e5
          repeat (first
            | ((with_reducible first | refine toL hm ?_ | refine toQ ?_); (first
                | refine oneV hs (by first | exact Wnt.none rfl | exact Wnt.some rfl rfl rfl rfl) rfl rfl (by intro w hm; (first | exact r_val hs tab rfl | ((with_reducible apply kLoad); first | exact r_load hs rfl rfl tab rfl rfl (by first | exact Ro.cl (by assumption) hm (by first | exact (fun t => t) | assumption) (by first | rfl | assumption) | exact Ro.cl0 (by assumption) hm (by first | exact (fun t => t) | assumption) (by first | rfl | assumption) | exact hm.cl (by repeat (first | exact mH | apply mT)) (by first | rfl | assumption)) | exact r_loadO hs rfl rfl tab rfl rfl rfl hm (by repeat (first | exact mH | apply mT)) (by rfl) | exact r_loadA hs rfl rfl tab rfl rfl (Ro.ro (by assumption) hm (by first | exact (fun t => t) | assumption)) rfl) | exact r_iz hs tab rfl rfl (by omega) | exact r_iy hs tab rfl rfl (by omega) | exact r_cT hs rfl (by omega) | exact r_cF hs rfl (by omega) | exact r_arH hs rfl (by assumption) (by omega) | exact r_pred hs rfl rfl rfl (by omega) | exact r_ar hs rfl (by omega) | exact r_rem64 hs rfl rfl rfl (by omega) (by omega) | exact r_bi hs rfl | exact r_pick hs rfl rfl rfl rfl | exact r_b2s hs rfl rfl tab rfl rfl rfl rfl rfl rfl (by first | exact Fr.rd' hm.fr (by assumption) | exact Mm.rd_row hm (by repeat (first | exact mH | apply mT)) (by assumption)) (by assumption))) ?_
                | refine oneN hs rfl rfl rfl rfl rfl rfl rfl ?_
                | refine oneU hs rfl rfl rfl rfl rfl rfl ?_); clear hs a; intro a hs)
            | ((with_reducible apply lCons); (first
                | (refine dv hs (by first | exact Wnt.none rfl | exact Wnt.some rfl rfl rfl rfl) rfl rfl (by first | exact d_alloc rfl tab rfl rfl hm | exact d_box hs rfl rfl rfl hm | exact d_buildSlice0 rfl tab rfl rfl rfl hm | exact d_buildSlice hs rfl tab rfl rfl rfl rfl rfl rfl rfl rfl rfl hm) ?_; clear hs hm a; rintro _ w ⟨g, rfl, -, hm⟩ a hs)
                | (refine stn hs rfl rfl (by first | exact d_store hs rfl rfl rfl tab rfl rfl rfl rfl hm (by repeat (first | exact Rep.head _ _ _ | apply Rep.tail)) (by rfl) | exact d_store1 hs rfl rfl rfl tab rfl rfl rfl rfl hm (by repeat (first | exact Rep.head _ _ _ | apply Rep.tail)) (by first | omega | assumption | (simp; omega))) ?_; clear hs hm a; rintro - w hm a hs)
                ))
            | ((with_reducible apply qNil); clear hm; intro w hm)
            | ((with_reducible refine cQuiet hm ?_ ?_ ?_ ?_); rfl; kernel_rfl; kernel_rfl)
            | (with_reducible first | apply lNilThen | apply lNilBlock | apply lNil | apply wp_seq | apply wp_region_lit | apply wp_block | apply cExit | apply cRet | apply cSkip | apply gThen | apply gBlock | apply eThen | apply eBlockHit | refine eBlock rfl ?_ | apply rThen | apply rBlock)
            | ((with_reducible apply cCond); (first | refine cTrue hs rfl (by first | rfl | assumption | exact decide_eq_true (by omega) | exact decide_eq_false (by omega) | exact ndT (by omega) | exact ndF (by omega)) ?_ | refine cFalse hs rfl (by first | rfl | assumption | exact decide_eq_true (by omega) | exact decide_eq_false (by omega) | exact ndT (by omega) | exact ndF (by omega)) ?_))
            )
          exact ⟨k + 1, by omega, hs.sub (Has.all ⟨rfl, rfl, rfl, rfl, trivial⟩), hm, by omega⟩
        · replace e5 : (bools (inF (lF at_ out)))[k]? = some (.bool false) := e5
          repeat (first
            | ((with_reducible first | refine toL hm ?_ | refine toQ ?_); (first
                | refine oneV hs (by first | exact Wnt.none rfl | exact Wnt.some rfl rfl rfl rfl) rfl rfl (by intro w hm; (first | exact r_val hs tab rfl | ((with_reducible apply kLoad); first | exact r_load hs rfl rfl tab rfl rfl (by first | exact Ro.cl (by assumption) hm (by first | exact (fun t => t) | assumption) (by first | rfl | assumption) | exact Ro.cl0 (by assumption) hm (by first | exact (fun t => t) | assumption) (by first | rfl | assumption) | exact hm.cl (by repeat (first | exact mH | apply mT)) (by first | rfl | assumption)) | exact r_loadO hs rfl rfl tab rfl rfl rfl hm (by repeat (first | exact mH | apply mT)) (by rfl) | exact r_loadA hs rfl rfl tab rfl rfl (Ro.ro (by assumption) hm (by first | exact (fun t => t) | assumption)) rfl) | exact r_iz hs tab rfl rfl (by omega) | exact r_iy hs tab rfl rfl (by omega) | exact r_cT hs rfl (by omega) | exact r_cF hs rfl (by omega) | exact r_arH hs rfl (by assumption) (by omega) | exact r_pred hs rfl rfl rfl (by omega) | exact r_ar hs rfl (by omega) | exact r_rem64 hs rfl rfl rfl (by omega) (by omega) | exact r_bi hs rfl | exact r_pick hs rfl rfl rfl rfl | exact r_b2s hs rfl rfl tab rfl rfl rfl rfl rfl rfl (by first | exact Fr.rd' hm.fr (by assumption) | exact Mm.rd_row hm (by repeat (first | exact mH | apply mT)) (by assumption)) (by assumption))) ?_
                | refine oneN hs rfl rfl rfl rfl rfl rfl rfl ?_
                | refine oneU hs rfl rfl rfl rfl rfl rfl ?_); clear hs a; intro a hs)
            | ((with_reducible apply lCons); (first
                | (refine dv hs (by first | exact Wnt.none rfl | exact Wnt.some rfl rfl rfl rfl) rfl rfl (by first | exact d_alloc rfl tab rfl rfl hm | exact d_box hs rfl rfl rfl hm | exact d_buildSlice0 rfl tab rfl rfl rfl hm | exact d_buildSlice hs rfl tab rfl rfl rfl rfl rfl rfl rfl rfl rfl hm) ?_; clear hs hm a; rintro _ w ⟨g, rfl, -, hm⟩ a hs)
                | (refine stn hs rfl rfl (by first | exact d_store hs rfl rfl rfl tab rfl rfl rfl rfl hm (by repeat (first | exact Rep.head _ _ _ | apply Rep.tail)) (by rfl) | exact d_store1 hs rfl rfl rfl tab rfl rfl rfl rfl hm (by repeat (first | exact Rep.head _ _ _ | apply Rep.tail)) (by first | omega | assumption | (simp; omega))) ?_; clear hs hm a; rintro - w hm a hs)
                ))
            | ((with_reducible apply qNil); clear hm; intro w hm)
            | ((with_reducible refine cQuiet hm ?_ ?_ ?_ ?_); rfl; kernel_rfl; kernel_rfl)
            | (with_reducible first | apply lNilThen | apply lNilBlock | apply lNil | apply wp_seq | apply wp_region_lit | apply wp_block | apply cExit | apply cRet | apply cSkip | apply gThen | apply gBlock | apply eThen | apply eBlockHit | refine eBlock rfl ?_ | apply rThen | apply rBlock)
            | ((with_reducible apply cCond); (first | refine cTrue hs rfl (by first | rfl | assumption | exact decide_eq_true (by omega) | exact decide_eq_false (by omega) | exact ndT (by omega) | exact ndF (by omega)) ?_ | refine cFalse hs rfl (by first | rfl | assumption | exact decide_eq_true (by omega) | exact decide_eq_false (by omega) | exact ndT (by omega) | exact ndF (by omega)) ?_))
            )
          exact ⟨k + 1, by omega, hs.sub (Has.all ⟨rfl, rfl, rfl, rfl, trivial⟩), hm, by omega⟩
      · repeat (first
          | ((with_reducible refine toL hm ?_); (first
              | refine oneV hs (by first | exact Wnt.none rfl | exact Wnt.some rfl rfl rfl rfl) rfl rfl (by intro w hm; (first | exact r_val hs tab rfl | ((with_reducible apply kLoad); first | exact r_load hs rfl rfl tab rfl rfl (by first | exact Ro.cl (by assumption) hm (by first | exact (fun t => t) | assumption) (by first | rfl | assumption) | exact Ro.cl0 (by assumption) hm (by first | exact (fun t => t) | assumption) (by first | rfl | assumption) | exact hm.cl (by repeat (first | exact mH | apply mT)) (by first | rfl | assumption)) | exact r_loadO hs rfl rfl tab rfl rfl rfl hm (by repeat (first | exact mH | apply mT)) (by rfl) | exact r_loadA hs rfl rfl tab rfl rfl (Ro.ro (by assumption) hm (by first | exact (fun t => t) | assumption)) rfl) | exact r_iz hs tab rfl rfl (by omega) | exact r_iy hs tab rfl rfl (by omega) | exact r_cT hs rfl (by omega) | exact r_cF hs rfl (by omega) | exact r_arH hs rfl (by assumption) (by omega) | exact r_pred hs rfl rfl rfl (by omega) | exact r_ar hs rfl (by omega) | exact r_rem64 hs rfl rfl rfl (by omega) (by omega) | exact r_bi hs rfl | exact r_pick hs rfl rfl rfl rfl | exact r_b2s hs rfl rfl tab rfl rfl rfl rfl rfl rfl (by first | exact Fr.rd' hm.fr (by assumption) | exact Mm.rd_row hm (by repeat (first | exact mH | apply mT)) (by assumption)) (by assumption))) ?_
              | refine oneN hs rfl rfl rfl rfl rfl rfl rfl ?_
              | refine oneU hs rfl rfl rfl rfl rfl rfl ?_); clear hs a; intro a hs)
          | ((with_reducible apply lCons); (first
              | (refine dv hs (by first | exact Wnt.none rfl | exact Wnt.some rfl rfl rfl rfl) rfl rfl (by first | exact d_alloc rfl tab rfl rfl hm | exact d_box hs rfl rfl rfl hm | exact d_buildSlice0 rfl tab rfl rfl rfl hm | exact d_buildSlice hs rfl tab rfl rfl rfl rfl rfl rfl rfl rfl rfl hm) ?_; clear hs hm a; rintro _ w ⟨g, rfl, -, hm⟩ a hs)
              | (refine stn hs rfl rfl (by first | exact d_store hs rfl rfl rfl tab rfl rfl rfl rfl hm (by repeat (first | exact Rep.head _ _ _ | apply Rep.tail)) (by rfl) | exact d_store1 hs rfl rfl rfl tab rfl rfl rfl rfl hm (by repeat (first | exact Rep.head _ _ _ | apply Rep.tail)) (by first | omega | assumption | (simp; omega))) ?_; clear hs hm a; rintro - w hm a hs)
              | (refine dv hs (by first | exact Wnt.none rfl | exact Wnt.some rfl rfl rfl rfl) rfl rfl (d_call hs rfl rfl rfl (pl 10 rfl) (awake_c _)) ?_; clear hs a; rintro _ w ⟨rfl, hf⟩ a hs; replace hm := hm.pu hf; clear hf)
              ))
          | (with_reducible first | apply lNilThen | apply lNilBlock | apply lNil | apply wp_seq | apply wp_region_lit | apply wp_block | apply cExit | apply cRet | apply cSkip | apply gThen | apply gBlock | apply eThen | apply eBlockHit | refine eBlock rfl ?_ | apply rThen | apply rBlock)
          | ((with_reducible apply cCond); (first | refine cTrue hs rfl (by first | rfl | assumption | exact decide_eq_true (by omega) | exact decide_eq_false (by omega) | exact ndT (by omega) | exact ndF (by omega)) ?_ | refine cFalse hs rfl (by first | rfl | assumption | exact decide_eq_true (by omega) | exact decide_eq_false (by omega) | exact ndT (by omega) | exact ndF (by omega)) ?_))
          )
        exact gRet1 hs rfl rfl ⟨rfl, hF2.pu hm.fr⟩
    | some j =>
      rw [hn] at hs hnx
      dsimp only [Option.isSome, Option.getD] at hs
      unfold nxV at hnx
      dsimp only [Option.isSome, Option.getD] at hnx
      repeat (first
        | ((with_reducible refine toL hm ?_); (first
            | refine oneV hs (by first | exact Wnt.none rfl | exact Wnt.some rfl rfl rfl rfl) rfl rfl (by intro w hm; (first | exact r_val hs tab rfl | ((with_reducible apply kLoad); first | exact r_load hs rfl rfl tab rfl rfl (by first | exact Ro.cl (by assumption) hm (by first | exact (fun t => t) | assumption) (by first | rfl | assumption) | exact Ro.cl0 (by assumption) hm (by first | exact (fun t => t) | assumption) (by first | rfl | assumption) | exact hm.cl (by repeat (first | exact mH | apply mT)) (by first | rfl | assumption)) | exact r_loadO hs rfl rfl tab rfl rfl rfl hm (by repeat (first | exact mH | apply mT)) (by rfl) | exact r_loadA hs rfl rfl tab rfl rfl (Ro.ro (by assumption) hm (by first | exact (fun t => t) | assumption)) rfl) | exact r_iz hs tab rfl rfl (by omega) | exact r_iy hs tab rfl rfl (by omega) | exact r_cT hs rfl (by omega) | exact r_cF hs rfl (by omega) | exact r_arH hs rfl (by assumption) (by omega) | exact r_pred hs rfl rfl rfl (by omega) | exact r_ar hs rfl (by omega) | exact r_rem64 hs rfl rfl rfl (by omega) (by omega) | exact r_bi hs rfl | exact r_pick hs rfl rfl rfl rfl | exact r_b2s hs rfl rfl tab rfl rfl rfl rfl rfl rfl (by first | exact Fr.rd' hm.fr (by assumption) | exact Mm.rd_row hm (by repeat (first | exact mH | apply mT)) (by assumption)) (by assumption))) ?_
            | refine oneN hs rfl rfl rfl rfl rfl rfl rfl ?_
            | refine oneU hs rfl rfl rfl rfl rfl rfl ?_); clear hs a; intro a hs)
        | ((with_reducible apply lCons); (first
            | (refine dv hs (by first | exact Wnt.none rfl | exact Wnt.some rfl rfl rfl rfl) rfl rfl (by first | exact d_alloc rfl tab rfl rfl hm | exact d_box hs rfl rfl rfl hm | exact d_buildSlice0 rfl tab rfl rfl rfl hm | exact d_buildSlice hs rfl tab rfl rfl rfl rfl rfl rfl rfl rfl rfl hm) ?_; clear hs hm a; rintro _ w ⟨g, rfl, -, hm⟩ a hs)
            | (refine stn hs rfl rfl (by first | exact d_store hs rfl rfl rfl tab rfl rfl rfl rfl hm (by repeat (first | exact Rep.head _ _ _ | apply Rep.tail)) (by rfl) | exact d_store1 hs rfl rfl rfl tab rfl rfl rfl rfl hm (by repeat (first | exact Rep.head _ _ _ | apply Rep.tail)) (by first | omega | assumption | (simp; omega))) ?_; clear hs hm a; rintro - w hm a hs)
            | (refine dv hs (by first | exact Wnt.none rfl | exact Wnt.some rfl rfl rfl rfl) rfl rfl (d_call hs rfl rfl rfl (pl 18 rfl) (hnx _ hm.fr)) ?_; clear hs a; rintro _ w ⟨rfl, hf⟩ a hs; replace hm := hm.pu hf; clear hf)
            ))
        | (with_reducible first | apply lNilThen | apply lNilBlock | apply lNil | apply wp_seq | apply wp_region_lit | apply wp_block | apply cExit | apply cRet | apply cSkip | apply gThen | apply gBlock | apply eThen | apply eBlockHit | refine eBlock rfl ?_ | apply rThen | apply rBlock)
        | ((with_reducible apply cCond); (first | refine cTrue hs rfl (by first | rfl | assumption | exact decide_eq_true (by omega) | exact decide_eq_false (by omega) | exact ndT (by omega) | exact ndF (by omega)) ?_ | refine cFalse hs rfl (by first | rfl | assumption | exact decide_eq_true (by omega) | exact decide_eq_false (by omega) | exact ndT (by omega) | exact ndF (by omega)) ?_))
        )
      refine st hs rfl rfl rfl (d_call hs rfl rfl rfl (pl 19 rfl) ((hpr _ hm.fr))) ?_; clear hs a; rintro _ w2 ⟨p, rfl, hp, hpn, hpx, hf⟩ a hs
      replace hm := hm.pu hf
      have hF2 := hF1.pu hm.fr
      have q4 : Ro w2 g3 0 (bools ob) := fun j u hu => hm.fr.cl (q3' j u hu) (fun t => t)
      clear hm
      have hm := Mm.nil (fun _ => False) w2
      obtain ⟨pA, pn, pc, px⟩ := p
      dsimp only at hpn hpx
      subst hpx; subst hpn
      obtain ⟨-, p2⟩ := hp
      obtain ⟨b1, o1, rfl, hb1, r1⟩ := p2.ro (by show 0 < (bools (inF (lF at_ out))).length; rw [bools_len]; simp [inF, lF])
      unfold TS.v at hs
      dsimp only at hs r1
      repeat (first
        | ((with_reducible refine toL hm ?_); (first
            | refine oneV hs (by first | exact Wnt.none rfl | exact Wnt.some rfl rfl rfl rfl) rfl rfl (by intro w hm; (first | exact r_val hs tab rfl | ((with_reducible apply kLoad); first | exact r_load hs rfl rfl tab rfl rfl (by first | exact Ro.cl (by assumption) hm (by first | exact (fun t => t) | assumption) (by first | rfl | assumption) | exact Ro.cl0 (by assumption) hm (by first | exact (fun t => t) | assumption) (by first | rfl | assumption) | exact hm.cl (by repeat (first | exact mH | apply mT)) (by first | rfl | assumption)) | exact r_loadO hs rfl rfl tab rfl rfl rfl hm (by repeat (first | exact mH | apply mT)) (by rfl) | exact r_loadA hs rfl rfl tab rfl rfl (Ro.ro (by assumption) hm (by first | exact (fun t => t) | assumption)) rfl) | exact r_iz hs tab rfl rfl (by omega) | exact r_iy hs tab rfl rfl (by omega) | exact r_cT hs rfl (by omega) | exact r_cF hs rfl (by omega) | exact r_arH hs rfl (by assumption) (by omega) | exact r_pred hs rfl rfl rfl (by omega) | exact r_ar hs rfl (by omega) | exact r_rem64 hs rfl rfl rfl (by omega) (by omega) | exact r_bi hs rfl | exact r_pick hs rfl rfl rfl rfl | exact r_b2s hs rfl rfl tab rfl rfl rfl rfl rfl rfl (by first | exact Fr.rd' hm.fr (by assumption) | exact Mm.rd_row hm (by repeat (first | exact mH | apply mT)) (by assumption)) (by assumption))) ?_
            | refine oneN hs rfl rfl rfl rfl rfl rfl rfl ?_
            | refine oneU hs rfl rfl rfl rfl rfl rfl ?_); clear hs a; intro a hs)
        | ((with_reducible apply lCons); (first
            | (refine dv hs (by first | exact Wnt.none rfl | exact Wnt.some rfl rfl rfl rfl) rfl rfl (by first | exact d_alloc rfl tab rfl rfl hm | exact d_box hs rfl rfl rfl hm | exact d_buildSlice0 rfl tab rfl rfl rfl hm | exact d_buildSlice hs rfl tab rfl rfl rfl rfl rfl rfl rfl rfl rfl hm) ?_; clear hs hm a; rintro _ w ⟨g, rfl, -, hm⟩ a hs)
            | (refine stn hs rfl rfl (by first | exact d_store hs rfl rfl rfl tab rfl rfl rfl rfl hm (by repeat (first | exact Rep.head _ _ _ | apply Rep.tail)) (by rfl) | exact d_store1 hs rfl rfl rfl tab rfl rfl rfl rfl hm (by repeat (first | exact Rep.head _ _ _ | apply Rep.tail)) (by first | omega | assumption | (simp; omega))) ?_; clear hs hm a; rintro - w hm a hs)
            ))
        | (with_reducible first | apply lNilThen | apply lNilBlock | apply lNil | apply wp_seq | apply wp_region_lit | apply wp_block | apply cExit | apply cRet | apply cSkip | apply gThen | apply gBlock | apply eThen | apply eBlockHit | refine eBlock rfl ?_ | apply rThen | apply rBlock)
        | ((with_reducible apply cCond); (first | refine cTrue hs rfl (by first | rfl | assumption | exact decide_eq_true (by omega) | exact decide_eq_false (by omega) | exact ndT (by omega) | exact ndF (by omega)) ?_ | refine cFalse hs rfl (by first | rfl | assumption | exact decide_eq_true (by omega) | exact decide_eq_false (by omega) | exact ndT (by omega) | exact ndF (by omega)) ?_))
        )
      refine cLoop (X := Nat) (fun k a w' => Sl Try.f5.ntmps [(3, .pointer (some ⟨g3, 0, none⟩)), (4, .bool false), (15, .slice (some ⟨b1, o1, none⟩) 5 pc), (16, .int .i64 (k : Int))] a ∧ Mm (fun _ => False) w2 [] w' ∧ k ≤ 5) (fun k => 5 - k) 0 ⟨hs.sub (Has.all ⟨rfl, rfl, rfl, rfl, trivial⟩), hm, Nat.zero_le _⟩ ?_
      clear hs hm a
      rintro k a w3 ⟨hs, hm, hk⟩
      by_cases hlt2 : k < 5
      · have e4 := bools_some (xs := ob) (k := k) (by omega)
        have hok : out k = ob[k] := by rw [hout]; dsimp only; rw [getD_some (by omega)]
        have e5 : (bools (inF (lF at_ out)))[k]? = some (.bool (!out k)) := by
          unfold bools inF lF
          rw [List.getElem?_map, List.getElem?_map, List.getElem?_map, List.getElem?_range hlt2]
          by_cases hq : out k = true <;> simp [hq]
        rw [hok] at e5
        generalize ob[k]'(_) = b at *
        cases b
        · replace e5 : (bools (inF (lF at_ out)))[k]? = some (.bool true) := e5
          repeat (first
            | ((with_reducible first | refine toL hm ?_ | refine toQ ?_); (first
                | refine oneV hs (by first | exact Wnt.none rfl | exact Wnt.some rfl rfl rfl rfl) rfl rfl (by intro w hm; (first | exact r_val hs tab rfl | ((with_reducible apply kLoad); first | exact r_load hs rfl rfl tab rfl rfl (by first | exact Ro.cl (by assumption) hm (by first | exact (fun t => t) | assumption) (by first | rfl | assumption) | exact Ro.cl0 (by assumption) hm (by first | exact (fun t => t) | assumption) (by first | rfl | assumption) | exact hm.cl (by repeat (first | exact mH | apply mT)) (by first | rfl | assumption)) | exact r_loadO hs rfl rfl tab rfl rfl rfl hm (by repeat (first | exact mH | apply mT)) (by rfl) | exact r_loadA hs rfl rfl tab rfl rfl (Ro.ro (by assumption) hm (by first | exact (fun t => t) | assumption)) rfl) | exact r_iz hs tab rfl rfl (by omega) | exact r_iy hs tab rfl rfl (by omega) | exact r_cT hs rfl (by omega) | exact r_cF hs rfl (by omega) | exact r_arH hs rfl (by assumption) (by omega) | exact r_pred hs rfl rfl rfl (by omega) | exact r_ar hs rfl (by omega) | exact r_rem64 hs rfl rfl rfl (by omega) (by omega) | exact r_bi hs rfl | exact r_pick hs rfl rfl rfl rfl | exact r_b2s hs rfl rfl tab rfl rfl rfl rfl rfl rfl (by first | exact Fr.rd' hm.fr (by assumption) | exact Mm.rd_row hm (by repeat (first | exact mH | apply mT)) (by assumption)) (by assumption))) ?_
                | refine oneN hs rfl rfl rfl rfl rfl rfl rfl ?_
                | refine oneU hs rfl rfl rfl rfl rfl rfl ?_); clear hs a; intro a hs)
            | ((with_reducible apply lCons); (first
                | (refine dv hs (by first | exact Wnt.none rfl | exact Wnt.some rfl rfl rfl rfl) rfl rfl (by first | exact d_alloc rfl tab rfl rfl hm | exact d_box hs rfl rfl rfl hm | exact d_buildSlice0 rfl tab rfl rfl rfl hm | exact d_buildSlice hs rfl tab rfl rfl rfl rfl rfl rfl rfl rfl rfl hm) ?_; clear hs hm a; rintro _ w ⟨g, rfl, -, hm⟩ a hs)
                | (refine stn hs rfl rfl (by first | exact d_store hs rfl rfl rfl tab rfl rfl rfl rfl hm (by repeat (first | exact Rep.head _ _ _ | apply Rep.tail)) (by rfl) | exact d_store1 hs rfl rfl rfl tab rfl rfl rfl rfl hm (by repeat (first | exact Rep.head _ _ _ | apply Rep.tail)) (by first | omega | assumption | (simp; omega))) ?_; clear hs hm a; rintro - w hm a hs)
                ))
            | ((with_reducible apply qNil); clear hm; intro w hm)
            | ((with_reducible refine cQuiet hm ?_ ?_ ?_ ?_); rfl; kernel_rfl; kernel_rfl)
            | (with_reducible first | apply lNilThen | apply lNilBlock | apply lNil | apply wp_seq | apply wp_region_lit | apply wp_block | apply cExit | apply cRet | apply cSkip | apply gThen | apply gBlock | apply eThen | apply eBlockHit | refine eBlock rfl ?_ | apply rThen | apply rBlock)
            | ((with_reducible apply cCond); (first | refine cTrue hs rfl (by first | rfl | assumption | exact decide_eq_true (by omega) | exact decide_eq_false (by omega) | exact ndT (by omega) | exact ndF (by omega)) ?_ | refine cFalse hs rfl (by first | rfl | assumption | exact decide_eq_true (by omega) | exact decide_eq_false (by omega) | exact ndT (by omega) | exact ndF (by omega)) ?_))
            )
          exact ⟨k + 1, by omega, hs.sub (Has.all ⟨rfl, rfl, rfl, rfl, trivial⟩), hm, by omega⟩
        · replace e5 : (bools (inF (lF at_ out)))[k]? = some (.bool false) := e5
          repeat (first
            | ((with_reducible first | refine toL hm ?_ | refine toQ ?_); (first
                | refine oneV hs (by first | exact Wnt.none rfl | exact Wnt.some rfl rfl rfl rfl) rfl rfl (by intro w hm; (first | exact r_val hs tab rfl | ((with_reducible apply kLoad); first | exact r_load hs rfl rfl tab rfl rfl (by first | exact Ro.cl (by assumption) hm (by first | exact (fun t => t) | assumption) (by first | rfl | assumption) | exact Ro.cl0 (by assumption) hm (by first | exact (fun t => t) | assumption) (by first | rfl | assumption) | exact hm.cl (by repeat (first | exact mH | apply mT)) (by first | rfl | assumption)) | exact r_loadO hs rfl rfl tab rfl rfl rfl hm (by repeat (first | exact mH | apply mT)) (by rfl) | exact r_loadA hs rfl rfl tab rfl rfl (Ro.ro (by assumption) hm (by first | exact (fun t => t) | assumption)) rfl) | exact r_iz hs tab rfl rfl (by omega) | exact r_iy hs tab rfl rfl (by omega) | exact r_cT hs rfl (by omega) | exact r_cF hs rfl (by omega) | exact r_arH hs rfl (by assumption) (by omega) | exact r_pred hs rfl rfl rfl (by omega) | exact r_ar hs rfl (by omega) | exact r_rem64 hs rfl rfl rfl (by omega) (by omega) | exact r_bi hs rfl | exact r_pick hs rfl rfl rfl rfl | exact r_b2s hs rfl rfl tab rfl rfl rfl rfl rfl rfl (by first | exact Fr.rd' hm.fr (by assumption) | exact Mm.rd_row hm (by repeat (first | exact mH | apply mT)) (by assumption)) (by assumption))) ?_
                | refine oneN hs rfl rfl rfl rfl rfl rfl rfl ?_
                | refine oneU hs rfl rfl rfl rfl rfl rfl ?_); clear hs a; intro a hs)
            | ((with_reducible apply lCons); (first
                | (refine dv hs (by first | exact Wnt.none rfl | exact Wnt.some rfl rfl rfl rfl) rfl rfl (by first | exact d_alloc rfl tab rfl rfl hm | exact d_box hs rfl rfl rfl hm | exact d_buildSlice0 rfl tab rfl rfl rfl hm | exact d_buildSlice hs rfl tab rfl rfl rfl rfl rfl rfl rfl rfl rfl hm) ?_; clear hs hm a; rintro _ w ⟨g, rfl, -, hm⟩ a hs)
                | (refine stn hs rfl rfl (by first | exact d_store hs rfl rfl rfl tab rfl rfl rfl rfl hm (by repeat (first | exact Rep.head _ _ _ | apply Rep.tail)) (by rfl) | exact d_store1 hs rfl rfl rfl tab rfl rfl rfl rfl hm (by repeat (first | exact Rep.head _ _ _ | apply Rep.tail)) (by first | omega | assumption | (simp; omega))) ?_; clear hs hm a; rintro - w hm a hs)
                ))
            | ((with_reducible apply qNil); clear hm; intro w hm)
            | ((with_reducible refine cQuiet hm ?_ ?_ ?_ ?_); rfl; kernel_rfl; kernel_rfl)
            | (with_reducible first | apply lNilThen | apply lNilBlock | apply lNil | apply wp_seq | apply wp_region_lit | apply wp_block | apply cExit | apply cRet | apply cSkip | apply gThen | apply gBlock | apply eThen | apply eBlockHit | refine eBlock rfl ?_ | apply rThen | apply rBlock)
            | ((with_reducible apply cCond); (first | refine cTrue hs rfl (by first | rfl | assumption | exact decide_eq_true (by omega) | exact decide_eq_false (by omega) | exact ndT (by omega) | exact ndF (by omega)) ?_ | refine cFalse hs rfl (by first | rfl | assumption | exact decide_eq_true (by omega) | exact decide_eq_false (by omega) | exact ndT (by omega) | exact ndF (by omega)) ?_))
            )
          exact ⟨k + 1, by omega, hs.sub (Has.all ⟨rfl, rfl, rfl, rfl, trivial⟩), hm, by omega⟩
      · repeat (first
          | ((with_reducible refine toL hm ?_); (first
              | refine oneV hs (by first | exact Wnt.none rfl | exact Wnt.some rfl rfl rfl rfl) rfl rfl (by intro w hm; (first | exact r_val hs tab rfl | ((with_reducible apply kLoad); first | exact r_load hs rfl rfl tab rfl rfl (by first | exact Ro.cl (by assumption) hm (by first | exact (fun t => t) | assumption) (by first | rfl | assumption) | exact Ro.cl0 (by assumption) hm (by first | exact (fun t => t) | assumption) (by first | rfl | assumption) | exact hm.cl (by repeat (first | exact mH | apply mT)) (by first | rfl | assumption)) | exact r_loadO hs rfl rfl tab rfl rfl rfl hm (by repeat (first | exact mH | apply mT)) (by rfl) | exact r_loadA hs rfl rfl tab rfl rfl (Ro.ro (by assumption) hm (by first | exact (fun t => t) | assumption)) rfl) | exact r_iz hs tab rfl rfl (by omega) | exact r_iy hs tab rfl rfl (by omega) | exact r_cT hs rfl (by omega) | exact r_cF hs rfl (by omega) | exact r_arH hs rfl (by assumption) (by omega) | exact r_pred hs rfl rfl rfl (by omega) | exact r_ar hs rfl (by omega) | exact r_rem64 hs rfl rfl rfl (by omega) (by omega) | exact r_bi hs rfl | exact r_pick hs rfl rfl rfl rfl | exact r_b2s hs rfl rfl tab rfl rfl rfl rfl rfl rfl (by first | exact Fr.rd' hm.fr (by assumption) | exact Mm.rd_row hm (by repeat (first | exact mH | apply mT)) (by assumption)) (by assumption))) ?_
              | refine oneN hs rfl rfl rfl rfl rfl rfl rfl ?_
              | refine oneU hs rfl rfl rfl rfl rfl rfl ?_); clear hs a; intro a hs)
          | ((with_reducible apply lCons); (first
              | (refine dv hs (by first | exact Wnt.none rfl | exact Wnt.some rfl rfl rfl rfl) rfl rfl (by first | exact d_alloc rfl tab rfl rfl hm | exact d_box hs rfl rfl rfl hm | exact d_buildSlice0 rfl tab rfl rfl rfl hm | exact d_buildSlice hs rfl tab rfl rfl rfl rfl rfl rfl rfl rfl rfl hm) ?_; clear hs hm a; rintro _ w ⟨g, rfl, -, hm⟩ a hs)
              | (refine stn hs rfl rfl (by first | exact d_store hs rfl rfl rfl tab rfl rfl rfl rfl hm (by repeat (first | exact Rep.head _ _ _ | apply Rep.tail)) (by rfl) | exact d_store1 hs rfl rfl rfl tab rfl rfl rfl rfl hm (by repeat (first | exact Rep.head _ _ _ | apply Rep.tail)) (by first | omega | assumption | (simp; omega))) ?_; clear hs hm a; rintro - w hm a hs)
              | (refine dv hs (by first | exact Wnt.none rfl | exact Wnt.some rfl rfl rfl rfl) rfl rfl (d_call hs rfl rfl rfl (pl 10 rfl) (awake_c _)) ?_; clear hs a; rintro _ w ⟨rfl, hf⟩ a hs; replace hm := hm.pu hf; clear hf)
              ))
          | (with_reducible first | apply lNilThen | apply lNilBlock | apply lNil | apply wp_seq | apply wp_region_lit | apply wp_block | apply cExit | apply cRet | apply cSkip | apply gThen | apply gBlock | apply eThen | apply eBlockHit | refine eBlock rfl ?_ | apply rThen | apply rBlock)
          | ((with_reducible apply cCond); (first | refine cTrue hs rfl (by first | rfl | assumption | exact decide_eq_true (by omega) | exact decide_eq_false (by omega) | exact ndT (by omega) | exact ndF (by omega)) ?_ | refine cFalse hs rfl (by first | rfl | assumption | exact decide_eq_true (by omega) | exact decide_eq_false (by omega) | exact ndT (by omega) | exact ndF (by omega)) ?_))
          )
        exact gRet1 hs rfl rfl ⟨rfl, hF2.pu hm.fr⟩
theorem walk_MemberNext (v0 v1 v2 v3 v4 : Int) (b0 b1 b2 b3 b4 : Bool) (w : World) (hv : (Lit.int .u8 v0).wf = true ∧ (Lit.int .u8 v1).wf = true ∧ (Lit.int .u8 v2).wf = true ∧ (Lit.int .u8 v3).wf = true ∧ (Lit.int .u8 v4).wf = true) : Calls Try.prog 5 #[.agg #[.int .u8 v0, .int .u8 v1, .int .u8 v2, .int .u8 v3, .int .u8 v4], .agg #[.bool b0, .bool b1, .bool b2, .bool b3, .bool b4]] w (fun e w' => e = .returned (.bool true) ∧ Pu w w') :=
  (mnext_c v0 v1 v2 v3 v4 b0 b1 b2 b3 b4 w (u8_in hv.1) (u8_in hv.2.1) (u8_in hv.2.2.1) (u8_in hv.2.2.2.1) (u8_in hv.2.2.2.2)).law
end Go.Proofs.Ytngjacppogdhoaa
