/- Valid locks: the reference says so. -/
import Derived.Test.YtfcmejcmijjnpaaLk12
namespace Go.Proofs.Ytfcmejcmijjnpaa
open Go.RowKit

/-- locks are valid -/
structure VA (a : Ab) : Prop where
  o : a.os.length = 4
  q : a.qs.length = 4
  ob : ∀ v ∈ a.os, -1 ≤ v ∧ v < 4
  e : ∀ i, i < 4 → a.os.getD i 0 = -1 → a.qs.getD i [] = []
  qb : ∀ q ∈ a.qs, ∀ t ∈ q, 0 ≤ t ∧ t < 4
  ne : ∀ i t, i < 4 → t ∈ a.qs.getD i [] → t ≠ a.os.getD i 0
  nd : a.qs.flatten.Nodup
theorem nd_len : ∀ (n : Nat) (l : List Int), l.Nodup → (∀ t ∈ l, 0 ≤ t ∧ t < (n : Int)) → l.length ≤ n
  | 0, [], _, _ => Nat.le_refl _
  | 0, x :: l, _, h => by have := h x (List.mem_cons_self ..); omega
  | n + 1, l, hn, h => by
    by_cases hm : (n : Int) ∈ l
    · have h1 := nd_len n (l.erase (n : Int)) (hn.erase _) fun t ht => by
        have h2 := h t (List.mem_of_mem_erase ht)
        have h3 : t ≠ (n : Int) := fun e => (hn.not_mem_erase) (e ▸ ht)
        omega
      rw [List.length_erase_of_mem hm] at h1
      omega
    · have h1 := nd_len n l hn fun t ht => by
        have h2 := h t ht
        have h3 : t ≠ (n : Int) := fun e => hm (e ▸ ht)
        omega
      omega
theorem VA.len {a : Ab} (h : VA a) : ∀ q ∈ a.qs, q.length ≤ 4 := fun q hq => by
  have h1 := nd_len 4 a.qs.flatten h.nd fun t ht => by
    obtain ⟨q', hq', ht'⟩ := List.mem_flatten.1 ht
    exact h.qb q' hq' t ht'
  have h2 : q.length ≤ a.qs.flatten.length := (List.sublist_flatten_of_mem hq).length_le
  omega
theorem VA.sh {a : Ab} (h : VA a) : a.sh := ⟨h.o, h.q, fun q hq => by have := h.len q hq; omega⟩
/-- what came before in the queues is another one -/
theorem nd_pre {qs : List (List Int)} (h : qs.flatten.Nodup) {i j : Nat} (hi : i < qs.length) (hj : j < qs[i].length) : qs[i][j] ∉ (qs.take i).flatten ++ qs[i].take j := by
  have e : qs = qs.take i ++ qs[i] :: qs.drop (i + 1) := by
    rw [← List.drop_eq_getElem_cons hi, List.take_append_drop]
  have e2 : qs[i] = qs[i].take j ++ qs[i][j] :: qs[i].drop (j + 1) := by
    rw [← List.drop_eq_getElem_cons hj, List.take_append_drop]
  have h3 : qs[i].take j ++ qs[i][j] :: (qs[i].drop (j + 1) ++ (qs.drop (i + 1)).flatten) = qs[i] ++ (qs.drop (i + 1)).flatten := by
    conv => rhs; rw [e2]
    rw [List.append_assoc, List.cons_append]
  have h2 : qs.flatten = ((qs.take i).flatten ++ qs[i].take j) ++ qs[i][j] :: (qs[i].drop (j + 1) ++ (qs.drop (i + 1)).flatten) := by
    rw [List.append_assoc, h3]
    conv => lhs; rw [e]
    rw [List.flatten_append, List.flatten_cons]
  rw [h2] at h
  intro hm
  have := (List.nodup_append.1 h).2.2 _ hm _ (List.mem_cons_self ..)
  exact this rfl
structure VlX where
  i : Nat
  n : Nat
  f : Int → Bool

set_option maxHeartbeats 4000000 in
theorem val_c (x : KS) (wB : World) (hx : x.ok wB) (hv : VA x.ab) : Ret Try.prog 12 [x.v] wB (fun u w' => u = .bool true ∧ Pu wB w') := by
  have hsm := KS.sm_of hx hv.sh
  have hs0 := hv.o
  have hq0 := hv.q
  have hxo := hx.o.1
  obtain ⟨⟨oA, on, oc, os⟩, qA, qc, qs⟩ := x
  unfold KS.ab at hs0 hq0
  dsimp only at hs0 hq0 hxo
  rw [List.length_map] at hq0
  obtain rfl : on = 4 := by omega
  obtain ⟨b1, o1, hoA, hb1, r1⟩ := hx.o.2.ro (by rw [ints_len]; dsimp only; omega)
  dsimp only at hoA r1
  subst hoA
  obtain ⟨b2, o2, hqA, hb2, r2⟩ := hx.q.ro (by rw [List.length_map]; dsimp only; omega)
  dsimp only at hqA r2
  subst hqA
  replace hv : VA ⟨os, qs.map IS.xs⟩ := hv
  unfold KS.v IS.v
  dsimp only
  rw [hq0]
  refine enterR Try.func12 rfl rfl rfl fun a hs hm => ?_
  repeat (first | ((with_reducible refine toL hm ?_); (first | refine oneV hs gw_ rfl rfl (by intro w hm; (first | exact kv_ | exact r_look hs rfl rfl rfl hwf hmb2 hm (fun t => t))) ?_ | refine oneN hs rfl rfl rfl rfl rfl rfl rfl ?_ | refine oneU hs rfl rfl rfl rfl rfl rfl ?_); clear hs a; intro a hs) | ((with_reducible apply lCons); first | (refine dv hs gw_ rfl rfl da_ ?_; clear hs hm a; rintro _ w ⟨g, rfl, -, hm⟩ a hs) | (refine stn hs rfl rfl ds_ ?_; clear hs hm a; rintro - w hm a hs) ) | (with_reducible first | apply lNilThen | apply lNilBlock | apply lNil | apply wp_seq | apply wp_region_lit | apply wp_block | apply cExit | apply cRet | apply cSkip | apply gThen | apply gBlock | apply eThen | apply eBlockHit | refine eBlock rfl ?_ | apply rThen | apply rBlock) | ((with_reducible apply cCond); first | refine cTrue hs rfl bd_ ?_ | refine cFalse hs rfl bd_ ?_))
  obtain ⟨g1, en_⟩ := hs.pt 1 (by exact rfl); subst en_
  have hg1 := Hp.lt (hm.me _ (List.Mem.head _)) rfl
  have hbs := hm.fr.size
  refine dv hs (Wnt.none rfl) rfl rfl (d_makeMap rfl hm) ?_
  clear hs hm
  rintro _ w1 ⟨rfl, hmb, hfm, hm⟩ a hs
  obtain ⟨b, hb⟩ : ∃ b, b = w.heap.size := ⟨_, rfl⟩
  rw [← hb] at hs hmb hg1 hbs
  clear hfm hb
  have hF := hm.fr
  have q1 := hm.ro (k := 0) (n := 2) (g := g1) mem_ (cutF_ok rfl)
  clear hm
  have hm := Mm.nil (fun _ => False) w1
  repeat (first | ((with_reducible refine toL hm ?_); (first | refine oneV hs gw_ rfl rfl (by intro w hm; (first | exact kv_ | exact r_look hs rfl rfl rfl hwf hmb2 hm (fun t => t))) ?_ | refine oneN hs rfl rfl rfl rfl rfl rfl rfl ?_ | refine oneU hs rfl rfl rfl rfl rfl rfl ?_); clear hs a; intro a hs) | ((with_reducible apply lCons); first | (refine dv hs gw_ rfl rfl da_ ?_; clear hs hm a; rintro _ w ⟨g, rfl, -, hm⟩ a hs) | (refine stn hs rfl rfl ds_ ?_; clear hs hm a; rintro - w hm a hs) ) | (with_reducible first | apply lNilThen | apply lNilBlock | apply lNil | apply wp_seq | apply wp_region_lit | apply wp_block | apply cExit | apply cRet | apply cSkip | apply gThen | apply gBlock | apply eThen | apply eBlockHit | refine eBlock rfl ?_ | apply rThen | apply rBlock) | ((with_reducible apply cCond); first | refine cTrue hs rfl bd_ ?_ | refine cFalse hs rfl bd_ ?_))
  refine cLoop (X := VlX) (fun X a w' => Sl Try.f12.ntmps [(1, .pointer (some ⟨g1, 0, none⟩)), (3, .map (some b)), (20, .slice (some ⟨b1, o1, none⟩) 4 oc), (21, .int .i64 4), (22, .int .i64 (X.i : Int))] a ∧ Pu wB w' ∧ Ro w' g1 0 [.slice (some ⟨b1, o1, none⟩) 4 oc, .slice (some ⟨b2, o2, none⟩) 4 qc] ∧ MB b X.n X.f w' ∧ X.i ≤ 4 ∧ X.n ≤ 5 * X.i ∧ ∀ t, X.f t = true → t ∈ ((qs.map IS.xs).take X.i).flatten) (fun X => 4 - X.i) ⟨0, 0, fun _ => false⟩ ⟨hs.sub (Has.all ⟨rfl, rfl, rfl, rfl, rfl, trivial⟩), hF, q1, hmb, Nat.zero_le _, Nat.le_refl _, fun t h => by cases h⟩ ?_
  clear hs hm a hF q1 hmb
  rintro ⟨i, n, f⟩ a w' ⟨hs, hF, q1, hmb, hi, hn, hsub⟩
  dsimp only at *
  have hm := Mm.nil (fun _ => False) w'
  have hr1 : Ro w' b1 o1 (ints os) := fun j u hj => hF.cl (r1 j u hj) (fun t => t)
  have hr2 : Ro w' b2 o2 (qs.map IS.v) := fun j u hj => hF.cl (r2 j u hj) (fun t => t)
  by_cases hlt : i < 4
  · obtain ⟨q, hq⟩ : ∃ q, q = qs[i] := ⟨_, rfl⟩
    have hqm : q ∈ qs := by rw [hq]; exact List.getElem_mem _
    have hcell : (qs.map IS.v)[i]? = some (.slice q.A q.n q.c) := by rw [List.getElem?_map, List.getElem?_eq_getElem (by omega), hq]; rfl
    have hqo := hx.qs q hqm
    have hqx := hqo.1
    have hq4 := hv.len q.xs (List.mem_map_of_mem hqm)
    have hqd : (qs.map IS.xs).getD i [] = q.xs := by rw [List.getD_eq_getElem?_getD, List.getElem?_map, List.getElem?_eq_getElem (by omega), hq]; rfl
    obtain ⟨v, hvv⟩ : ∃ v, os[i] = v := ⟨_, rfl⟩
    have e1 := ints_some (xs := os) (k := i) (by omega)
    rw [hvv] at e1
    have hvb := hv.ob v (by rw [← hvv]; exact List.getElem_mem _)
    have hod : os.getD i 0 = v := by rw [getI (by omega), hvv]
    have hve : v = -1 → q.n = 0 := fun h => by
      have := hv.e i hlt (hod.trans h)
      dsimp only at this
      rw [hqd] at this
      rw [← hqx, this]
      rfl
    have hne : ∀ t ∈ q.xs, t ≠ v := fun t ht => by
      have := hv.ne i t hlt (by dsimp only; rw [hqd]; exact ht)
      dsimp only at this
      rwa [hod] at this
    have hqb := hv.qb q.xs (List.mem_map_of_mem hqm)
    have hlq : i < (qs.map IS.xs).length := by rw [List.length_map]; omega
    have hxi : (qs.map IS.xs)[i] = q.xs := by rw [List.getElem_map, hq]
    have hnd : ∀ j (hj : j < q.xs.length), q.xs[j] ∉ ((qs.map IS.xs).take i).flatten ++ q.xs.take j := fun j hj => by
      have h := nd_pre hv.nd (i := i) (j := j) hlq (by dsimp only; rw [hxi]; exact hj)
      dsimp only at h
      simp only [hxi] at h
      exact h
    have hve2 : v = -1 → ¬ (q.n : Int) > 0 := fun h => by rw [hve h]; omega
    by_cases c1 : v = -1
    · have hq0' := hve c1
      repeat (first | ((with_reducible refine toL hm ?_); (first | refine oneV hs gw_ rfl rfl (by intro w hm; (first | exact kv_ | exact r_look hs rfl rfl rfl hwf hmb2 hm (fun t => t))) ?_ | refine oneN hs rfl rfl rfl rfl rfl rfl rfl ?_ | refine oneU hs rfl rfl rfl rfl rfl rfl ?_); clear hs a; intro a hs) | ((with_reducible apply lCons); first | (refine dv hs gw_ rfl rfl da_ ?_; clear hs hm a; rintro _ w ⟨g, rfl, -, hm⟩ a hs) | (refine stn hs rfl rfl ds_ ?_; clear hs hm a; rintro - w hm a hs) ) | (with_reducible first | apply lNilThen | apply lNilBlock | apply lNil | apply wp_seq | apply wp_region_lit | apply wp_block | apply cExit | apply cRet | apply cSkip | apply gThen | apply gBlock | apply eThen | apply eBlockHit | refine eBlock rfl ?_ | apply rThen | apply rBlock) | ((with_reducible apply cCond); first | refine cTrue hs rfl bd_ ?_ | refine cFalse hs rfl bd_ ?_))
      refine cLoop (X := VlX) (fun X a w'' => Sl Try.f12.ntmps [(1, .pointer (some ⟨g1, 0, none⟩)), (3, .map (some b)), (20, .slice (some ⟨b1, o1, none⟩) 4 oc), (21, .int .i64 4), (22, .int .i64 (i : Int)), (5, .int .i64 v), (50, .slice q.A q.n q.c), (51, .int .i64 (q.n : Int)), (52, .int .i64 (X.i : Int))] a ∧ Pu wB w'' ∧ Ro w'' g1 0 [.slice (some ⟨b1, o1, none⟩) 4 oc, .slice (some ⟨b2, o2, none⟩) 4 qc] ∧ MB b X.n X.f w'' ∧ X.i ≤ q.n ∧ X.n ≤ 5 * i + X.i ∧ ∀ t, X.f t = true → t ∈ ((qs.map IS.xs).take i).flatten ++ q.xs.take X.i) (fun X => q.n - X.i) ⟨0, n, f⟩ ⟨hs.sub (Has.all ⟨rfl, rfl, rfl, rfl, rfl, rfl, rfl, rfl, rfl, trivial⟩), hF.pu hm.fr, q1, hmb, Nat.zero_le _, by dsimp only; omega, fun t h => List.mem_append_left _ (hsub t h)⟩ ?_
      clear hs hm a hF q1 hmb hsub
      rintro ⟨j, n2, f2⟩ a w2 ⟨hs, hF2, q2, hmb2, hj, hn2, hsub2⟩
      dsimp only at *
      have hm := Mm.nil (fun _ => False) w2
      by_cases hjn : j < q.n
      · skip
        exfalso
        omega
      · repeat (first | ((with_reducible refine toL hm ?_); (first | refine oneV hs gw_ rfl rfl (by intro w hm; (first | exact kv_ | exact r_look hs rfl rfl rfl hwf hmb2 hm (fun t => t))) ?_ | refine oneN hs rfl rfl rfl rfl rfl rfl rfl ?_ | refine oneU hs rfl rfl rfl rfl rfl rfl ?_); clear hs a; intro a hs) | ((with_reducible apply lCons); first | (refine dv hs gw_ rfl rfl da_ ?_; clear hs hm a; rintro _ w ⟨g, rfl, -, hm⟩ a hs) | (refine stn hs rfl rfl ds_ ?_; clear hs hm a; rintro - w hm a hs) ) | (with_reducible first | apply lNilThen | apply lNilBlock | apply lNil | apply wp_seq | apply wp_region_lit | apply wp_block | apply cExit | apply cRet | apply cSkip | apply gThen | apply gBlock | apply eThen | apply eBlockHit | refine eBlock rfl ?_ | apply rThen | apply rBlock) | ((with_reducible apply cCond); first | refine cTrue hs rfl bd_ ?_ | refine cFalse hs rfl bd_ ?_))
        refine ⟨⟨i + 1, n2, f2⟩, by dsimp only; omega, hs.sub (Has.all ⟨rfl, rfl, rfl, rfl, rfl, trivial⟩), hF2.pu hm.fr, fun j u hj => hm.fr.cl (q2 j u hj) (fun t => t), hmb2.keep hm.fr (fun t => t), by dsimp only; omega, by dsimp only; omega, fun t ht => ?_⟩
        dsimp only
        rw [List.take_succ_eq_append_getElem hlq, hxi, List.flatten_append, List.flatten_singleton]
        have := hsub2 t ht
        rwa [List.take_of_length_le (l := q.xs) (by omega)] at this
    · skip
      repeat (first | ((with_reducible refine toL hm ?_); (first | refine oneV hs gw_ rfl rfl (by intro w hm; (first | exact kv_ | exact r_look hs rfl rfl rfl hwf hmb2 hm (fun t => t))) ?_ | refine oneN hs rfl rfl rfl rfl rfl rfl rfl ?_ | refine oneU hs rfl rfl rfl rfl rfl rfl ?_); clear hs a; intro a hs) | ((with_reducible apply lCons); first | (refine dv hs gw_ rfl rfl da_ ?_; clear hs hm a; rintro _ w ⟨g, rfl, -, hm⟩ a hs) | (refine stn hs rfl rfl ds_ ?_; clear hs hm a; rintro - w hm a hs) ) | (with_reducible first | apply lNilThen | apply lNilBlock | apply lNil | apply wp_seq | apply wp_region_lit | apply wp_block | apply cExit | apply cRet | apply cSkip | apply gThen | apply gBlock | apply eThen | apply eBlockHit | refine eBlock rfl ?_ | apply rThen | apply rBlock) | ((with_reducible apply cCond); first | refine cTrue hs rfl bd_ ?_ | refine cFalse hs rfl bd_ ?_))
      refine cLoop (X := VlX) (fun X a w'' => Sl Try.f12.ntmps [(1, .pointer (some ⟨g1, 0, none⟩)), (3, .map (some b)), (20, .slice (some ⟨b1, o1, none⟩) 4 oc), (21, .int .i64 4), (22, .int .i64 (i : Int)), (5, .int .i64 v), (50, .slice q.A q.n q.c), (51, .int .i64 (q.n : Int)), (52, .int .i64 (X.i : Int))] a ∧ Pu wB w'' ∧ Ro w'' g1 0 [.slice (some ⟨b1, o1, none⟩) 4 oc, .slice (some ⟨b2, o2, none⟩) 4 qc] ∧ MB b X.n X.f w'' ∧ X.i ≤ q.n ∧ X.n ≤ 5 * i + X.i ∧ ∀ t, X.f t = true → t ∈ ((qs.map IS.xs).take i).flatten ++ q.xs.take X.i) (fun X => q.n - X.i) ⟨0, n, f⟩ ⟨hs.sub (Has.all ⟨rfl, rfl, rfl, rfl, rfl, rfl, rfl, rfl, rfl, trivial⟩), hF.pu hm.fr, q1, hmb, Nat.zero_le _, by dsimp only; omega, fun t h => List.mem_append_left _ (hsub t h)⟩ ?_
      clear hs hm a hF q1 hmb hsub
      rintro ⟨j, n2, f2⟩ a w2 ⟨hs, hF2, q2, hmb2, hj, hn2, hsub2⟩
      dsimp only at *
      have hm := Mm.nil (fun _ => False) w2
      by_cases hjn : j < q.n
      · skip
        obtain ⟨b3, o3, hA3, hb3, r3⟩ := (hqo.pu hF2).2.ro (by rw [ints_len]; omega)
        obtain ⟨u, hu⟩ : ∃ u, q.xs[j] = u := ⟨_, rfl⟩
        have e3 := ints_some (xs := q.xs) (k := j) (by omega)
        rw [hu] at e3
        have hum : u ∈ q.xs := by rw [← hu]; exact List.getElem_mem _
        have hub := hqb u hum
        have huv := hne u hum
        have hfu : f2 u = false := by
          cases hf : f2 u
          · rfl
          · exact absurd (hsub2 u hf) (by rw [← hu]; exact hnd j (by omega))
        have hwf : (Lit.int .i64 u).wf = true := by simp [Lit.wf, IntKind.min, IntKind.max, IntKind.signed, IntKind.bits]; omega
        rw [hA3] at hs
        repeat (first | ((with_reducible refine toL hm ?_); (first | refine oneV hs gw_ rfl rfl (by intro w hm; (first | exact kv_ | exact r_look hs rfl rfl rfl hwf hmb2 hm (fun t => t))) ?_ | refine oneN hs rfl rfl rfl rfl rfl rfl rfl ?_ | refine oneU hs rfl rfl rfl rfl rfl rfl ?_); clear hs a; intro a hs) | ((with_reducible apply lCons); first | (refine dv hs gw_ rfl rfl da_ ?_; clear hs hm a; rintro _ w ⟨g, rfl, -, hm⟩ a hs) | (refine stn hs rfl rfl ds_ ?_; clear hs hm a; rintro - w hm a hs) ) | (with_reducible first | apply lNilThen | apply lNilBlock | apply lNil | apply wp_seq | apply wp_region_lit | apply wp_block | apply cExit | apply cRet | apply cSkip | apply gThen | apply gBlock | apply eThen | apply eBlockHit | refine eBlock rfl ?_ | apply rThen | apply rBlock) | ((with_reducible apply cCond); first | refine cTrue hs rfl bd_ ?_ | refine cFalse hs rfl bd_ ?_))
        rw [hfu] at hs
        repeat (first | ((with_reducible refine toL hm ?_); (first | refine oneV hs gw_ rfl rfl (by intro w hm; (first | exact kv_ | exact r_look hs rfl rfl rfl hwf hmb2 hm (fun t => t))) ?_ | refine oneN hs rfl rfl rfl rfl rfl rfl rfl ?_ | refine oneU hs rfl rfl rfl rfl rfl rfl ?_); clear hs a; intro a hs) | ((with_reducible apply lCons); first | (refine dv hs gw_ rfl rfl da_ ?_; clear hs hm a; rintro _ w ⟨g, rfl, -, hm⟩ a hs) | (refine stn hs rfl rfl ds_ ?_; clear hs hm a; rintro - w hm a hs) ) | (with_reducible first | apply lNilThen | apply lNilBlock | apply lNil | apply wp_seq | apply wp_region_lit | apply wp_block | apply cExit | apply cRet | apply cSkip | apply gThen | apply gBlock | apply eThen | apply eBlockHit | refine eBlock rfl ?_ | apply rThen | apply rBlock) | ((with_reducible apply cCond); first | refine cTrue hs rfl bd_ ?_ | refine cFalse hs rfl bd_ ?_))
        refine stn hs rfl rfl (d_mapUp hs rfl rfl rfl rfl hwf (hmb2.keep hm.fr (fun t => t)) (by unfold maxLen; omega)) ?_
        clear hs
        rintro - w3 ⟨hmb3, hf3⟩ a hs
        have hF3 := (hF2.pu hm.fr).then hf3 (fun i hi (e : i = b) => by omega)
        have q3 : Ro w3 g1 0 [.slice (some ⟨b1, o1, none⟩) 4 oc, .slice (some ⟨b2, o2, none⟩) 4 qc] := fun j u hj => hf3.cl (hm.fr.cl (q2 j u hj) (fun t => t)) (fun (e : g1 = b) => by omega)
        clear hm
        have hm := Mm.nil (fun _ => False) w3
        rw [← hA3] at hs
        repeat (first | ((with_reducible refine toL hm ?_); (first | refine oneV hs gw_ rfl rfl (by intro w hm; (first | exact kv_ | exact r_look hs rfl rfl rfl hwf hmb2 hm (fun t => t))) ?_ | refine oneN hs rfl rfl rfl rfl rfl rfl rfl ?_ | refine oneU hs rfl rfl rfl rfl rfl rfl ?_); clear hs a; intro a hs) | ((with_reducible apply lCons); first | (refine dv hs gw_ rfl rfl da_ ?_; clear hs hm a; rintro _ w ⟨g, rfl, -, hm⟩ a hs) | (refine stn hs rfl rfl ds_ ?_; clear hs hm a; rintro - w hm a hs) ) | (with_reducible first | apply lNilThen | apply lNilBlock | apply lNil | apply wp_seq | apply wp_region_lit | apply wp_block | apply cExit | apply cRet | apply cSkip | apply gThen | apply gBlock | apply eThen | apply eBlockHit | refine eBlock rfl ?_ | apply rThen | apply rBlock) | ((with_reducible apply cCond); first | refine cTrue hs rfl bd_ ?_ | refine cFalse hs rfl bd_ ?_))
        refine ⟨⟨j + 1, n2 + 1, _⟩, by dsimp only; omega, hs.sub (Has.all ⟨rfl, rfl, rfl, rfl, rfl, rfl, rfl, rfl, rfl, trivial⟩), hF3.pu hm.fr, fun j u hj => hm.fr.cl (q3 j u hj) (fun t => t), hmb3.keep hm.fr (fun t => t), by dsimp only; omega, by dsimp only; omega, fun t ht => ?_⟩
        dsimp only at ht ⊢
        rw [List.take_succ_eq_append_getElem (show j < q.xs.length by omega), hu, ← List.append_assoc]
        rcases Bool.or_eq_true_iff.1 ht with h | h
        · exact List.mem_append_right _ (List.mem_singleton.2 (of_decide_eq_true h))
        · exact List.mem_append_left _ (hsub2 t h)
      · repeat (first | ((with_reducible refine toL hm ?_); (first | refine oneV hs gw_ rfl rfl (by intro w hm; (first | exact kv_ | exact r_look hs rfl rfl rfl hwf hmb2 hm (fun t => t))) ?_ | refine oneN hs rfl rfl rfl rfl rfl rfl rfl ?_ | refine oneU hs rfl rfl rfl rfl rfl rfl ?_); clear hs a; intro a hs) | ((with_reducible apply lCons); first | (refine dv hs gw_ rfl rfl da_ ?_; clear hs hm a; rintro _ w ⟨g, rfl, -, hm⟩ a hs) | (refine stn hs rfl rfl ds_ ?_; clear hs hm a; rintro - w hm a hs) ) | (with_reducible first | apply lNilThen | apply lNilBlock | apply lNil | apply wp_seq | apply wp_region_lit | apply wp_block | apply cExit | apply cRet | apply cSkip | apply gThen | apply gBlock | apply eThen | apply eBlockHit | refine eBlock rfl ?_ | apply rThen | apply rBlock) | ((with_reducible apply cCond); first | refine cTrue hs rfl bd_ ?_ | refine cFalse hs rfl bd_ ?_))
        refine ⟨⟨i + 1, n2, f2⟩, by dsimp only; omega, hs.sub (Has.all ⟨rfl, rfl, rfl, rfl, rfl, trivial⟩), hF2.pu hm.fr, fun j u hj => hm.fr.cl (q2 j u hj) (fun t => t), hmb2.keep hm.fr (fun t => t), by dsimp only; omega, by dsimp only; omega, fun t ht => ?_⟩
        dsimp only
        rw [List.take_succ_eq_append_getElem hlq, hxi, List.flatten_append, List.flatten_singleton]
        have := hsub2 t ht
        rwa [List.take_of_length_le (l := q.xs) (by omega)] at this
  · repeat (first | ((with_reducible refine toL hm ?_); (first | refine oneV hs gw_ rfl rfl (by intro w hm; (first | exact kv_ | exact r_look hs rfl rfl rfl hwf hmb2 hm (fun t => t))) ?_ | refine oneN hs rfl rfl rfl rfl rfl rfl rfl ?_ | refine oneU hs rfl rfl rfl rfl rfl rfl ?_); clear hs a; intro a hs) | ((with_reducible apply lCons); first | (refine dv hs gw_ rfl rfl da_ ?_; clear hs hm a; rintro _ w ⟨g, rfl, -, hm⟩ a hs) | (refine stn hs rfl rfl ds_ ?_; clear hs hm a; rintro - w hm a hs) ) | (with_reducible first | apply lNilThen | apply lNilBlock | apply lNil | apply wp_seq | apply wp_region_lit | apply wp_block | apply cExit | apply cRet | apply cSkip | apply gThen | apply gBlock | apply eThen | apply eBlockHit | refine eBlock rfl ?_ | apply rThen | apply rBlock) | ((with_reducible apply cCond); first | refine cTrue hs rfl bd_ ?_ | refine cFalse hs rfl bd_ ?_))
    exact gRet1 hs rfl rfl ⟨rfl, hF.pu hm.fr⟩
end Go.Proofs.Ytfcmejcmijjnpaa
