/- Step: its first statement, which copies the watch, by an invariant. -/
import Derived.Test.YtlgimjinaijhlaaWat3
import Derived.Test.YtlgimjinaijhlaaInv
import Derived.Deep.DeepCutAuto
import Derived.WalkMore
namespace Go.Proofs.Ytlgimjinaijhlaa
open Go.RowKit

theorem row_set {cur : Array Value} {n i : Nat} {xs : List Int} {v : Int} (h : cur.toList.take n = ints xs) : (cur.setIfInBounds i (.int .i64 v)).toList.take n = ints (xs.set i v) := by
  rw [Array.toList_setIfInBounds, List.take_set, h]; simp [ints, List.map_set]
theorem upI_len (k : Int) (ms : List Int) (ia ib : List Bool) (i : Nat) (s : Int) : (upI k ms ia ib i s).length ≤ i := by
  induction ms generalizing ia ib i s with
  | nil => simp [upI]
  | cons m ms ih =>
    cases ia with
    | nil => simp [upI]
    | cons a ia =>
      cases ib with
      | nil => simp [upI]
      | cons b ib =>
        cases i with
        | zero => simp [upI]
        | succ i =>
          have := ih ia ib i (s + 1)
          simp only [upI, List.length_append]
          split <;> simp <;> omega
def StpF (k : Int) (A : Option Addr) (n c B : Nat) (ms : List Int) (W0 : World) (L : Nat → Bool) (x9 x13 x14 x15 x16 x17 x18 : Value) (p g cap : Nat) (cur : Array Value) (u : World) : Prop :=
  Pu W0 u
      ∧ (L 0 = true → x13 = .pointer (some ⟨B, 0, none⟩)) ∧ (L 1 = true → x14 = .int .i64 k) ∧ (L 2 = true → x15 = .pointer (some ⟨B, 1, none⟩)) ∧ (L 3 = true → x16 = .slice A n c)
      ∧ (L 4 = true → x17 = .slice (some ⟨g, 0, none⟩) n cap ∧ Blk u g 3 cur ∧ n ≤ cur.size ∧ cur.toList.take n = ints ms ∧ W0.heap.size ≤ g)
      ∧ (L 5 = true → x18 = .agg #[.int .i64 k, .slice (some ⟨g, 0, none⟩) n cap])
      ∧ (L 6 = true → x9 = .pointer (some ⟨p, 0, none⟩) ∧ Blk u p 24 (if L 7 = true then #[.int .i64 k, .slice (some ⟨g, 0, none⟩) n cap] else #[.int .i64 0, .slice none 0 0]) ∧ W0.heap.size ≤ p)
      ∧ (L 4 = true → L 6 = true → p ≠ g) ∧ (L 7 = true → L 6 = true) ∧ (L 5 = true → L 4 = true) ∧ (L 7 = true → L 5 = true)
def StpI (k : Int) (A : Option Addr) (n c B : Nat) (ms : List Int) (W0 : World) (a : Act) (L : Nat → Bool) (b : Act) (u : World) : Prop :=
  ∃ (x9 x13 x14 x15 x16 x17 x18 : Value) (p g cap : Nat) (cur : Array Value), b = ((((((a.put (some 9) x9).put (some 13) x13).put (some 14) x14).put (some 15) x15).put (some 16) x16).put (some 17) x17).put (some 18) x18 ∧ StpF k A n c B ms W0 L x9 x13 x14 x15 x16 x17 x18 p g cap cur u

set_option maxRecDepth 100000 in
set_option maxHeartbeats 4000000 in
theorem step_ok (k : Int) (A Aa Ab : Option Addr) (n c ca cb : Nat) (ms : List Int) (ia ib : List Bool) (w : World) (hn : 1 ≤ n) (hn5 : n ≤ 5) (hk : 0 ≤ k ∧ k ≤ 20) (hl : ms.length = n) (hla : ia.length = n) (hlb : ib.length = n) (hx : ∀ x ∈ ms, 0 ≤ x ∧ x ≤ k)
    (hr : Rd w w.heap.size A (ints ms)) (hra : Rd w w.heap.size Aa (ia.map Value.bool)) (hrb : Rd w w.heap.size Ab (ib.map Value.bool)) :
    Calls Try.prog 10 #[.agg #[.int .i64 k, .slice A n c], .slice Aa n ca, .slice Ab n cb] w fun e w' => ∃ A' c' Ag cg, e = .returned (.tuple #[.agg #[.int .i64 k, .slice A' n c'], .slice Ag (upI k ms ia ib n 0).length cg, .int .i64 0]) ∧ Rd w' w'.heap.size A' (ints (toI k ms ia ib n)) ∧ Rd w' w'.heap.size Ag (ints (upI k ms ia ib n 0)) ∧ Pu w w' ∧ (∀ b o, A' = some ⟨b, o, none⟩ → w.heap.size ≤ b) := by
  have HF : Pu w ((w.alloc (.cells #[.int .i64 k, .slice A n c] 24)).alloc (.cells #[.int .i64 0, .slice none 0 0] 24)) := ((Fr.refl _ w).alloc _).alloc _
  have HK : Kp [(w.heap.size + 1, 24, #[.int .i64 0, .slice none 0 0]), (w.heap.size, 24, #[.int .i64 k, .slice A n c])] ((w.alloc (.cells #[.int .i64 k, .slice A n c] 24)).alloc (.cells #[.int .i64 0, .slice none 0 0] 24)) := by
    have := ((Kp.nil w).new 24 #[.int .i64 k, .slice A n c]).new 24 #[.int .i64 0, .slice none 0 0]
    simpa using this
  have hr0 := HF.rd' hr
  have hsz : ((w.alloc (.cells #[.int .i64 k, .slice A n c] 24)).alloc (.cells #[.int .i64 0, .slice none 0 0] 24)).heap.size = w.heap.size + 2 := by simp
  obtain ⟨k1, k2⟩ := hk
  go_enter Try.func10, Try.ntmps10
  go_upto_region 1 with fail
  go_step3
  go_upto_region 1 with fail

  generalize hW0 : ((w.alloc (.cells #[.int .i64 k, .slice A n c] 24)).alloc (.cells #[.int .i64 0, .slice none 0 0] 24)) = W0 at *
  go_cut [9] (fun x u => ∃ (p g cap : Nat) (cur : Array Value), x = .pointer (some ⟨p, 0, none⟩) ∧ Blk u p 24 #[.int .i64 k, .slice (some ⟨g, 0, none⟩) n cap] ∧ Blk u g 3 cur ∧ n ≤ cur.size ∧ cur.toList.take n = ints ms ∧ p ≠ g ∧ W0.heap.size ≤ p ∧ W0.heap.size ≤ g ∧ Pu W0 u)
  case first =>
    refine wp_region_inv (StpI k A n c w.heap.size ms W0) (by kernel_rfl) (by kernel_rfl) ?_ ?_ ?_
    · refine ⟨undef, undef, undef, undef, undef, undef, undef, 0, 0, 0, #[], by go_simp, (Fr.refl _ W0).drew, ?_⟩
      simp
    · intro L b u i ⟨x9, x13, x14, x15, x16, x17, x18, p, g, cap, cur, hb, hF0⟩ hi h0 hl'
      subst hb
      replace hi : i < 8 := hi
      clear hra hrb hla hlb hx
      rcases (by omega : i = 0 ∨ i = 1 ∨ i = 2 ∨ i = 3 ∨ i = 4 ∨ i = 5 ∨ i = 6 ∨ i = 7) with rfl | rfl | rfl | rfl | rfl | rfl | rfl | rfl
      · -- step 0
        clear hl' hi
        replace hF0 := Lib.hid hF0
        refine wpOp_step (by simp only [List.getElem?_toArray, List.getElem?_cons_zero]; rfl) (fun K hK => ?_)
        replace hK := Lib.hid hK
        clear HK hW0 HF hr hr0 hsz
        go_simp
        obtain ⟨hu, e0, e1, e2, e3, e4, e5, e6, n1, m7, m5, m8⟩ := hF0.out
        exact hK.out _ _ ⟨x9, _, x14, x15, x16, x17, x18, p, g, cap, cur, by go_simp, hu, fun _ => rfl, e1, e2, e3, e4, e5, e6, n1, m7, m5, m8⟩
      · -- step 1
        have hlo := fun e he => hl' _ (by simp only [List.getElem?_toArray, List.getElem?_cons_succ, List.getElem?_cons_zero]; rfl) e he
        have l0 : L 0 = true := hlo ⟨0, .data⟩ (by simp) rfl
        clear hlo
        clear hl' hi
        replace hF0 := Lib.hid hF0
        have ex : x13 = .pointer (some ⟨w.heap.size, 0, none⟩) := by obtain ⟨hu, e0, e1, e2, e3, e4, e5, e6, n1, m7, m5, m8⟩ := hF0.out; exact e0 l0
        subst ex
        have q0 : u.cell? ⟨w.heap.size, 0, none⟩ = some (.int .i64 k) := (HK.pu hF0.out.1).at_ (t := 24) (cs := #[.int .i64 k, .slice A n c]) (by simp) 0
        refine wpOp_step (by simp only [List.getElem?_toArray, List.getElem?_cons_succ, List.getElem?_cons_zero]; rfl) (fun K hK => ?_)
        replace hK := Lib.hid hK
        clear HK hW0 HF hr hr0 hsz
        go_simp
        obtain ⟨hu, e0, e1, e2, e3, e4, e5, e6, n1, m7, m5, m8⟩ := hF0.out
        exact hK.out _ _ ⟨x9, _, _, x15, x16, x17, x18, p, g, cap, cur, by go_simp, hu, fun _ => rfl, fun _ => rfl, e2, e3, e4, e5, e6, n1, m7, m5, m8⟩
      · -- step 2
        clear hl' hi
        replace hF0 := Lib.hid hF0
        refine wpOp_step (by simp only [List.getElem?_toArray, List.getElem?_cons_succ, List.getElem?_cons_zero]; rfl) (fun K hK => ?_)
        replace hK := Lib.hid hK
        clear HK hW0 HF hr hr0 hsz
        go_simp
        obtain ⟨hu, e0, e1, e2, e3, e4, e5, e6, n1, m7, m5, m8⟩ := hF0.out
        exact hK.out _ _ ⟨x9, x13, x14, _, x16, x17, x18, p, g, cap, cur, by go_simp, hu, e0, e1, fun _ => rfl, e3, e4, e5, e6, n1, m7, m5, m8⟩
      · -- step 3
        have hlo := fun e he => hl' _ (by simp only [List.getElem?_toArray, List.getElem?_cons_succ, List.getElem?_cons_zero]; rfl) e he
        have l2 : L 2 = true := hlo ⟨2, .data⟩ (by simp) rfl
        clear hlo
        clear hl' hi
        replace hF0 := Lib.hid hF0
        have ex : x15 = .pointer (some ⟨w.heap.size, 1, none⟩) := by obtain ⟨hu, e0, e1, e2, e3, e4, e5, e6, n1, m7, m5, m8⟩ := hF0.out; exact e2 l2
        subst ex
        have q0 : u.cell? ⟨w.heap.size, 1, none⟩ = some (.slice A n c) := (HK.pu hF0.out.1).at_ (t := 24) (cs := #[.int .i64 k, .slice A n c]) (by simp) 1
        refine wpOp_step (by simp only [List.getElem?_toArray, List.getElem?_cons_succ, List.getElem?_cons_zero]; rfl) (fun K hK => ?_)
        replace hK := Lib.hid hK
        clear HK hW0 HF hr hr0 hsz
        go_simp
        obtain ⟨hu, e0, e1, e2, e3, e4, e5, e6, n1, m7, m5, m8⟩ := hF0.out
        exact hK.out _ _ ⟨x9, x13, x14, _, _, x17, x18, p, g, cap, cur, by go_simp, hu, e0, e1, fun _ => rfl, fun _ => rfl, e4, e5, e6, n1, m7, m5, m8⟩
      · -- step 4
        have hlo := fun e he => hl' _ (by simp only [List.getElem?_toArray, List.getElem?_cons_succ, List.getElem?_cons_zero]; rfl) e he
        have l3 : L 3 = true := hlo ⟨3, .data⟩ (by simp) rfl
        clear hlo
        clear hl' hi
        replace hF0 := Lib.hid hF0
        have ex : x16 = .slice A n c := by obtain ⟨hu, e0, e1, e2, e3, e4, e5, e6, n1, m7, m5, m8⟩ := hF0.out; exact e3 l3
        subst ex
        have hcl := clone_c A n c ms u hl hn hn5 (hF0.out.1.rd' hr0)
        refine wpOp_step (by simp only [List.getElem?_toArray, List.getElem?_cons_succ, List.getElem?_cons_zero]; rfl) (fun K hK => ?_)
        replace hK := Lib.hid hK
        clear HK hW0 HF hr hr0 hsz
        go_wp2_with fail
        refine hcl.mono ?_
        rintro e u' ⟨g', cap', cur', rfl, hg', hB', hs', ht', hf⟩
        obtain ⟨hu, e0, e1, e2, e3, e4, e5, e6, n1, m7, m5, m8⟩ := hF0.out
        go_wp2_with fail
        have h5 : ¬ L 5 = true := fun h => by rw [m5 h] at h0; cases h0
        have h7 : ¬ L 7 = true := fun h => h5 (m8 h)
        exact hK.out _ _ ⟨x9, x13, x14, x15, _, _, x18, p, g', cap', cur', by go_simp, hu.pu hf, e0, e1, e2, fun _ => rfl, fun _ => ⟨rfl, hB', hs', ht', Nat.le_trans hu.size hg'⟩, fun l => absurd l h5, fun l => ⟨(e6 l).1, by have h := hf.blk (e6 l).2.1 (fun t => t); rw [if_neg h7] at h; rw [if_neg (show ¬ (if (7 : Nat) = 4 then true else L 7) = true from h7)]; exact h, (e6 l).2.2⟩, fun _ l => by have := (e6 l).2.1.lt; omega, m7, fun l => absurd l h5, fun l => absurd l h7⟩
      · -- step 5
        have hlo := fun e he => hl' _ (by simp only [List.getElem?_toArray, List.getElem?_cons_succ, List.getElem?_cons_zero]; rfl) e he
        have l1 : L 1 = true := hlo ⟨1, .data⟩ (by simp) rfl
        have l4 : L 4 = true := hlo ⟨4, .data⟩ (by simp) rfl
        clear hlo
        clear hl' hi
        replace hF0 := Lib.hid hF0
        have ex : x14 = .int .i64 k := by obtain ⟨hu, e0, e1, e2, e3, e4, e5, e6, n1, m7, m5, m8⟩ := hF0.out; exact e1 l1
        subst ex
        have ex : x17 = .slice (some ⟨g, 0, none⟩) n cap := by obtain ⟨hu, e0, e1, e2, e3, e4, e5, e6, n1, m7, m5, m8⟩ := hF0.out; exact (e4 l4).1
        subst ex
        refine wpOp_step (by simp only [List.getElem?_toArray, List.getElem?_cons_succ, List.getElem?_cons_zero]; rfl) (fun K hK => ?_)
        replace hK := Lib.hid hK
        clear HK hW0 HF hr hr0 hsz
        go_simp
        obtain ⟨hu, e0, e1, e2, e3, e4, e5, e6, n1, m7, m5, m8⟩ := hF0.out
        exact hK.out _ _ ⟨x9, x13, _, x15, x16, _, _, p, g, cap, cur, by go_simp, hu, e0, e1, e2, e3, e4, fun _ => rfl, e6, n1, m7, fun _ => l4, fun _ => rfl⟩
      · -- step 6
        clear hl' hi
        replace hF0 := Lib.hid hF0
        refine wpOp_step (by simp only [List.getElem?_toArray, List.getElem?_cons_succ, List.getElem?_cons_zero]; rfl) (fun K hK => ?_)
        replace hK := Lib.hid hK
        clear HK hW0 HF hr hr0 hsz
        go_simp
        obtain ⟨hu, e0, e1, e2, e3, e4, e5, e6, n1, m7, m5, m8⟩ := hF0.out
        have h9 : L 7 = false := by rw [Bool.eq_false_iff]; intro h; rw [m7 h] at h0; cases h0
        exact hK.out _ _ ⟨_, x13, x14, x15, x16, x17, x18, u.heap.size, g, cap, cur, by go_simp, hu.alloc _, e0, e1, e2, e3, fun l => ⟨(e4 l).1, (e4 l).2.1.alloc _, (e4 l).2.2⟩, e5, fun _ => ⟨rfl, by rw [if_neg (by show ¬ L 7 = true; rw [h9]; decide)]; exact Blk.new u _ _, hu.size⟩, fun l _ => by have := (e4 l).2.1.lt; omega, fun _ => rfl, m5, m8⟩
      · -- step 7
        have hlo := fun e he => hl' _ (by simp only [List.getElem?_toArray, List.getElem?_cons_succ, List.getElem?_cons_zero]; rfl) e he
        have l6 : L 6 = true := hlo ⟨6, .data⟩ (by simp) rfl
        have l5 : L 5 = true := hlo ⟨5, .data⟩ (by simp) rfl
        clear hlo
        clear hl' hi
        replace hF0 := Lib.hid hF0
        obtain ⟨hu, e0, e1, e2, e3, e4, e5, e6, n1, m7, m5, m8⟩ := hF0.out
        obtain ⟨ep, Bp, zp⟩ := e6 l6
        have ex := e5 l5
        subst ep; subst ex
        rw [if_neg (by rw [h0]; decide)] at Bp
        have q8 : u.cell? ⟨p, 0, none⟩ = some (.int .i64 0) := Bp.cell 0
        have q9 : u.cell? ⟨p, 1, none⟩ = some (.slice none 0 0) := Bp.cell 1
        have f0 : u.frozen? ⟨p, 0, none⟩ = false := Bp.frozen 0
        have f1 : u.frozen? ⟨p, 1, none⟩ = false := Bp.frozen 1
        clear hF0 HK hW0 HF hr hr0 hsz
        replace hu := Lib.hid hu
        replace e0 := Lib.hid e0
        replace e1 := Lib.hid e1
        replace e2 := Lib.hid e2
        replace e3 := Lib.hid e3
        replace e4 := Lib.hid e4
        replace e5 := Lib.hid e5
        replace e6 := Lib.hid e6
        replace n1 := Lib.hid n1
        replace m7 := Lib.hid m7
        replace m5 := Lib.hid m5
        replace m8 := Lib.hid m8
        replace Bp := Lib.hid Bp
        replace zp := Lib.hid zp
        refine wpOp_step (by simp only [List.getElem?_toArray, List.getElem?_cons_succ, List.getElem?_cons_zero]; rfl) (fun K hK => ?_)
        replace hK := Lib.hid hK
        go_simp
        exact hK.out _ _ ⟨_, x13, x14, x15, x16, x17, _, p, g, cap, cur, by go_simp, (hu.out.setCell (p := ⟨p, 0, none⟩) (.inr zp.out) _).setCell (p := ⟨p, 1, none⟩) (.inr zp.out) _, e0.out, e1.out, e2.out, e3.out, fun l => ⟨(e4.out l).1, ((e4.out l).2.1.far (p := ⟨p, 0, none⟩) (fun e => n1.out l l6 e.symm) _).far (p := ⟨p, 1, none⟩) (fun e => n1.out l l6 e.symm) _, (e4.out l).2.2⟩, fun _ => rfl, fun _ => ⟨rfl, by rw [if_pos (by show (if (7 : Nat) = 7 then true else L 7) = true; rfl)]; have h := (Bp.out.set_ 0 (.int .i64 k)).set_ 1 (.slice (some ⟨g, 0, none⟩) n cap); simpa using h, zp.out⟩, n1.out, fun _ => l6, m5.out, fun _ => l5⟩
    · intro L b u hL ⟨x9, x13, x14, x15, x16, x17, x18, p, g, cap, cur, hb, hu, e0, e1, e2, e3, e4, e5, e6, n1, m7, m5, m8⟩
      subst hb
      obtain ⟨rfl, Bp, zp⟩ := e6 (hL 6 (by decide))
      obtain ⟨_, Bg, s1, s2, zg⟩ := e4 (hL 4 (by decide))
      rw [if_pos (hL 7 (by decide))] at Bp
      have hpg := n1 (hL 4 (by decide)) (hL 6 (by decide))
      clear e0 e1 e2 e3 e4 e5 e6 n1 m7 m5 m8 hL HK hW0
      go_simp
      go_wp2_with fail
      go_meet
      exact ⟨p, g, cap, cur, rfl, Bp, Bg, s1, s2, hpg, zp, zg, hu⟩
  case rest =>
    obtain ⟨p, g, cap, cur, rfl, Bp, Bg, s1, s2, hpg, zp, zg, hf⟩ := hcut
    have Kw := HK.pu hf
    have b0 : (wc).cell? ⟨w.heap.size, 0, none⟩ = some (.int .i64 k) := Kw.at_ (g := w.heap.size) (t := 24) (cs := #[.int .i64 k, .slice A n c]) (by simp) 0
    have b1 : (wc).cell? ⟨w.heap.size, 1, none⟩ = some (.slice A n c) := Kw.at_ (g := w.heap.size) (t := 24) (cs := #[.int .i64 k, .slice A n c]) (by simp) 1
    have hck := check_ok A n c ms k wc hl hn hn5 ⟨k1, k2⟩ hx (hf.rd' hr0)
    have HFc : Pu w wc := HF.pu hf
    clear HK HF hr0 hr hW0
    replace Kw := Lib.hid Kw
    replace hf := Lib.hid hf
    go_wp2_with fail
    refine hck.mono ?_
    rintro e w1 ⟨rfl, hf1⟩
    have K1 := Kw.out.pu hf1
    clear b0 b1 hck
    have b0 : (w1).cell? ⟨w.heap.size, 0, none⟩ = some (.int .i64 k) := K1.at_ (g := w.heap.size) (t := 24) (cs := #[.int .i64 k, .slice A n c]) (by simp) 0
    have b1 : (w1).cell? ⟨w.heap.size, 1, none⟩ = some (.slice A n c) := K1.at_ (g := w.heap.size) (t := 24) (cs := #[.int .i64 k, .slice A n c]) (by simp) 1
    have Bp1 := hf1.blk Bp (fun t => t)
    have Bg1 := hf1.blk Bg (fun t => t)
    have HF1 : Pu w w1 := HFc.pu hf1
    have p0 : w1.cell? ⟨p, 0, none⟩ = some (.int .i64 k) := Bp1.cell 0
    have p1 : w1.cell? ⟨p, 1, none⟩ = some (.slice (some ⟨g, 0, none⟩) n cap) := Bp1.cell 1
    have gl := Bg1.lt
    have pl := Bp1.lt
    have wp : w.heap.size + 2 ≤ p := by omega
    have wg : w.heap.size + 2 ≤ g := by omega
    have w1s : w.heap.size + 2 ≤ w1.heap.size := by omega
    have Bt1 : Blk w1 (w.heap.size + 1) 24 #[.int .i64 0, .slice none 0 0] := K1 (w.heap.size + 1, 24, #[.int .i64 0, .slice none 0 0]) (by simp)
    clear Bp Bg HFc hsz zp zg K1
    replace Kw := Lib.hid hf1
    clear hf1
    replace Bp1 := Lib.hid Bp1
    replace Bt1 := Lib.hid Bt1
    go_wp2_with fail
    go_step3
    go_wp2_with fail
    obtain ⟨i0, hi, hz0, hz1, hz2⟩ := info_parts Try.infoI
    replace hi := Lib.hid hi; replace hz0 := Lib.hid hz0; replace hz1 := Lib.hid hz1; replace hz2 := Lib.hid hz2
    go_loopw [11, 43] (fun gv iv wr => ∃ (i : Nat) (cur' : Array Value), i ≤ n ∧ iv = .int .i64 i ∧ Blk wr g 3 cur' ∧ n ≤ cur'.size ∧ cur'.toList.take n = ints (toI k ms ia ib i) ∧ wr.ownsRow w1.heap.size 3 1 gv (upI k ms ia ib i 0).length (ints (upI k ms ia ib i 0)) ∧ Fr (fun j => j = g) w1 wr) (fun _ iv _ => n - (intOf iv).toNat)
    case atStart =>
      exact ⟨0, cur, by omega, rfl, Bg1, s1, by rw [toI_zero]; exact s2, by rw [upI_zero]; exact ⟨rfl, .inl ⟨rfl, rfl⟩⟩, Fr.refl _ _⟩
    case round =>
      obtain ⟨i, cur', hin, rfl, BG, z1, z2, hown, hF⟩ := hrel
      have P0 := hF.cl p0 hpg
      have P1 := hF.cl p1 hpg
      have Q0 := hF.cl b0 (by show ¬ w.heap.size = g; omega)
      have gl' := BG.lt
      obtain ⟨AV, AC, rfl, hAC⟩ := own_form hown
      have hFw : Fr (fun j => j = g) w wr := (Fr.of_pu HF1).then hF (fun _ _ h => h)
      by_cases hlt : i < n
      · have hml : ms[i]? = some (ms[i]'(by omega)) := List.getElem?_eq_getElem (by omega)
        have hal : ia[i]? = some (ia[i]'(by omega)) := List.getElem?_eq_getElem (by omega)
        have hbl : ib[i]? = some (ib[i]'(by omega)) := List.getElem?_eq_getElem (by omega)
        have hm0 := hx _ (List.getElem_mem (show i < ms.length by omega))
        have hst := Lib.hid (toI_step k ms ia ib i _ _ _ hml hal hbl)
        have hsu := Lib.hid (upI_step k ms ia ib i 0 _ _ _ hml hal hbl)
        have hold : (toI k ms ia ib i)[i]? = some (ms[i]'(by omega)) := by rw [toI_old _ _ _ _ _ _ (Nat.le_refl _), hml]
        obtain ⟨ba, oa, ea, _, hca⟩ := Rd.at_ (hFw.rd hra (Nat.le_refl _) (fun j hj (e : j = g) => by omega)) (k := i) (by simp; omega)
        obtain ⟨bb, ob, eb, _, hcb⟩ := Rd.at_ (hFw.rd hrb (Nat.le_refl _) (fun j hj (e : j = g) => by omega)) (k := i) (by simp; omega)
        rw [List.getElem_map] at hca hcb
        have hcm : wr.cell? ⟨g, i, none⟩ = some (.int .i64 (ms[i]'(by omega))) := by
          rw [BG.cell, ← Array.getElem?_toList]
          have h : (cur'.toList.take n)[i]? = some (.int .i64 (ms[i]'(by omega))) := by rw [z2]; unfold ints; rw [List.getElem?_map, hold]; rfl
          rwa [List.getElem?_take, if_pos hlt] at h
        have hfz := BG.frozen i
        generalize ms[i]'(by omega) = m at *
        generalize ia[i]'(by omega) = xa at *
        generalize ib[i]'(by omega) = xb at *
        subst ea
        subst eb
        obtain ⟨m1, m2⟩ := hm0
        have HOW : Hid (∀ W2, Fr (fun j => j = g) wr W2 → W2.ownsRow w1.heap.size 3 1 (.slice AV (upI k ms ia ib i 0).length AC) (upI k ms ia ib i 0).length (ints (upI k ms ia ib i 0))) := fun W2 h => h.own hown (fun j hj (e : j = g) => by have := (hown.lt j hj).1; omega)
        have hub := Lib.hid (upI_len k ms ia ib i 0)
        clear hml hal hbl hold hra hrb hx hFw hown s1 s2 Bg1 HF1 p0 p1 b0 b1 hf Kw
        replace BG := Lib.hid BG
        replace hF := Lib.hid hF
        replace z2 := Lib.hid z2
        cases xa with
        | false =>
          go_wp2_with fail
          go_roundw
          case rel =>
            refine ⟨i + 1, cur'.setIfInBounds i (.int .i64 0), by omega, by go_num, BG.out.set_ i _, by simpa using z1, ?_, ?_, hF.out.setCell (p := ⟨g, i, none⟩) (.inl rfl) _⟩
            · rw [hst.out, row_set z2.out]; rfl
            · rw [hsu.out]; exact (by simpa [lost] using HOW.out _ ((Fr.refl (fun j => j = g) wr).setCell (p := ⟨g, i, none⟩) (.inl rfl) _))
          case measure => simp [intOf]; omega
        | true =>
          cases xb with
          | true =>
            go_wp2_with fail
            go_roundw
            case rel =>
              refine ⟨i + 1, cur'.setIfInBounds i (.int .i64 0), by omega, by go_num, BG.out.set_ i _, by simpa using z1, ?_, ?_, hF.out.setCell (p := ⟨g, i, none⟩) (.inl rfl) _⟩
              · rw [hst.out, row_set z2.out]; rfl
              · rw [hsu.out]; exact (by simpa [lost] using HOW.out _ ((Fr.refl (fun j => j = g) wr).setCell (p := ⟨g, i, none⟩) (.inl rfl) _))
            case measure => simp [intOf]; omega
          | false =>
            by_cases hmk : m + 1 ≤ k
            · go_wp2_with fail
              go_quiet (fail)
              go_wp2_with fail
              go_roundw
              case rel =>
                have hfr : Fr (fun j => j = g) wr (wr.setCell ⟨g, i, none⟩ (.int .i64 (m + 1))) := (Fr.refl (fun j => j = g) wr).setCell (p := ⟨g, i, none⟩) (.inl rfl) _
                refine ⟨i + 1, cur'.setIfInBounds i (.int .i64 (m + 1)), by omega, by go_num, (BG.out.set_ i _).drewN _, by simpa using z1, ?_, ?_, (hF.out.setCell (p := ⟨g, i, none⟩) (.inl rfl) _).drewN _⟩
                · rw [hst.out, row_set z2.out]; simp [one, hmk]
                · rw [hsu.out]
                  have hl0 : lost k m true false = false := by simp [lost]; omega
                  simp only [hl0, Bool.false_eq_true, if_false, List.append_nil]
                  exact HOW.out _ (hfr.drewN _)
              case measure => simp [intOf]; omega
            · go_wp2_with fail
              go_quiet (fail)
              have hfr : Fr (fun j => j = g) wr (wr.setCell ⟨g, i, none⟩ (.int .i64 (m + 1))) := (Fr.refl (fun j => j = g) wr).setCell (p := ⟨g, i, none⟩) (.inl rfl) _
              rename_i nq
              have hfr2 := hfr.drewN nq
              have BG2 : Blk ((wr.setCell ⟨g, i, none⟩ (.int .i64 (m + 1))).drewN nq) g 3 (cur'.setIfInBounds i (.int .i64 (m + 1))) := (BG.out.set_ i _).drewN nq
              have HO2 := HOW.out _ hfr2
              have F2 : Fr (fun j => j = g) w1 ((wr.setCell ⟨g, i, none⟩ (.int .i64 (m + 1))).drewN nq) := (hF.out.setCell (p := ⟨g, i, none⟩) (.inl rfl) _).drewN nq
              have P2 : ((wr.setCell ⟨g, i, none⟩ (.int .i64 (m + 1))).drewN nq).cell? ⟨p, 1, none⟩ = some (.slice (some ⟨g, 0, none⟩) n cap) := hfr2.cl P1 hpg
              generalize (wr.setCell ⟨g, i, none⟩ (.int .i64 (m + 1))).drewN nq = W2 at *
              clear hfr hcm hfz P0 P1 Q0 hca hcb hfr2 HOW BG hF
              have hub' := hub.out
              have hlt2 := HO2.lt
              have hsz2 := F2.size
              go_wp2_with (at_builtin; refine wpList_app1 rfl _ _ 22 rfl w1.heap.size 3 i0 (.int .i64 0) 1 8 Try.underlying22 hi.out hz0.out hz1.out hz2.out rfl (by decide) _ _ _ rfl HO2 _ rfl rfl (by intro u hu; simp at hu; subst hu; rfl) (by unfold maxLen; omega) (by omega) hsz2 ?_)
              intro v' w5 hown5 hf5 hnew
              have BG5 := hf5.blk BG2 (fun h => by have := (hlt2 g h).1; omega)
              have P5 : w5.cell? ⟨p, 1, none⟩ = some (.slice (some ⟨g, 0, none⟩) n cap) := hf5.cl P2 (fun h => by have := (hlt2 p h).1; omega)
              have hfz5 := BG5.frozen i
              have hcm5 : w5.cell? ⟨g, i, none⟩ = some (.int .i64 (m + 1)) := by rw [BG5.cell, Array.getElem?_setIfInBounds, if_pos rfl, if_pos (by omega)]
              have F5 : Fr (fun j => j = g) w1 w5 := F2.then hf5 (fun j hj h => by have := (hlt2 j h).1; omega)
              have hlt5 := hown5.lt
              have hg5 : ∀ j, v'.ownBlock = some j → ¬ j = g := fun j h e => by have := (hlt5 j h).1; omega
              clear hf5 hlt2 HO2 BG2 F2 P2 hnew hlt5
              replace BG5 := Lib.hid BG5
              replace F5 := Lib.hid F5
              replace hown5 := Lib.hid hown5
              replace hg5 := Lib.hid hg5
              go_wp2_with fail
              go_roundw
              case rel =>
                refine ⟨i + 1, (cur'.setIfInBounds i (.int .i64 (m + 1))).setIfInBounds i (.int .i64 0), by omega, by go_num, BG5.out.set_ i _, by simpa using z1, ?_, ?_, F5.out.setCell (p := ⟨g, i, none⟩) (.inl rfl) _⟩
                · have h0 : one k m true false = 0 := by simp [one]; omega
                  rw [hst.out, h0, row_set (row_set z2.out), List.set_set]
                · rw [hsu.out]
                  have hl0 : lost k m true false = true := by simp [lost]; omega
                  rw [if_pos hl0]
                  have h := ((Fr.refl (fun j => j = g) w5).setCell (p := ⟨g, i, none⟩) (.inl rfl) (.int .i64 0)).own hown5.out (fun j hj => hg5.out j hj)
                  simpa [ints] using h
              case measure => simp [intOf]; omega
      · obtain rfl : i = n := by omega
        have Bt := hF.blk Bt1.out (by show ¬ w.heap.size + 1 = g; omega)
        have t0 : wr.cell? ⟨w.heap.size + 1, 0, none⟩ = some (.int .i64 0) := Bt.cell 0
        have t1 : wr.cell? ⟨w.heap.size + 1, 1, none⟩ = some (.slice none 0 0) := Bt.cell 1
        have f0 := Bt.frozen 0
        have f1 := Bt.frozen 1
        have hPu : Pu w wr := hFw.mono (fun j hj (e : j = g) => by omega)
        have hne : w.heap.size + 1 ≠ g := by omega
        have hlt := hown.lt
        clear hFw Bt hF hra hrb hx HF1 Bg1 s1 s2
        replace BG := Lib.hid BG
        replace z2 := Lib.hid z2
        replace hown := Lib.hid hown
        replace hPu := Lib.hid hPu
        replace hlt := Lib.hid hlt
        go_wp2_with fail
        rw [Exit.noGoto_ret]
        go_wp2_with fail
        have HFr : Pu w ((wr.setCell ⟨w.heap.size + 1, 0, none⟩ (.int .i64 k)).setCell ⟨w.heap.size + 1, 1, none⟩ (.slice (some ⟨g, 0, none⟩) i cap)) := (hPu.out.setCell (p := ⟨w.heap.size + 1, 0, none⟩) (.inr (Nat.le_succ _)) _).setCell (p := ⟨w.heap.size + 1, 1, none⟩) (.inr (Nat.le_succ _)) _
        have BGf : Blk ((wr.setCell ⟨w.heap.size + 1, 0, none⟩ (.int .i64 k)).setCell ⟨w.heap.size + 1, 1, none⟩ (.slice (some ⟨g, 0, none⟩) i cap)) g 3 cur' := (BG.out.far (p := ⟨w.heap.size + 1, 0, none⟩) (fun e => hne e.symm) _).far (p := ⟨w.heap.size + 1, 1, none⟩) (fun e => hne e.symm) _
        have HOf := (((Fr.refl (fun j => j = w.heap.size + 1) wr).setCell (p := ⟨w.heap.size + 1, 0, none⟩) (.inl rfl) (.int .i64 k)).setCell (p := ⟨w.heap.size + 1, 1, none⟩) (.inl rfl) (.slice (some ⟨g, 0, none⟩) i cap)).own hown.out (fun j hj (e : j = w.heap.size + 1) => by have := (hlt.out j hj).1; omega)
        refine bodyPost_ret (v := .tuple #[.agg #[.int .i64 k, .slice (some ⟨g, 0, none⟩) i cap], .slice AV (upI k ms ia ib i 0).length AC, .int .i64 0]) (by simp [results, Try.results10, go_sem, t0, t1]) rfl ⟨_, _, _, _, rfl, ?_, Rd.of_own HOf, HFr, fun b o h => by cases h; omega⟩
        intro h0
        refine ⟨g, 0, rfl, BGf.lt, fun j u hu => ?_⟩
        rw [Nat.zero_add, BGf.cell, ← Array.getElem?_toList]
        rw [← z2.out, List.getElem?_take] at hu
        split at hu
        · exact hu
        · cases hu
end Go.Proofs.Ytlgimjinaijhlaa
