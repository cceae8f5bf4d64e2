/- WatchNever: the walk. -/
import Derived.Test.YtlgimjinaijhlaaWat5
namespace Go.Proofs.Ytlgimjinaijhlaa
open Go.RowKit

theorem u8_bd {x : Int} (h : (Lit.int .u8 x).wf = true) : 0 ≤ x ∧ x ≤ 255 := by
  simp [Lit.wf] at h; exact h
def bools (l : List Bool) : List Value := l.map Value.bool
theorem bools_len (l : List Bool) : (bools l).length = l.length := by simp [bools]
theorem bools_set {w : World} {g : Nat} {t : TypeId} {l : List Bool} (h : Blk w g t (bools l).toArray) (i : Nat) (b : Bool) : Blk (w.setCell ⟨g, i, none⟩ (.bool b)) g t (bools (l.set i b)).toArray := by
  have := h.set_ i (.bool b)
  simpa [bools, List.map_set] using this
theorem bools_at {w : World} {g : Nat} {t : TypeId} {l : List Bool} (h : Blk w g t (bools l).toArray) {i : Nat} (hi : i < l.length) : w.cell? ⟨g, i, none⟩ = some (.bool (l[i]'hi)) := by
  rw [h.cell]; simp [bools, hi]
/-- who is given up was in, and did not answer -/
theorem upI_mem {k : Int} {ms : List Int} {ia ib : List Bool} {n : Nat} {s x : Int} (h : x ∈ upI k ms ia ib n s) : ∃ j : Nat, x = s + j ∧ ia[j]? = some true ∧ ib[j]? = some false := by
  induction ms generalizing ia ib n s with
  | nil => simp [upI] at h
  | cons m ms ih =>
    cases ia with
    | nil => simp [upI] at h
    | cons a ia =>
      cases ib with
      | nil => simp [upI] at h
      | cons b ib =>
        cases n with
        | zero => simp [upI] at h
        | succ n =>
          simp only [upI, List.mem_append] at h
          rcases h with h | h
          · split at h
            · rename_i hl
              simp at h
              subst h
              simp [lost] at hl
              exact ⟨0, by simp, by simp [hl.1.1], by simp [hl.1.2]⟩
            · simp at h
          · obtain ⟨j, h1, h2, h3⟩ := ih h
            exact ⟨j + 1, by omega, by simpa using h2, by simpa using h3⟩

set_option maxRecDepth 100000 in
set_option maxHeartbeats 3000000 in
theorem walk_WatchNever (mo who : Int) (A : Option Addr) (n c : Nat) (xs : List Int) (w : World) (h0 : (Lit.int .u8 mo).wf = true) (h1 : (Lit.int .u8 who).wf = true) (hI : IsInts .u8 w A n c xs) :
    Calls Try.prog 6 #[.int .u8 mo, .int .u8 who, .slice A n c] w fun e w' => e = .returned (.bool true) ∧ Pu w w' := by
  obtain ⟨m1, m2⟩ := u8_bd h0
  obtain ⟨v1, v2⟩ := u8_bd h1
  obtain ⟨hl, hnc, hc63, hrx, hwx⟩ := hI
  have hnew := fun u => new_ok 3 (mo % 5) u (by omega) (by omega)
  obtain ⟨r, hr⟩ : ∃ r : Nat, who % 3 = (r : Int) := ⟨(who % 3).toNat, by omega⟩
  have hr3 : r < 3 := by omega
  have hk1 : 0 ≤ mo % 5 := by omega
  have hk2 : mo % 5 ≤ 20 := by omega
  go_enter Try.func6, Try.ntmps6
  go_wp2_with fail
  refine (hnew _).mono ?_
  rintro e w1 ⟨A1, c1, rfl, hR1, hf1⟩
  clear hnew h0 h1
  generalize mo % 5 = k at *
  rw [hr]
  clear hr v1 v2 m1 m2
  go_wp2_with fail
  have hne0 : w.heap.size ≤ w1.heap.size := hf1.size
  have hrx1 := (hf1.rd' hrx)
  go_loopw [10] (fun tv wr => ∃ (t : Nat) (A2 : Option Addr) (c2 : Nat) (ms : List Int), tv = .int .i64 t ∧ t ≤ n ∧ t ≤ 60 ∧ Blk wr w1.heap.size 24 #[.int .i64 k, .slice A2 3 c2] ∧ Hid (ms.length = 3 ∧ (∀ x ∈ ms, 0 ≤ x ∧ x ≤ k) ∧ Rd wr wr.heap.size A2 (ints ms)) ∧ Hid (Fr (fun j => j = w1.heap.size) w1 wr)) (fun tv _ => 60 - (intOf tv).toNat)
  case atStart => exact ⟨0, A1, c1, List.replicate 3 0, rfl, by omega, by omega, Blk.new _ _ _, Lib.hid ⟨rfl, by simp; omega, ((Fr.refl _ w1).alloc _).rd' hR1⟩, Lib.hid ((Fr.refl _ w1).alloc _)⟩
  case round =>
    obtain ⟨t, A2, c2, ms, rfl, htn, ht60, hB, hM, hF⟩ := hrel
    by_cases hlt : t < n
    · by_cases hlt60 : t < 60
      · -- a round
        obtain ⟨wo, hwo⟩ : ∃ u : World, u = wr := ⟨wr, rfl⟩
        subst hwo
        obtain ⟨b, off, ea, hb, hcx⟩ := Rd.at_ (hF.out.rd hrx1 (by omega) (fun j hj (e : j = w1.heap.size) => by omega)) (k := t) (by simp; omega)
        rw [List.getElem_map] at hcx
        obtain ⟨x1, x2⟩ := u8_bd (hwx _ (List.getElem_mem (show t < xs.length by omega)))
        generalize xs[t]'(_) = x at *
        subst ea
        have hbw := hb
        go_wp2_with fail
        have Bi : Blk ((wo.alloc (.cells #[.bool true, .bool true, .bool true] 4)).alloc (.cells #[.bool false, .bool false, .bool false] 4)) wo.heap.size 4 (bools [true, true, true]).toArray := (Blk.new wo 4 #[.bool true, .bool true, .bool true]).alloc _
        have Bh : Blk ((wo.alloc (.cells #[.bool true, .bool true, .bool true] 4)).alloc (.cells #[.bool false, .bool false, .bool false] 4)) (wo.heap.size + 1) 4 (bools [false, false, false]).toArray := by
          have := Blk.new (wo.alloc (.cells #[.bool true, .bool true, .bool true] 4)) 4 #[.bool false, .bool false, .bool false]
          rw [World.size_alloc] at this
          exact this
        have F0 : Fr (fun _ => False) wo ((wo.alloc (.cells #[.bool true, .bool true, .bool true] 4)).alloc (.cells #[.bool false, .bool false, .bool false] 4)) := ((Fr.refl _ wo).alloc _).alloc _
        generalize hV : ((wo.alloc (.cells #[.bool true, .bool true, .bool true] 4)).alloc (.cells #[.bool false, .bool false, .bool false] 4)) = V at *
        clear hV
        have hcV : V.cell? ⟨b, off + t, none⟩ = some (.int .u8 x) := F0.cl hcx (fun t => t)
        have hbl : b < wo.heap.size := cell_lt hcx
        go_loopw [13] (fun iv wr => ∃ (i : Nat) (hs : List Bool), iv = .int .i64 i ∧ i ≤ 3 ∧ hs.length = 3 ∧ Blk wr (wo.heap.size + 1) 4 (bools hs).toArray ∧ Fr (fun j => j = wo.heap.size + 1) V wr) (fun iv _ => 3 - (intOf iv).toNat)
        case atStart => exact ⟨0, [false, false, false], rfl, by omega, rfl, Bh, Fr.refl _ _⟩
        case round =>
          obtain ⟨i, hs, rfl, hi3, hsl, hBh, hFi⟩ := hrel
          have hcv : wr.cell? ⟨b, off + t, none⟩ = some (.int .u8 x) := hFi.cl hcV (by show ¬ b = wo.heap.size + 1; omega)
          by_cases hilt : i < 3
          · have q1 := bools_at hBh (i := i) (by omega)
            have q2 := hBh.frozen i
            have hB' := fun v => bools_set hBh i v
            have hF' := fun v => hFi.setCell (p := ⟨wo.heap.size + 1, i, none⟩) (.inl rfl) v
            replace hB' := Lib.hid hB'
            replace hF' := Lib.hid hF'
            clear hBh hFi
            go_wp2_with fail
            go_roundw
            case rel => exact ⟨i + 1, _, by go_num, by omega, by rw [List.length_set]; exact hsl, hB'.out _, hF'.out _⟩
            case measure => simp [intOf]; omega
          · obtain rfl : i = 3 := by omega
            have hr1 : r < hs.length := by omega
            have q1 := bools_at hBh hr1
            have q2 := hBh.frozen r
            have hBi := hFi.blk Bi (by show ¬ wo.heap.size = wo.heap.size + 1; omega)
            have q3 := bools_at hBi (i := r) (by simp; omega)
            have q4 := hBi.frozen r
            have hw1 : w1.heap.size < wo.heap.size := hB.lt
            have hBw := hFi.blk (F0.blk hB (fun t => t)) (by show ¬ w1.heap.size = wo.heap.size + 1; omega)
            have P0 : wr.cell? ⟨w1.heap.size, 0, none⟩ = some (.int .i64 k) := hBw.cell 0
            have P1 : wr.cell? ⟨w1.heap.size, 1, none⟩ = some (.slice A2 3 c2) := hBw.cell 1
            have n1 : w1.heap.size ≠ wo.heap.size := by omega
            have n2 : w1.heap.size ≠ wo.heap.size + 1 := by omega
            have n3 : wo.heap.size ≠ wo.heap.size + 1 := by omega
            have HS : Hid (∀ (W3 : World) (ins hs' : List Bool), Blk W3 wo.heap.size 4 (bools ins).toArray → Blk W3 (wo.heap.size + 1) 4 (bools hs').toArray → ins.length = 3 → hs'.length = 3 → ¬ (ins[r]? = some true ∧ hs'[r]? = some false) → Fr (fun j => j = wo.heap.size ∨ j = wo.heap.size + 1) V W3 →
                Calls Try.prog 10 #[.agg #[.int .i64 k, .slice A2 3 c2], .slice (some ⟨wo.heap.size, 0, none⟩) 3 3, .slice (some ⟨wo.heap.size + 1, 0, none⟩) 3 3] W3 fun e w' => ∃ (A' : Option Addr) (c' : Nat) (Ag : Option Addr) (cg : Nat) (up ms' : List Int), e = .returned (.tuple #[.agg #[.int .i64 k, .slice A' 3 c'], .slice Ag up.length cg, .int .i64 0]) ∧ Hid (ms'.length = 3 ∧ (∀ x ∈ ms', 0 ≤ x ∧ x ≤ k) ∧ Rd w' w'.heap.size A' (ints ms') ∧ (∀ b o, A' = some ⟨b, o, none⟩ → b ≠ w1.heap.size)) ∧ Rd w' w'.heap.size Ag (ints up) ∧ up.length ≤ 3 ∧ Hid (∀ x ∈ up, x ≠ (r : Int)) ∧ Hid (Fr (fun j => j = w1.heap.size) w1 w') ∧ Blk w' w1.heap.size 24 #[.int .i64 k, .slice A2 3 c2]) := by
              intro W3 ins hs' k1 k2 k3 k4 k5 k6
              obtain ⟨e1, e2, e3⟩ := hM.out
              have g1 := k6.blk (F0.blk hB (fun t => t)) (fun h => by rcases h with h | h <;> omega)
              have g2 : Pu wo W3 := F0.then k6 (fun j hj h => by rcases h with h | h <;> omega)
              refine (step_ok k A2 (some ⟨wo.heap.size, 0, none⟩) (some ⟨wo.heap.size + 1, 0, none⟩) 3 c2 3 3 ms ins hs' W3 (by omega) (by omega) ⟨hk1, hk2⟩ e1 k3 k4 e2 (g2.rd' e3) (Rd.of_blk k1 rfl) (Rd.of_blk k2 rfl)).mono ?_
              rintro e w' ⟨A', c', Ag, cg, rfl, h1, h2, h3, h4⟩
              refine ⟨A', c', Ag, cg, _, _, rfl, Lib.hid ⟨by rw [toI_len]; exact e1, toI_ok ins hs' 3 hk1 e2, h1, fun b o hb => by have := h4 b o hb; have := g1.lt; omega⟩, h2, upI_len _ _ _ _ _ _, Lib.hid fun x hx he => ?_, Lib.hid ((hF.out.pu g2).pu h3), h3.blk g1 (fun t => t)⟩
              obtain ⟨j, j1, j2, j3⟩ := upI_mem hx
              obtain rfl : j = r := by omega
              exact k5 ⟨j2, j3⟩
            have hsr : ∀ (l : List Bool) (b : Bool), l.length = 3 → (l.set r b)[r]? = some b := fun l b h => by rw [List.getElem?_set_self (by omega)]
            replace hsr := Lib.hid hsr
            clear Bi Bh F0 hcV hBw hrx1 hM hR1 hf1 hcx
            have HBI : Hid (∀ v b', Blk ((wr.setCell ⟨wo.heap.size + 1, r, none⟩ v).setCell ⟨wo.heap.size, r, none⟩ (.bool b')) wo.heap.size 4 (bools ([true, true, true].set r b')).toArray) := fun v b' => bools_set (hBi.far (p := ⟨wo.heap.size + 1, r, none⟩) n3 v) r b'
            have HBH : Hid (∀ b' v, Blk ((wr.setCell ⟨wo.heap.size + 1, r, none⟩ (.bool b')).setCell ⟨wo.heap.size, r, none⟩ v) (wo.heap.size + 1) 4 (bools (hs.set r b')).toArray) := fun b' v => (bools_set hBh r b').far (p := ⟨wo.heap.size, r, none⟩) n3.symm v
            have HFR : Hid (∀ u v, Fr (fun j => j = wo.heap.size ∨ j = wo.heap.size + 1) V ((wr.setCell ⟨wo.heap.size + 1, r, none⟩ u).setCell ⟨wo.heap.size, r, none⟩ v)) := fun u v => ((hFi.mono (T := fun j => j = wo.heap.size + 1) (S := fun j => j = wo.heap.size ∨ j = wo.heap.size + 1) (fun j _ h => .inr h)).setCell (p := ⟨wo.heap.size + 1, r, none⟩) (.inl (.inr rfl)) u).setCell (p := ⟨wo.heap.size, r, none⟩) (.inl (.inl rfl)) v
            clear hBh hBi hFi
            have HS2 : Hid (∀ (b' : Bool), Calls Try.prog 10 #[.agg #[.int .i64 k, .slice A2 3 c2], .slice (some ⟨wo.heap.size, 0, none⟩) 3 3, .slice (some ⟨wo.heap.size + 1, 0, none⟩) 3 3] ((wr.setCell ⟨wo.heap.size + 1, r, none⟩ (.bool true)).setCell ⟨wo.heap.size, r, none⟩ (.bool b')) fun e w' => ∃ (A' : Option Addr) (c' : Nat) (Ag : Option Addr) (cg : Nat) (up ms' : List Int), e = .returned (.tuple #[.agg #[.int .i64 k, .slice A' 3 c'], .slice Ag up.length cg, .int .i64 0]) ∧ Hid (ms'.length = 3 ∧ (∀ x ∈ ms', 0 ≤ x ∧ x ≤ k) ∧ Rd w' w'.heap.size A' (ints ms') ∧ (∀ b o, A' = some ⟨b, o, none⟩ → b ≠ w1.heap.size)) ∧ Rd w' w'.heap.size Ag (ints up) ∧ up.length ≤ 3 ∧ Hid (∀ x ∈ up, x ≠ (r : Int)) ∧ Hid (Fr (fun j => j = w1.heap.size) w1 w') ∧ Blk w' w1.heap.size 24 #[.int .i64 k, .slice A2 3 c2]) :=
              fun b' => HS.out _ _ _ (HBI.out _ b') (HBH.out true _) (by simp) (by simp; omega) (fun h => by rw [hsr.out hs true (by omega)] at h; cases h.2) (HFR.out _ _)
            have HS3 : Hid (∀ (bm : Bool), Calls Try.prog 10 #[.agg #[.int .i64 k, .slice A2 3 c2], .slice (some ⟨wo.heap.size, 0, none⟩) 3 3, .slice (some ⟨wo.heap.size + 1, 0, none⟩) 3 3] (((wr.setCell ⟨wo.heap.size + 1, r, none⟩ (.bool false)).setCell ⟨wo.heap.size, r, none⟩ (.bool bm)).setCell ⟨wo.heap.size, r, none⟩ (.bool false)) fun e w' => ∃ (A' : Option Addr) (c' : Nat) (Ag : Option Addr) (cg : Nat) (up ms' : List Int), e = .returned (.tuple #[.agg #[.int .i64 k, .slice A' 3 c'], .slice Ag up.length cg, .int .i64 0]) ∧ Hid (ms'.length = 3 ∧ (∀ x ∈ ms', 0 ≤ x ∧ x ≤ k) ∧ Rd w' w'.heap.size A' (ints ms') ∧ (∀ b o, A' = some ⟨b, o, none⟩ → b ≠ w1.heap.size)) ∧ Rd w' w'.heap.size Ag (ints up) ∧ up.length ≤ 3 ∧ Hid (∀ x ∈ up, x ≠ (r : Int)) ∧ Hid (Fr (fun j => j = w1.heap.size) w1 w') ∧ Blk w' w1.heap.size 24 #[.int .i64 k, .slice A2 3 c2]) :=
              fun bm => HS.out _ _ _ (bools_set (HBI.out _ bm) r false) ((HBH.out false _).far (p := ⟨wo.heap.size, r, none⟩) n3.symm _) (by simp) (by simp; omega) (fun h => by rw [hsr.out _ false (by simp)] at h; cases h.1) ((HFR.out _ _).setCell (p := ⟨wo.heap.size, r, none⟩) (.inl (.inl rfl)) _)
            clear HBI HBH HFR HS hsr
            have hb6 : ∃ b6, (bits BinOp.and IntKind.u8 (x / 64) 1 == 1) = b6 := ⟨_, rfl⟩
            have hb7 : ∃ b7, (x / 128 == 1) = b7 := ⟨_, rfl⟩
            obtain ⟨b6, e6⟩ := hb6
            obtain ⟨b7, e7⟩ := hb7
            cases b6 <;> cases b7 <;> go_wp2_with fail
            all_goals
              first
              | refine (HS2.out _).mono ?_
              | refine (HS3.out _).mono ?_
              clear HS2 HS3 P0 P1 q1 q2 q3 q4
              rintro e w3 ⟨A', c', Ag, cg, up, ms', rfl, hM', hup, hul, hur, hF3, hB3⟩
              have hB4 := Blk.new w3 24 #[.int .i64 k, .slice A' 3 c']
              have hB5 := hB3.alloc (.cells #[.int .i64 k, .slice A' 3 c'] 24)
              have hup' := ((Fr.refl (fun _ => False) w3).alloc (.cells #[.int .i64 k, .slice A' 3 c'] 24)).rd' hup
              have hF4 := Lib.hid (hF3.out.alloc (.cells #[.int .i64 k, .slice A' 3 c'] 24))
              have hR4 : Hid (ms'.length = 3 ∧ (∀ x ∈ ms', 0 ≤ x ∧ x ≤ k) ∧ Rd (w3.alloc (.cells #[.int .i64 k, .slice A' 3 c'] 24)) (w3.alloc (.cells #[.int .i64 k, .slice A' 3 c'] 24)).heap.size A' (ints ms') ∧ (∀ b o, A' = some ⟨b, o, none⟩ → b ≠ w1.heap.size)) := Lib.hid ⟨hM'.out.1, hM'.out.2.1, ((Fr.refl (fun _ => False) w3).alloc (.cells #[.int .i64 k, .slice A' 3 c'] 24)).rd' hM'.out.2.2.1, hM'.out.2.2.2⟩
              have hl3 := hB3.lt
              clear hB3 hM' hF3 hup
              go_wp2_with fail
              generalize hW4 : w3.alloc (.cells #[.int .i64 k, .slice A' 3 c'] 24) = W4 at *
              clear hW4
              go_loopw [17] (fun iv wr => ∃ i : Nat, iv = .int .i64 i ∧ i ≤ up.length ∧ Pu W4 wr) (fun iv _ => up.length - (intOf iv).toNat)
              case atStart => exact ⟨0, rfl, by omega, Fr.refl _ _⟩
              case round =>
                obtain ⟨i, rfl, hiu, hFi⟩ := hrel
                by_cases hiu' : i < up.length
                · obtain ⟨bu, ou, eu, _, hcu⟩ := Rd.at_ (hFi.rd' hup') (k := i) (by rw [ints_len]; omega)
                  rw [ints_get hiu'] at hcu
                  have hxr := hur.out _ (List.getElem_mem hiu')
                  generalize up[i]'hiu' = xu at *
                  subst eu
                  have hxe : (xu == (r : Int)) = false := by simpa using hxr
                  clear hxr hup' hB4 hB5
                  go_wp2_with fail
                  go_roundw
                  case rel => exact ⟨i + 1, by go_num, by omega, hFi⟩
                  case measure => simp [intOf]; omega
                · have g4 := hFi.blk hB4 (fun t => t)
                  have g5 := hFi.blk hB5 (fun t => t)
                  have z0 : wr.cell? ⟨w3.heap.size, 0, none⟩ = some (.int .i64 k) := g4.cell 0
                  have z1 : wr.cell? ⟨w3.heap.size, 1, none⟩ = some (.slice A' 3 c') := g4.cell 1
                  have y0 : wr.cell? ⟨w1.heap.size, 0, none⟩ = some (.int .i64 k) := g5.cell 0
                  have y1 : wr.cell? ⟨w1.heap.size, 1, none⟩ = some (.slice A2 3 c2) := g5.cell 1
                  have f0 := g5.frozen 0
                  have f1 := g5.frozen 1
                  replace g5 := Lib.hid g5
                  clear g4 hB4 hB5 hup'
                  go_wp2_with fail
                  go_roundw
                  case rel =>
                    refine ⟨t + 1, A', c', ms', by go_num, by omega, by omega, ?_, ?_, ?_⟩
                    · have h := (g5.out.set_ 0 (.int .i64 k)).set_ 1 (.slice A' 3 c')
                      simpa using h
                    · refine Lib.hid ⟨hR4.out.1, hR4.out.2.1, ?_⟩
                      have h1 := hFi.rd' hR4.out.2.2.1
                      have h2 := ((Fr.refl (fun j => j = w1.heap.size) wr).setCell (p := ⟨w1.heap.size, 0, none⟩) (.inl rfl) (.int .i64 k)).setCell (p := ⟨w1.heap.size, 1, none⟩) (.inl rfl) (.slice A' 3 c')
                      exact (h2.rd_ne h1 (fun b o hb => hR4.out.2.2.2 b o hb)).more h2.size
                    · exact Lib.hid (((hF4.out.pu hFi).setCell (p := ⟨w1.heap.size, 0, none⟩) (.inl rfl) _).setCell (p := ⟨w1.heap.size, 1, none⟩) (.inl rfl) _)
                  case measure => simp [intOf]; omega
      · have haw := fun u => awake_any u
        clear hrx1 hR1
        have hle := hF.out.size
        go_wp2_with fail
        refine (haw _).mono ?_
        rintro e w2 ⟨rfl, hf2⟩
        go_wp2_with fail
        go_ret
        exact ⟨rfl, ((hf1.then hF.out (fun j hj (e : j = w1.heap.size) => by omega)).pu hf2)⟩
    · have haw := fun u => awake_any u
      clear hrx1 hR1
      have hle := hF.out.size
      go_wp2_with fail
      refine (haw _).mono ?_
      rintro e w2 ⟨rfl, hf2⟩
      go_wp2_with fail
      go_ret
      exact ⟨rfl, ((hf1.then hF.out (fun j hj (e : j = w1.heap.size) => by omega)).pu hf2)⟩
end Go.Proofs.Ytlgimjinaijhlaa
