/- WatchRuns: the walk. -/
import Derived.Test.YtlgimjinaijhlaaWat5
namespace Go.Proofs.Ytlgimjinaijhlaa
open Go.RowKit

theorem u8_bd {x : Int} (h : (Lit.int .u8 x).wf = true) : 0 ≤ x ∧ x ≤ 255 := by
  simp [Lit.wf] at h; exact h
def bools (l : List Bool) : List Value := l.map Value.bool
theorem bools_len (l : List Bool) : (bools l).length = l.length := by simp [bools]
theorem bools_set {w : World} {g : Nat} {t : TypeId} {l : List Bool} (h : Blk w g t (bools l).toArray) (i : Nat) (b : Bool) : Blk (w.setCell ⟨g, i, none⟩ (.bool b)) g t (bools (l.set i b)).toArray := by
  have := h.set_ i (.bool b)
  simpa [bools, List.map_set] using this
theorem bools_at {w : World} {g : Nat} {t : TypeId} {l : List Bool} (h : Blk w g t (bools l).toArray) {i : Nat} (hi : i < l.length) : w.cell? ⟨g, i, none⟩ = some (.bool (l[i]'hi)) := by
  rw [h.cell]; simp [bools, hi]
theorem ints_set {w : World} {g : Nat} {t : TypeId} {l : List Int} (h : Blk w g t (ints l).toArray) (i : Nat) (b : Int) : Blk (w.setCell ⟨g, i, none⟩ (.int .i64 b)) g t (ints (l.set i b)).toArray := by
  have := h.set_ i (.int .i64 b)
  simpa [ints, List.map_set] using this
theorem ints_at {w : World} {g : Nat} {t : TypeId} {l : List Int} (h : Blk w g t (ints l).toArray) {i : Nat} {x : Int} (hi : l[i]? = some x) : w.cell? ⟨g, i, none⟩ = some (.int .i64 x) := by
  rw [h.cell]; simp [ints, hi]
/-- the bits of a byte, the first n -/
def bitB (x : Int) (j : Nat) : Bool := bits BinOp.and IntKind.u8 (x / 2 ^ j) 1 == 1
def bitL (x : Int) (n : Nat) : List Bool := (List.range n).map (bitB x)
theorem bitL_len (x : Int) (n : Nat) : (bitL x n).length = n := by simp [bitL]
theorem bitL_at (x : Int) (n j : Nat) (h : j < n) : (bitL x n)[j]? = some (bitB x j) := by simp [bitL, h]
/-- the row when r bits are in it -/
def upTo (l : List Bool) (r : Nat) : List Bool := l.take r ++ List.replicate (l.length - r) false
theorem upTo_len (l : List Bool) (r : Nat) (h : r ≤ l.length) : (upTo l r).length = l.length := by simp [upTo]; omega
theorem upTo_zero (l : List Bool) : upTo l 0 = List.replicate l.length false := by simp [upTo]
theorem upTo_all (l : List Bool) : upTo l l.length = l := by simp [upTo]
theorem upTo_set (l : List Bool) (r : Nat) (h : r < l.length) (b : Bool) (hb : l[r]? = some b) : (upTo l r).set r b = upTo l (r + 1) := by
  apply List.ext_getElem?
  intro j
  unfold upTo
  rw [List.getElem?_set]
  have hl : (l.take r).length = r := by simp; omega
  have hl' : (l.take (r + 1)).length = r + 1 := by simp; omega
  by_cases hj : r = j
  · subst hj
    rw [if_pos rfl, if_pos (by simp; omega), List.getElem?_append_left (by omega), List.getElem?_take, if_pos (by omega), hb]
  · rw [if_neg hj]
    rcases Nat.lt_or_ge j r with h1 | h1
    · rw [List.getElem?_append_left (by omega), List.getElem?_append_left (by omega), List.getElem?_take, List.getElem?_take, if_pos h1, if_pos (by omega)]
    · rw [List.getElem?_append_right (by omega), List.getElem?_append_right (by omega), hl, hl', List.getElem?_replicate, List.getElem?_replicate]
      by_cases hjl : j < l.length
      · rw [if_pos (by omega), if_pos (by omega)]
      · rw [if_neg (by omega), if_neg (by omega)]
theorem upTo_get (l : List Bool) (r : Nat) (h : r < l.length) : (upTo l (r + 1))[r]? = l[r]? := by
  unfold upTo
  rw [List.getElem?_append_left (by simp; omega), List.getElem?_take, if_pos (by omega)]
theorem bools_at' {w : World} {g : Nat} {t : TypeId} {l : List Bool} (h : Blk w g t (bools l).toArray) {i : Nat} {b : Bool} (hi : l[i]? = some b) : w.cell? ⟨g, i, none⟩ = some (.bool b) := by
  rw [h.cell]; simp [bools, hi]
theorem Try.infoB : (Try.prog.info? 4).map (fun i => (i.zero, i.size, i.bytes)) = some (some (.bool false), 1, 1) := by kernel_rfl
theorem made_bool (n : Nat) (hn : n ≤ 1000) : ∃ Z : Array Value, Z = (bools (List.replicate n false)).toArray ∧ ∀ u, (Instr.makeSlice 25 (.int .i64 n) (.int .i64 n)).run Try.prog u = .ok (.slice (some ⟨u.heap.size, 0, none⟩) n n) (u.alloc (.cells Z 4)) := by
  obtain ⟨i0, hi, hz0, hz1, hz2⟩ := info_parts Try.infoB
  refine ⟨madeCells (Value.cells (.bool false)) (n * i0.size), ?_, fun u => ?_⟩
  · rw [hz1]
    apply Array.ext
    · simp [madeCells, bools]
    · intro j h1 h2
      simp [madeCells, bools, Value.cells, Nat.mod_one]
  · have := run_makeSlice (w := u) 25 4 i0 (.bool false) Try.underlying25 hi hz0 .i64 .i64 n n (by omega) (Int.le_refl _) (by rw [hz1]; simp; omega) (by rw [hz2]; omega) (by omega)
    simpa using this

set_option maxRecDepth 100000 in
set_option maxHeartbeats 8000000 in
theorem walk_WatchRuns (re mo : Int) (A : Option Addr) (n ca : Nat) (xs : List Int) (B : Option Addr) (m cb : Nat) (ys : List Int) (w : World) (h0 : (Lit.int .u8 re).wf = true) (h1 : (Lit.int .u8 mo).wf = true) (hI : IsInts .u8 w A n ca xs) (hJ : IsInts .u8 w B m cb ys) :
    Calls Try.prog 4 #[.int .u8 re, .int .u8 mo, .slice A n ca, .slice B m cb] w fun e w' => e = .returned (.bool true) ∧ Pu w w' := by
  obtain ⟨m1, m2⟩ := u8_bd h0
  obtain ⟨v1, v2⟩ := u8_bd h1
  obtain ⟨hl, hnc, hc63, hrx, hwx⟩ := hI
  obtain ⟨hl', hnc', hc63', hry, hwy⟩ := hJ
  obtain ⟨N, hN⟩ : ∃ N : Nat, 1 + re % 5 = (N : Int) := ⟨(1 + re % 5).toNat, by omega⟩
  have hN1 : 1 ≤ N := by omega
  have hN5 : N ≤ 5 := by omega
  have hnew := fun u => new_ok N (mo % 6) u (by omega) (by omega)
  rw [← hN] at hnew
  have hk1 : 0 ≤ mo % 6 := by omega
  have hk2 : mo % 6 ≤ 20 := by omega
  obtain ⟨Z, hZ, hZl, hmk⟩ := made_int N (by omega)
  obtain ⟨Y, hY, hmkb⟩ := made_bool N (by omega)
  obtain rfl : Z = (ints (List.replicate N 0)).toArray := by rw [← hZl]
  clear hZl hZ
  subst hY
  replace hmkb := Lib.hid hmkb
  replace hmk := Lib.hid hmk
  replace hN := Lib.hid hN
  go_enter Try.func4, Try.ntmps4
  go_wp2_with fail
  refine (hnew _).mono ?_
  rintro e w1 ⟨A1, c1, rfl, hR1, hf1⟩
  clear hnew h0 h1
  generalize mo % 6 = k at *
  rw [hN.out]
  clear hN v1 v2 m1 m2
  replace hmk := hmk.out
  go_wp2_with fail
  replace hmk := Lib.hid hmk
  have hne0 : w.heap.size ≤ w1.heap.size := hf1.size
  have hrx1 := (hf1.rd' hrx)
  have hry1 := (hf1.rd' hry)
  have HBw : Blk ((w1.alloc (.cells #[.int .i64 k, .slice A1 N c1] 24)).alloc (.cells (ints (List.replicate N 0)).toArray 3)) w1.heap.size 24 #[.int .i64 k, .slice A1 N c1] := (Blk.new _ _ _).alloc _
  have HBm : Blk ((w1.alloc (.cells #[.int .i64 k, .slice A1 N c1] 24)).alloc (.cells (ints (List.replicate N 0)).toArray 3)) (w1.heap.size + 1) 3 (ints (List.replicate N 0)).toArray := by
    have := Blk.new (w1.alloc (.cells #[.int .i64 k, .slice A1 N c1] 24)) 3 (ints (List.replicate N 0)).toArray
    rwa [World.size_alloc] at this
  go_loopw [14] (fun tv wr => ∃ (t : Nat) (A2 : Option Addr) (c2 : Nat) (ms : List Int), tv = .int .i64 t ∧ t ≤ 60 ∧ Blk wr w1.heap.size 24 #[.int .i64 k, .slice A2 N c2] ∧ Blk wr (w1.heap.size + 1) 3 (ints ms).toArray ∧ ms.length = N ∧ Hid ((∀ x ∈ ms, 0 ≤ x ∧ x ≤ k) ∧ Rd wr wr.heap.size A2 (ints ms) ∧ (∀ b o, A2 = some ⟨b, o, none⟩ → b ≠ w1.heap.size + 1 ∧ b ≠ w1.heap.size)) ∧ Hid (Fr (fun j => j = w1.heap.size ∨ j = w1.heap.size + 1) w1 wr)) (fun tv _ => 60 - (intOf tv).toNat)
  case atStart =>
    refine ⟨0, A1, c1, List.replicate N 0, rfl, by omega, HBw, HBm, by simp, Lib.hid ⟨by intro x hx; simp at hx; omega, ?_, fun b o hb => by obtain ⟨b', o', e, hb', _⟩ := hR1 (by rw [ints_len]; simp; omega); rw [e] at hb; cases hb; omega⟩, Lib.hid (((Fr.refl _ w1).alloc _).alloc _)⟩
    exact (((Fr.refl (fun _ => False) w1).alloc (.cells #[.int .i64 k, .slice A1 N c1] 24)).alloc (.cells (ints (List.replicate N 0)).toArray 3)).rd' hR1
  case round =>
    obtain ⟨t, A2, c2, ms, rfl, ht60, hB, hBm, hml, hM, hF⟩ := hrel
    clear HBw HBm
    by_cases hlt : t < n ∧ t < m ∧ t < 60
    · obtain ⟨ht1, ht2, ht3⟩ := hlt
      obtain ⟨wo, hwo⟩ : ∃ u : World, u = wr := ⟨wr, rfl⟩
      subst hwo
      have hsz := hF.out.size
      obtain ⟨bx, ox, ex, hbx, hcx⟩ := Rd.at_ (hF.out.rd hrx1 (by omega) (fun j hj (e : j = w1.heap.size ∨ j = w1.heap.size + 1) => by rcases e with e | e <;> omega)) (k := t) (by simp; omega)
      obtain ⟨bY, oY, ey, hby, hcy⟩ := Rd.at_ (hF.out.rd hry1 (by omega) (fun j hj (e : j = w1.heap.size ∨ j = w1.heap.size + 1) => by rcases e with e | e <;> omega)) (k := t) (by simp; omega)
      rw [List.getElem_map] at hcx hcy
      obtain ⟨x1, x2⟩ := u8_bd (hwx _ (List.getElem_mem (show t < xs.length by omega)))
      obtain ⟨y1, y2⟩ := u8_bd (hwy _ (List.getElem_mem (show t < ys.length by omega)))
      generalize xs[t]'(_) = x at *
      generalize ys[t]'(_) = y at *
      subst ex
      subst ey
      clear hrx1 hry1 hR1 hrx hry hwx hwy
      replace hmkb := hmkb.out
      go_upto_region 7 with fail
      go_cut [15, 16] (fun p q u => ∃ ga gb : Nat, p = .slice (some ⟨ga, 0, none⟩) N N ∧ q = .slice (some ⟨gb, 0, none⟩) N N ∧ ga ≠ gb ∧ wo.heap.size ≤ ga ∧ wo.heap.size ≤ gb ∧ Blk u ga 4 (bools (List.replicate N false)).toArray ∧ Blk u gb 4 (bools (List.replicate N false)).toArray ∧ Pu wo u)
      case first =>
        go_region
        all_goals
          go_wp2_with fail
          go_meet
          have B1 : Blk ((wo.alloc (.cells (bools (List.replicate N false)).toArray 4)).alloc (.cells (bools (List.replicate N false)).toArray 4)) wo.heap.size 4 (bools (List.replicate N false)).toArray := (Blk.new _ _ _).alloc _
          have B2 : Blk ((wo.alloc (.cells (bools (List.replicate N false)).toArray 4)).alloc (.cells (bools (List.replicate N false)).toArray 4)) (wo.heap.size + 1) 4 (bools (List.replicate N false)).toArray := by
            have := Blk.new (wo.alloc (.cells (bools (List.replicate N false)).toArray 4)) 4 (bools (List.replicate N false)).toArray
            rwa [World.size_alloc] at this
          first
          | exact ⟨wo.heap.size, wo.heap.size + 1, rfl, rfl, by omega, by omega, by omega, B1, B2, (((Fr.refl _ wo).alloc _).alloc _).drew⟩
          | exact ⟨wo.heap.size + 1, wo.heap.size, rfl, rfl, by omega, by omega, by omega, B2, B1, (((Fr.refl _ wo).alloc _).alloc _).drew⟩
      case rest =>
        obtain ⟨ga, gb, rfl, rfl, hgab, hga, hgb, hBa, hBb, hfc⟩ := hcut
        have hcxc := hfc.cl hcx (fun t => t)
        have hcyc := hfc.cl hcy (fun t => t)
        have hBwc := hfc.blk hB (fun t => t)
        have hBmc := hfc.blk hBm (fun t => t)
        have lx := cell_lt hcx
        have ly := cell_lt hcy
        simp only at lx ly
        have lw := hB.lt
        have lm := hBm.lt
        have hMc : Hid ((∀ x ∈ ms, 0 ≤ x ∧ x ≤ k) ∧ Rd wc wo.heap.size A2 (ints ms) ∧ (∀ b o, A2 = some ⟨b, o, none⟩ → b ≠ w1.heap.size + 1 ∧ b ≠ w1.heap.size)) := Lib.hid ⟨hM.out.1, hfc.rd hM.out.2.1 (Nat.le_refl _) (fun _ _ t => t), hM.out.2.2⟩
        have hFc : Hid (Fr (fun j => j = w1.heap.size ∨ j = w1.heap.size + 1) w1 wc) := Lib.hid (hF.out.pu hfc)
        have hsc := hfc.size
        have hgac := hBa.lt
        have hgbc := hBb.lt
        clear hcx hcy hB hBm hM hF hfc hmkb hmk
        have hla : (bitL x N).length = N := bitL_len x N
        have hlb : (bitL y N).length = N := bitL_len y N
        have hZ0 : ∀ l : List Bool, l.length = N → upTo l 0 = List.replicate N false := fun l h => by rw [upTo_zero, h]
        rw [← hZ0 _ hla] at hBa
        rw [← hZ0 _ hlb] at hBb
        clear hZ0
        replace hla := Lib.hid hla
        replace hlb := Lib.hid hlb
        obtain ⟨i0, hi, hz0, hz1, hz2⟩ := info_parts Try.infoI
        replace hi := Lib.hid hi; replace hz0 := Lib.hid hz0; replace hz1 := Lib.hid hz1; replace hz2 := Lib.hid hz2
        go_wp2_with fail
        go_loopw [17, 18] (fun lv rv wr => ∃ r : Nat, rv = .int .i64 r ∧ r ≤ N ∧ Blk wr ga 4 (bools (upTo (bitL x N) r)).toArray ∧ Blk wr gb 4 (bools (upTo (bitL y N) r)).toArray ∧ Blk wr (w1.heap.size + 1) 3 (ints (toI k ms (bitL x N) (bitL y N) r)).toArray ∧ wr.ownsRow wc.heap.size 3 1 lv (upI k ms (bitL x N) (bitL y N) r 0).length (ints (upI k ms (bitL x N) (bitL y N) r 0)) ∧ Fr (fun j => j = ga ∨ j = gb ∨ j = w1.heap.size + 1) wc wr) (fun _ rv _ => N - (intOf rv).toNat)
        case atStart => exact ⟨0, rfl, by omega, hBa, hBb, by rw [toI_zero]; exact hBmc, by rw [upI_zero]; exact ⟨rfl, .inl ⟨rfl, rfl⟩⟩, Fr.refl _ _⟩
        case round =>
          obtain ⟨r, rfl, hrN, HA, HB, HM, HO, HFr⟩ := hrel
          by_cases hr : r < N
          · obtain ⟨AV, AC, rfl, hAC⟩ := own_form HO
            have hA1 := hla.out
            have hB1 := hlb.out
            have hat : (upTo (bitL x N) r).length = N := by rw [upTo_len _ _ (by omega), hA1]
            have hbt : (upTo (bitL y N) r).length = N := by rw [upTo_len _ _ (by omega), hB1]
            obtain ⟨za, qa⟩ : ∃ z, wr.cell? ⟨ga, r, none⟩ = some (.bool z) := ⟨_, bools_at HA (i := r) (by omega)⟩
            obtain ⟨zb, qb⟩ : ∃ z, wr.cell? ⟨gb, r, none⟩ = some (.bool z) := ⟨_, bools_at HB (i := r) (by omega)⟩
            have fa := HA.frozen r
            have fb := HB.frozen r
            have cx : wr.cell? ⟨bx, ox + t, none⟩ = some (.int .u8 x) := HFr.cl hcxc (by show ¬ (bx = ga ∨ bx = gb ∨ bx = w1.heap.size + 1); omega)
            have cy : wr.cell? ⟨bY, oY + t, none⟩ = some (.int .u8 y) := HFr.cl hcyc (by show ¬ (bY = ga ∨ bY = gb ∨ bY = w1.heap.size + 1); omega)
            have hml' : ms[r]? = some (ms[r]'(by omega)) := List.getElem?_eq_getElem (by omega)
            have hax := bitL_at x N r hr
            have hay := bitL_at y N r hr
            have hst := toI_step k ms (bitL x N) (bitL y N) r _ _ _ hml' hax hay
            have hsu := upI_step k ms (bitL x N) (bitL y N) r 0 _ _ _ hml' hax hay
            have hSA := fun u : World => fun h : Blk u ga 4 (bools (upTo (bitL x N) r)).toArray => (upTo_set (bitL x N) r (by omega) _ hax ▸ bools_set h r (bitB x r) : Blk (u.setCell ⟨ga, r, none⟩ (.bool (bitB x r))) ga 4 (bools (upTo (bitL x N) (r + 1))).toArray)
            have hSB := fun u : World => fun h : Blk u gb 4 (bools (upTo (bitL y N) r)).toArray => (upTo_set (bitL y N) r (by omega) _ hay ▸ bools_set h r (bitB y r) : Blk (u.setCell ⟨gb, r, none⟩ (.bool (bitB y r))) gb 4 (bools (upTo (bitL y N) (r + 1))).toArray)
            have hmr : (toI k ms (bitL x N) (bitL y N) r)[r]? = some (ms[r]'(by omega)) := by rw [toI_old _ _ _ _ _ _ (Nat.le_refl _), hml']
            have qm := ints_at HM hmr
            have hmrK := Lib.hid hmr
            have hBwk := Lib.hid hBwc
            have fm := HM.frozen r
            obtain ⟨mr1, mr2⟩ := hMc.out.1 _ (List.getElem_mem (show r < ms.length by omega))
            generalize ms[r]'(_) = mr at *
            have hva : ∃ va, bitB x r = va := ⟨_, rfl⟩
            have hvb : ∃ vb, bitB y r = vb := ⟨_, rfl⟩
            obtain ⟨va, eva⟩ := hva
            obtain ⟨vb, evb⟩ := hvb
            have hax2 := (upTo_get (bitL x N) r (by omega)).trans hax
            have hay2 := (upTo_get (bitL y N) r (by omega)).trans hay
            rw [eva] at hst hsu hSA hax2
            rw [evb] at hst hsu hSB hay2
            replace hax2 := Lib.hid hax2
            replace hay2 := Lib.hid hay2
            have eva' : (bits BinOp.and IntKind.u8 (x / 2 ^ r) 1 == 1) = va := eva
            have evb' : (bits BinOp.and IntKind.u8 (y / 2 ^ r) 1 == 1) = vb := evb
            have hlt := HO.lt
            have HB' := Lib.hid HB
            have HA' := Lib.hid HA
            have HM' := Lib.hid HM
            have HO' := Lib.hid HO
            have HFr' := Lib.hid HFr
            replace hst := Lib.hid hst
            replace hsu := Lib.hid hsu
            replace hSA := Lib.hid hSA
            replace hSB := Lib.hid hSB
            replace hlt := Lib.hid hlt
            clear HA HB HM HO HFr eva evb hax hay hml' hmr hBwc hBmc hBa hBb hcxc hcyc hA1 hB1 hat hbt
            go_upto_region 12 with fail
            go_region
            have VA : Hid (Blk (((wr.setCell ⟨ga, r, none⟩ (.bool va)).setCell ⟨gb, r, none⟩ (.bool vb)).drew) ga 4 (bools (upTo (bitL x N) (r + 1))).toArray) := Lib.hid ((hSA.out _ HA'.out).far (p := ⟨gb, r, none⟩) hgab _)
            have VB : Hid (Blk (((wr.setCell ⟨ga, r, none⟩ (.bool va)).setCell ⟨gb, r, none⟩ (.bool vb)).drew) gb 4 (bools (upTo (bitL y N) (r + 1))).toArray) := Lib.hid (hSB.out _ (HB'.out.far (p := ⟨ga, r, none⟩) (fun e => hgab e.symm) _))
            have nam : ga ≠ w1.heap.size + 1 := by omega
            have nbm : gb ≠ w1.heap.size + 1 := by omega
            have VM : Hid (Blk (((wr.setCell ⟨ga, r, none⟩ (.bool va)).setCell ⟨gb, r, none⟩ (.bool vb)).drew) (w1.heap.size + 1) 3 (ints (toI k ms (bitL x N) (bitL y N) r)).toArray) := Lib.hid ((HM'.out.far (p := ⟨ga, r, none⟩) nam.symm _).far (p := ⟨gb, r, none⟩) nbm.symm _)
            have VF : Hid (Fr (fun j => j = ga ∨ j = gb ∨ j = w1.heap.size + 1) wc (((wr.setCell ⟨ga, r, none⟩ (.bool va)).setCell ⟨gb, r, none⟩ (.bool vb)).drew)) := Lib.hid (((HFr'.out.setCell (p := ⟨ga, r, none⟩) (.inl (.inl rfl)) _).setCell (p := ⟨gb, r, none⟩) (.inl (.inr (.inl rfl))) _).drew)
            have hF1 : Fr (fun j => j = ga ∨ j = gb) wr (((wr.setCell ⟨ga, r, none⟩ (.bool va)).setCell ⟨gb, r, none⟩ (.bool vb)).drew) := (((Fr.refl _ wr).setCell (p := ⟨ga, r, none⟩) (.inl (.inl rfl)) _).setCell (p := ⟨gb, r, none⟩) (.inl (.inr rfl)) _).drew
            have HOV := hF1.own HO'.out (fun j hj (e : j = ga ∨ j = gb) => by have := (hlt.out j hj).1; rcases e with e | e <;> omega)
            have VO : Hid (∀ W2, Fr (fun j => j = w1.heap.size + 1) (((wr.setCell ⟨ga, r, none⟩ (.bool va)).setCell ⟨gb, r, none⟩ (.bool vb)).drew) W2 → W2.ownsRow wc.heap.size 3 1 _ (upI k ms (bitL x N) (bitL y N) r 0).length (ints (upI k ms (bitL x N) (bitL y N) r 0))) := Lib.hid (fun W2 h => h.own HOV (fun j hj (e : j = w1.heap.size + 1) => by have := (hlt.out j hj).1; omega))
            have hmr2 := hmrK.out
            have ca1 := bools_at' VA.out hax2.out
            have cb1 := bools_at' VB.out hay2.out
            have cm1 := ints_at VM.out hmr2
            have fm1 := VM.out.frozen r
            have hV1 := hBwk.out
            have hltk := hlt.out
            clear HA' HB' HM' HO' HFr' hSA hSB hF1 HOV qa qb fa fb cx cy qm fm hlt eva' evb'
            generalize (((wr.setCell ⟨ga, r, none⟩ (.bool va)).setCell ⟨gb, r, none⟩ (.bool vb)).drew) = V at *
            cases va with
            | false =>
              go_wp2_with fail
              go_roundw
              case rel =>
                refine ⟨r + 1, by go_num, by omega, VA.out.far (p := ⟨w1.heap.size + 1, r, none⟩) nam _, VB.out.far (p := ⟨w1.heap.size + 1, r, none⟩) nbm _, ?_, ?_, VF.out.setCell (p := ⟨w1.heap.size + 1, r, none⟩) (.inl (.inr (.inr rfl))) _⟩
                · rw [hst.out]; exact ints_set VM.out r 0
                · rw [hsu.out]; exact (by simpa [lost] using VO.out _ ((Fr.refl (fun j => j = w1.heap.size + 1) V).setCell (p := ⟨w1.heap.size + 1, r, none⟩) (.inl rfl) _))
              case measure => simp [intOf]; omega
            | true =>
              cases vb with
              | true =>
                go_wp2_with fail
                go_roundw
                case rel =>
                  refine ⟨r + 1, by go_num, by omega, VA.out.far (p := ⟨w1.heap.size + 1, r, none⟩) nam _, VB.out.far (p := ⟨w1.heap.size + 1, r, none⟩) nbm _, ?_, ?_, VF.out.setCell (p := ⟨w1.heap.size + 1, r, none⟩) (.inl (.inr (.inr rfl))) _⟩
                  · rw [hst.out]; exact ints_set VM.out r 0
                  · rw [hsu.out]; exact (by simpa [lost] using VO.out _ ((Fr.refl (fun j => j = w1.heap.size + 1) V).setCell (p := ⟨w1.heap.size + 1, r, none⟩) (.inl rfl) _))
                case measure => simp [intOf]; omega
              | false =>
                by_cases hmk : mr + 1 = k + 1
                · have h1 : (mr + 1 == k + 1) = true := by simpa using hmk
                  replace hmk := Lib.hid hmk
                  have hub := upI_len k ms (bitL x N) (bitL y N) r 0
                  have HO2 := VO.out _ ((Fr.refl (fun j => j = w1.heap.size + 1) V).setCell (p := ⟨w1.heap.size + 1, r, none⟩) (.inl rfl) (.int .i64 (mr + 1)))
                  have F2 := VF.out.setCell (p := ⟨w1.heap.size + 1, r, none⟩) (.inl (.inr (.inr rfl))) (.int .i64 (mr + 1))
                  have M2 := ints_set VM.out r (mr + 1)
                  have A2' := VA.out.far (p := ⟨w1.heap.size + 1, r, none⟩) nam (.int .i64 (mr + 1))
                  have B2' := VB.out.far (p := ⟨w1.heap.size + 1, r, none⟩) nbm (.int .i64 (mr + 1))
                  have hsz2 := F2.size
                  have hlt2 := HO2.lt
                  replace F2 := Lib.hid F2
                  replace M2 := Lib.hid M2
                  replace A2' := Lib.hid A2'
                  replace B2' := Lib.hid B2'
                  clear VA VB VO VF hltk
                  go_upto_region 17 with fail
                  generalize V.setCell ⟨w1.heap.size + 1, r, none⟩ (.int .i64 (mr + 1)) = W2 at *
                  go_wp2_with (at_builtin; refine wpList_app1 rfl _ _ 22 rfl wc.heap.size 3 i0 (.int .i64 0) 1 8 Try.underlying22 hi.out hz0.out hz1.out hz2.out rfl (by decide) _ _ _ rfl HO2 _ rfl rfl (by intro u hu; simp at hu; subst hu; rfl) (by unfold maxLen; omega) (by omega) hsz2 ?_)
                  intro v' w5 hown5 hf5 hnew
                  have M5 := hf5.blk M2.out (fun h => by have := (hlt2 _ h).1; omega)
                  have A5 := hf5.blk A2'.out (fun h => by have := (hlt2 _ h).1; omega)
                  have B5 := hf5.blk B2'.out (fun h => by have := (hlt2 _ h).1; omega)
                  have F5 := F2.out.then hf5 (fun j hj h => by have := (hlt2 _ h).1; omega)
                  have hfz5 := M5.frozen r
                  have hcm5 : w5.cell? ⟨w1.heap.size + 1, r, none⟩ = some (.int .i64 (mr + 1)) := ints_at M5 (by rw [List.getElem?_set_self]; exact (List.getElem?_eq_some_iff.1 hmr2).1)
                  have hlt5 := hown5.lt
                  have hg5 : ∀ j, v'.ownBlock = some j → ¬ j = w1.heap.size + 1 := fun j h e => by have := (hlt5 j h).1; omega
                  clear hf5 hlt2 HO2 hnew hlt5 F2 M2 A2' B2' VM cm1 fm1 ca1 cb1
                  replace M5 := Lib.hid M5
                  replace F5 := Lib.hid F5
                  replace A5 := Lib.hid A5
                  replace B5 := Lib.hid B5
                  replace hown5 := Lib.hid hown5
                  replace hg5 := Lib.hid hg5
                  go_wp2_with fail
                  go_roundw
                  case rel =>
                    have hone : one k mr true false = 0 := by have := hmk.out; simp [one]; omega
                    have hlost : lost k mr true false = true := by have := hmk.out; simp [lost]; omega
                    refine ⟨r + 1, by go_num, by omega, A5.out.far (p := ⟨w1.heap.size + 1, r, none⟩) nam _, B5.out.far (p := ⟨w1.heap.size + 1, r, none⟩) nbm _, ?_, ?_, F5.out.setCell (p := ⟨w1.heap.size + 1, r, none⟩) (.inl (.inr (.inr rfl))) _⟩
                    · rw [hst.out, hone]
                      have h := ints_set M5.out r 0
                      rwa [List.set_set] at h
                    · rw [hsu.out, if_pos hlost]
                      have h := ((Fr.refl (fun j => j = w1.heap.size + 1) w5).setCell (p := ⟨w1.heap.size + 1, r, none⟩) (.inl rfl) (.int .i64 0)).own hown5.out (fun j hj => hg5.out j hj)
                      simpa [ints] using h
                  case measure => simp [intOf]; omega
                · have h1 : (mr + 1 == k + 1) = false := by simpa using hmk
                  replace hmk := Lib.hid hmk
                  go_wp2_with fail
                  go_roundw
                  case rel =>
                    have hone : one k mr true false = mr + 1 := by have := hmk.out; simp [one]; omega
                    have hlost : lost k mr true false = false := by have := hmk.out; simp [lost]; omega
                    refine ⟨r + 1, by go_num, by omega, VA.out.far (p := ⟨w1.heap.size + 1, r, none⟩) nam _, VB.out.far (p := ⟨w1.heap.size + 1, r, none⟩) nbm _, ?_, ?_, VF.out.setCell (p := ⟨w1.heap.size + 1, r, none⟩) (.inl (.inr (.inr rfl))) _⟩
                    · rw [hst.out, hone]; exact ints_set VM.out r (mr + 1)
                    · rw [hsu.out, hlost]; exact (by simpa using VO.out _ ((Fr.refl (fun j => j = w1.heap.size + 1) V).setCell (p := ⟨w1.heap.size + 1, r, none⟩) (.inl rfl) _))
                  case measure => simp [intOf]; omega
          · obtain rfl : r = N := by omega
            have hA1 := hla.out
            have hB1 := hlb.out
            have eA : upTo (bitL x r) r = bitL x r := by conv => lhs; arg 2; rw [← hA1]
                                                         exact upTo_all _
            have eB : upTo (bitL y r) r = bitL y r := by conv => lhs; arg 2; rw [← hB1]
                                                         exact upTo_all _
            rw [eA] at HA
            rw [eB] at HB
            clear eA eB
            have Bw := HFr.blk hBwc (by show ¬ (w1.heap.size = ga ∨ w1.heap.size = gb ∨ w1.heap.size = w1.heap.size + 1); omega)
            have b0 : wr.cell? ⟨w1.heap.size, 0, none⟩ = some (.int .i64 k) := Bw.cell 0
            have b1 : wr.cell? ⟨w1.heap.size, 1, none⟩ = some (.slice A2 r c2) := Bw.cell 1
            have hRm : Rd wr wr.heap.size A2 (ints ms) := (HFr.rd_ne hMc.out.2.1 (fun b o e => by
              obtain ⟨b', o', e', hb', _⟩ := hMc.out.2.1 (by rw [ints_len]; omega)
              rw [e] at e'
              cases e'
              have := (hMc.out.2.2 b o e).1
              show ¬ (b = ga ∨ b = gb ∨ b = w1.heap.size + 1)
              omega)).more (by have := HFr.size; omega)
            have hstp := step_ok k A2 (some ⟨ga, 0, none⟩) (some ⟨gb, 0, none⟩) r c2 r r ms (bitL x r) (bitL y r) wr hN1 hN5 ⟨hk1, hk2⟩ hml hA1 hB1 hMc.out.1 hRm (Rd.of_blk HA rfl) (Rd.of_blk HB rfl)
            have hok := Lib.hid (toI_ok (bitL x r) (bitL y r) r hk1 hMc.out.1)
            have hln := toI_len k ms (bitL x r) (bitL y r) r
            have hub := upI_len k ms (bitL x r) (bitL y r) r 0
            obtain ⟨AV, AC, rfl, hAC⟩ := own_form HO
            have hRl := Rd.of_own HO
            have hFA : Fr (fun j => j = w1.heap.size ∨ j = w1.heap.size + 1) w1 wr := hFc.out.then HFr (fun j hj h => by rcases h with h | h | h <;> omega)
            have hlw := Bw.lt
            have hlm := HM.lt
            clear HA HB HO HFr hBwc hBmc hBa hBb hcxc hcyc hFc hRm hMc
            generalize toI k ms (bitL x r) (bitL y r) r = ms' at *
            generalize upI k ms (bitL x r) (bitL y r) r 0 = up at *
            have HM' := Lib.hid HM
            have Bw' := Lib.hid Bw
            have hRl' := Lib.hid hRl
            have hFA' := Lib.hid hFA
            clear HM Bw hRl hFA
            go_wp2_with fail
            refine hstp.mono ?_
            rintro e w3 ⟨A', c', Ag, cg, rfl, h1, h2, h3, h4⟩
            clear hstp b0 b1
            have hs1 := same_c Ag AV up.length up.length cg AC up up (w3.alloc (.cells #[.int .i64 k, .slice A' r c'] 24)) rfl rfl (by omega) (by omega) (((Fr.refl (fun _ => False) w3).alloc _).rd' h2) (((Fr.refl (fun _ => False) w3).alloc _).rd' (h3.rd' hRl'.out))
            rw [show decide (up = up) = true by simp] at hs1
            have Bt := Blk.new w3 24 #[.int .i64 k, .slice A' r c']
            have hP3 : Pu wr (w3.alloc (.cells #[.int .i64 k, .slice A' r c'] 24)) := h3.alloc _
            have hR3 := ((Fr.refl (fun _ => False) w3).alloc (.cells #[.int .i64 k, .slice A' r c'] 24)).rd' h1
            replace hP3 := Lib.hid hP3
            replace Bt := Lib.hid Bt
            replace hR3 := Lib.hid hR3
            replace h4 := Lib.hid h4
            clear h1 h2 h3
            go_wp2_with fail
            refine hs1.mono ?_
            rintro e w4 ⟨rfl, g1⟩
            clear hs1
            have Bt4 := g1.blk Bt.out (fun t => t)
            have t1 : w4.cell? ⟨w3.heap.size, 1, none⟩ = some (.slice A' r c') := Bt4.cell 1
            have hP4 := hP3.out.pu g1
            have hM4 := hP4.blk HM'.out (fun t => t)
            have hR4 := g1.rd' hR3.out
            have hs2 := same_c A' (some ⟨w1.heap.size + 1, 0, none⟩) r r c' r ms' ms' w4 (by omega) (by omega) (by omega) (by omega) hR4 (Rd.of_blk hM4 rfl)
            rw [show decide (ms' = ms') = true by simp] at hs2
            replace hP4 := Lib.hid hP4
            replace hR4 := Lib.hid hR4
            replace Bt4 := Lib.hid Bt4
            clear hP3 Bt hR3 g1 hM4
            go_wp2_with fail
            refine hs2.mono ?_
            rintro e w5 ⟨rfl, g2⟩
            clear hs2 t1
            have Bt5 := g2.blk Bt4.out (fun t => t)
            have hP5 := hP4.out.pu g2
            have hM5 := hP5.blk HM'.out (fun t => t)
            have hW5 := hP5.blk Bw'.out (fun t => t)
            have hR5 := g2.rd' hR4.out
            have t0 : w5.cell? ⟨w3.heap.size, 0, none⟩ = some (.int .i64 k) := Bt5.cell 0
            have t1 : w5.cell? ⟨w3.heap.size, 1, none⟩ = some (.slice A' r c') := Bt5.cell 1
            have b0 : w5.cell? ⟨w1.heap.size, 0, none⟩ = some (.int .i64 k) := hW5.cell 0
            have b1 : w5.cell? ⟨w1.heap.size, 1, none⟩ = some (.slice A2 r c2) := hW5.cell 1
            have f0 := hW5.frozen 0
            have f1 := hW5.frozen 1
            replace hM5 := Lib.hid hM5
            replace hW5 := Lib.hid hW5
            replace hR5 := Lib.hid hR5
            replace hP5 := Lib.hid hP5
            clear g2 Bt5 Bt4 hR4 hP4 HM' Bw' hRl'
            go_wp2_with fail
            go_roundw
            case rel =>
              refine ⟨t + 1, A', c', ms', by go_num, by omega, ?_, ?_, by omega, ?_, ?_⟩
              · have h := (hW5.out.set_ 0 (.int .i64 k)).set_ 1 (.slice A' r c')
                simpa using h
              · exact (hM5.out.far (p := ⟨w1.heap.size, 0, none⟩) (by show w1.heap.size + 1 ≠ w1.heap.size; omega) _).far (p := ⟨w1.heap.size, 1, none⟩) (by show w1.heap.size + 1 ≠ w1.heap.size; omega) _
              · have hA' : ∀ b o, A' = some ⟨b, o, none⟩ → b ≠ w1.heap.size + 1 ∧ b ≠ w1.heap.size := fun b o e => by have := h4.out b o e; omega
                refine Lib.hid ⟨hok.out, ?_, hA'⟩
                have h2 := ((Fr.refl (fun j => j = w1.heap.size) w5).setCell (p := ⟨w1.heap.size, 0, none⟩) (.inl rfl) (.int .i64 k)).setCell (p := ⟨w1.heap.size, 1, none⟩) (.inl rfl) (.slice A' r c')
                exact (h2.rd_ne hR5.out (fun b o hb => (hA' b o hb).2)).more h2.size
              · exact Lib.hid (((hFA'.out.pu hP5.out).setCell (p := ⟨w1.heap.size, 0, none⟩) (.inl (.inl rfl)) _).setCell (p := ⟨w1.heap.size, 1, none⟩) (.inl (.inl rfl)) _)
            case measure => simp [intOf]; omega
    · have hcase : ¬ t < n ∨ (t < n ∧ ¬ t < m) ∨ (t < n ∧ t < m ∧ ¬ t < 60) := by omega
      have haw := fun u => awake_any u
      have hle := hF.out.size
      have hfin : Hid (Pu w wr) := Lib.hid (hf1.then hF.out (fun j hj (e : j = w1.heap.size ∨ j = w1.heap.size + 1) => by rcases e with e | e <;> omega))
      clear hrx1 hry1 hR1 hrx hry hwx hwy hlt hmk hmkb
      rcases hcase with h | ⟨h, h'⟩ | ⟨h, h', h''⟩
      all_goals
        go_wp2_with fail
        refine (haw _).mono ?_
        rintro e w2 ⟨rfl, hf2⟩
        go_wp2_with fail
        go_ret
        exact ⟨rfl, hfin.out.pu hf2⟩
end Go.Proofs.Ytlgimjinaijhlaa
