/- ReportOrders: the plain law. -/
import Derived.Test.YtlapnhpaedkgcaaDoorRpg
namespace Go.Proofs.YtlapnhpaedkgcaaDoor
open Go.RowKit

/-- events that ascend -/
structure Asc (ev : List Ev) : Prop where
  bd : ∀ e ∈ ev, 0 ≤ e.a ∧ e.a ≤ 1000
  up : ∀ j k (hj : j < ev.length) (hk : k < ev.length), j ≤ k → (ev[j]).a ≤ (ev[k]).a
theorem Asc.at_ {ev : List Ev} (_ : Asc ev) {k : Nat} (hk : k < ev.length) : atE ev k = (ev[k]).a := by unfold atE; rw [List.getElem?_eq_getElem hk]
theorem Asc.at_bd {ev : List Ev} (h : Asc ev) {k : Nat} (hk : k < ev.length) : 0 ≤ atE ev k ∧ atE ev k ≤ 1000 := by rw [h.at_ hk]; exact h.bd _ (List.getElem_mem hk)
theorem Asc.snoc {ev : List Ev} {e : Ev} (h : Asc ev) (hb : 0 ≤ e.a ∧ e.a ≤ 1000) (hl : ∀ x ∈ ev, x.a ≤ e.a) : Asc (ev ++ [e]) := by
  refine ⟨fun x hx => ?_, fun j k hj hk hjk => ?_⟩
  · rcases List.mem_append.1 hx with hx | hx
    · exact h.bd x hx
    · rcases List.mem_singleton.1 hx with rfl; exact hb
  · rw [List.length_append, List.length_singleton] at hj hk
    by_cases hk2 : k < ev.length
    · rw [List.getElem_append_left hk2, List.getElem_append_left (by omega)]
      exact h.up j k (by omega) hk2 hjk
    · rw [List.getElem_append_right (i := k) (by omega)]
      rw [show ([e][k - ev.length]'(by simp; omega)) = e by simp]
      by_cases hj2 : j < ev.length
      · rw [List.getElem_append_left hj2]
        exact hl _ (List.getElem_mem hj2)
      · rw [List.getElem_append_right (by omega)]
        rw [show ([e][j - ev.length]'(by simp; omega)) = e by simp]
        exact Int.le_refl _
/-- what a line says -/
structure LineOk (z : Ft) (i : Int) (r : Int) : Prop where
  f : z.f = i
  r : z.r = r
  s : (z.i = -1 ∧ z.d = -1 ∧ z.p = -1) ∨ (0 ≤ z.i ∧ z.d = -1 ∧ z.p = -1) ∨ (0 ≤ z.i ∧ z.i ≤ z.d ∧ z.p = -1) ∨ (0 ≤ z.i ∧ z.i ≤ z.d ∧ z.d ≤ z.p)
  bd : z.bd
theorem line_ok {ev : List Ev} (h : Asc ev) (i : Int) (f : Int × Int) : LineOk (lineF ev i f) i f.1 := by
  unfold lineF
  have a1 := aft_le (hitB i) ev 0
  split
  · rw [stL0]
    exact ⟨rfl, rfl, .inl ⟨rfl, rfl, rfl⟩, ⟨by dsimp only; omega, by dsimp only; omega, by dsimp only; omega⟩⟩
  · rename_i n1
    have q1 : p1 ev i < ev.length := by unfold p1 at n1 ⊢; omega
    have b1 := h.at_bd q1
    have a2 := aft_le (fouB f.1) ev (p1 ev i + 1)
    have g2 := aft_ge (fouB f.1) ev (p1 ev i + 1) (by omega)
    split
    · rw [stL1]
      exact ⟨rfl, rfl, .inr (.inl ⟨b1.1, rfl, rfl⟩), ⟨by dsimp only; omega, by dsimp only; omega, by dsimp only; omega⟩⟩
    · rename_i n2
      have q2 : p2 ev i f < ev.length := by unfold p2 at n2 ⊢; omega
      have b2 := h.at_bd q2
      have u2 := h.up (p1 ev i) (p2 ev i f) q1 q2 (by unfold p2; omega)
      rw [← h.at_ q1, ← h.at_ q2] at u2
      have a3 := aft_le (repB f.1) ev (p2 ev i f + 1)
      have g3 := aft_ge (repB f.1) ev (p2 ev i f + 1) (by omega)
      split
      · rw [stL2]
        exact ⟨rfl, rfl, .inr (.inr (.inl ⟨b1.1, u2, rfl⟩)), ⟨by dsimp only; omega, by dsimp only; omega, by dsimp only; omega⟩⟩
      · rename_i n3
        have q3 : p3 ev i f < ev.length := by unfold p3 at n3 ⊢; omega
        have b3 := h.at_bd q3
        have u3 := h.up (p2 ev i f) (p3 ev i f) q2 q3 (by unfold p3; omega)
        rw [← h.at_ q2, ← h.at_ q3] at u3
        rw [stL3]
        exact ⟨rfl, rfl, .inr (.inr (.inr ⟨b1.1, u2, u3⟩)), ⟨by dsimp only; omega, by dsimp only; omega, by dsimp only; omega⟩⟩
theorem linesTo_get {ev : List Ev} {fs : List (Int × Int)} {n k : Nat} (hk : k < n) : (linesTo ev fs n)[k]? = some (lineF ev (k : Int) (fs.getD k (0, 0))) := by
  unfold linesTo; simp [hk]
theorem lines_bd {ev : List Ev} (h : Asc ev) (fs : List (Int × Int)) (n : Nat) : ∀ y ∈ linesTo ev fs n, y.bd := by
  intro y hy
  unfold linesTo at hy
  obtain ⟨k, _, rfl⟩ := List.mem_map.1 hy
  exact (line_ok h _ _).bd
section
variable {P : Program} {T : List (Nat × TI)} {N : Nat} {L : List (Nat × Value)} {a : Act} {w : World} {o : Oper} {x y z : Operand} {t e : TypeId} {i j : TI} {n c : Nat} {k k2 : IntKind}
theorem r_sliceBoth {b q : Nat} {l h : Int} (hs : Sl N L a) (ho : o.op = .slice t x (some y) (some z) none) (hx : ev L x = some (.slice (some ⟨b, q, none⟩) n c)) (hy : ev L y = some (.int k l)) (hz : ev L z = some (.int k2 h)) (hT : TabOk P T) (hc : tlk T t = some i) (hd : i.d = .sl e) (he : tlk T e = some j) (h0 : 0 ≤ l) (h1 : l ≤ h) (h2 : h ≤ c) (h3 : l < c) : RunV P a o w (.slice (some ⟨b, q + l.toNat * j.sz, none⟩) (h.toNat - l.toNat) (c - l.toNat)) := by
  replace hx := hs.ev hx; replace hy := hs.ev hy; replace hz := hs.ev hz
  have e1 : ¬ c = l.toNat := by omega
  have e2 : 0 ≤ h := by omega
  have e4 := run_sliceBound (P := P) (w := w) k l h.toNat BoundsCode.sliceB h0 (by omega)
  unfold RunV execOp
  simp [ho, hx, hy, hz, Instr.sliceAt, Instr.slice, run_und ((hT _ _ hc).sl hd), Instr.sliceBounds, run_sliceBound, h0, h2, e1, e2, e4, run_sizeOf (hT _ _ he), Addr.add]
theorem r_sliceN {b q l h : Nat} (hs : Sl N L a) (ho : o.op = .slice t x (some y) (some z) none) (hx : ev L x = some (.slice (some ⟨b, q, none⟩) n c)) (hy : ev L y = some (.int k (l : Int))) (hz : ev L z = some (.int k2 (h : Int))) (hT : TabOk P T) (hc : tlk T t = some i) (hd : i.d = .sl e) (he : tlk T e = some j) (h1 : l ≤ h) (h2 : h ≤ c) (h3 : l < c) : RunV P a o w (.slice (some ⟨b, q + l * j.sz, none⟩) (h - l) (c - l)) :=
  r_sliceBoth hs ho hx hy hz hT hc hd he (Int.natCast_nonneg l) (by omega) (by omega) (by omega)
end
/-- numbers put together -/
def comb (s y : St) : St := ⟨s.i + y.i, s.d + y.d, s.p + y.p, s.t + y.t, max s.u y.u, s.m + y.m, max s.o y.o⟩
theorem comb_step (s : St) (x : Ft) (h1 : 0 ≤ s.u) (h2 : 0 ≤ s.o) : comb s (cntF [x]) = stepC s x := by
  show comb s (stepC ⟨0, 0, 0, 0, 0, 0, 0⟩ x) = stepC s x
  unfold comb stepC one
  simp only [St.mk.injEq]
  refine ⟨by omega, by omega, by omega, by omega, ?_, by omega, ?_⟩
  · split <;> omega
  · split <;> omega
end Go.Proofs.YtlapnhpaedkgcaaDoor
