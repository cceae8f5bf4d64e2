/- PeriodRaw: for every input the law returns true, and each argument reads afterwards as it read before. No condition. -/
import Derived.Test.YtckppibhnedmmaaPerRaw
import Derived.Test.YtckppibhnedmmaaFlat
namespace Go.Proofs.Ytckppibhnedmmaa.lawPeriodRaw
open Go.ChangeShapes Go.WideShapes Go.ChangeAt Go.RowKit

theorem own : ownKnob Try.prog.godebug = none := by kernel_rfl
theorem laidOut : laidOutB Try.prog = true := by kernel_rfl

set_option maxRecDepth 100000 in
theorem lifted (os : Os) (started : os.Started) (H : Type) (enc : TypeId × Value → H) :
    ReturnsInHanded {} Try.checked os 4 .any (Rows.periodRawSpec.pre6 enc Try.prog Try.f4 Rows.periodRawRow.domain false) (Rows.periodRawSpec.post enc Try.prog Try.f4 false true false false) := by
  refine returnsInHanded_of_change (C := Try.checked) own started (by kernel_rfl) Try.func4
    (ChangeSpec.witness6 (enc := enc) (C := Try.checked) false ⟨#[], #[.agg #[.int .i64 0, .int .i64 0, .int .i64 0], .int .i64 0, .agg #[.int .i64 0, .int .i64 0], .agg #[.int .i64 0, .int .i64 0]], []⟩ 8 (by kernel_rfl) (by kernel_rfl) (by kernel_rfl) (by kernel_rfl)) ?_
  intro W base args ds gs before hval0 hW hcnd _
  have hval : ∀ (j : Nat) t v, Try.f4.params[j]? = some t → args[j]? = some v → Value.okWide Try.prog W .any base t v := hval0
  have hW' := hW
  obtain ⟨p, q, hA0, hV, rfl, hfz, hnd⟩ := hW
  have hA : DataW.TrodAll enc Try.prog W 0 (fun _ => true) true Try.f4.params.toList args.toList ds p := hA0
  rw [Try.params4] at hA hval
  obtain ⟨v0, vs0, d0, ds0, p0, q0, hargs, rfl, rfl, h0, r0⟩ := trodAll_cons hA
  obtain ⟨v1, vs1, d1, ds1, p1, q1, rfl, rfl, rfl, h1, r1⟩ := trodAll_cons r0
  obtain ⟨v2, vs2, d2, ds2, p2, q2, rfl, rfl, rfl, h2, r2⟩ := trodAll_cons r1
  obtain ⟨v3, vs3, d3, ds3, p3, q3, rfl, rfl, rfl, h3, r3⟩ := trodAll_cons r2
  obtain ⟨rfl, rfl, rfl⟩ := trodAll_nil r3
  obtain rfl : args = #[v0, v1, v2, v3] := by cases args; simp_all
  obtain ⟨rfl, rfl⟩ := trodVars_none hV
  have k0 := h0
  have lt0 : ∀ x ∈ p0, x.block < W.heap.size := by obtain ⟨m, hm⟩ := k0; exact DataW.trod_lt m _ _ _ hm
  obtain ⟨vs0_, rfl, cc0⟩ := opn_flat (l := [some .i64, some .i64, some .i64]) 9 (.inl ⟨_, Try.underlying30⟩) (by kernel_rfl) (hval 0 30 v0 rfl rfl) h0
  obtain ⟨_, _, rfl, hx0_0, cc0_0⟩ := areCells_cons cc0
  obtain ⟨x0_0, rfl, w0_0⟩ := hx0_0
  obtain ⟨_, _, rfl, hx0_1, cc0_1⟩ := areCells_cons cc0_0
  obtain ⟨x0_1, rfl, w0_1⟩ := hx0_1
  obtain ⟨_, _, rfl, hx0_2, cc0_2⟩ := areCells_cons cc0_1
  obtain ⟨x0_2, rfl, w0_2⟩ := hx0_2
  obtain rfl := areCells_nil cc0_2
  have k1 := h1
  have lt1 : ∀ x ∈ p1, x.block < W.heap.size := by obtain ⟨m, hm⟩ := k1; exact DataW.trod_lt m _ _ _ hm
  obtain ⟨a1, rfl, rfl, rfl, w1⟩ := open_int Try.underlying3 (hval 1 3 v1 rfl rfl) h1
  have k2 := h2
  have lt2 : ∀ x ∈ p2, x.block < W.heap.size := by obtain ⟨m, hm⟩ := k2; exact DataW.trod_lt m _ _ _ hm
  obtain ⟨vs2_, rfl, cc2⟩ := opn_flat (l := [some .i64, some .i64]) 9 (.inl ⟨_, Try.underlying24⟩) (by kernel_rfl) (hval 2 24 v2 rfl rfl) h2
  obtain ⟨_, _, rfl, hx2_0, cc2_0⟩ := areCells_cons cc2
  obtain ⟨x2_0, rfl, w2_0⟩ := hx2_0
  obtain ⟨_, _, rfl, hx2_1, cc2_1⟩ := areCells_cons cc2_0
  obtain ⟨x2_1, rfl, w2_1⟩ := hx2_1
  obtain rfl := areCells_nil cc2_1
  have k3 := h3
  have lt3 : ∀ x ∈ p3, x.block < W.heap.size := by obtain ⟨m, hm⟩ := k3; exact DataW.trod_lt m _ _ _ hm
  obtain ⟨vs3_, rfl, cc3⟩ := opn_flat (l := [some .i64, some .i64]) 9 (.inl ⟨_, Try.underlying24⟩) (by kernel_rfl) (hval 3 24 v3 rfl rfl) h3
  obtain ⟨_, _, rfl, hx3_0, cc3_0⟩ := areCells_cons cc3
  obtain ⟨x3_0, rfl, w3_0⟩ := hx3_0
  obtain ⟨_, _, rfl, hx3_1, cc3_1⟩ := areCells_cons cc3_0
  obtain ⟨x3_1, rfl, w3_1⟩ := hx3_1
  obtain rfl := areCells_nil cc3_1
  clear hA0 hval0
  refine (walk_PeriodRaw x0_0 x0_1 x0_2 a1 x2_0 x2_1 x3_0 x3_1 W ⟨w0_0, w0_1, w0_2⟩ w1 ⟨w2_0, w2_1⟩ ⟨w3_0, w3_1⟩).mono fun e W' ⟨he, hpu⟩ => ?_
  have bel := hpu.below
  subst he
  exact ⟨_, rfl, _, _, _, [], _, [], hW', trodAll_mk1 (shut_bool Try.underlying4 _), (trodAll_cons_mk (Below.trod laidOut (by kernel_rfl) (of_decide_eq_true (by kernel_rfl)) k0 bel lt0) (trodAll_cons_mk (Below.trod laidOut (by kernel_rfl) (of_decide_eq_true (by kernel_rfl)) k1 bel lt1) (trodAll_cons_mk (Below.trod laidOut (by kernel_rfl) (of_decide_eq_true (by kernel_rfl)) k2 bel lt2) (trodAll_cons_mk (Below.trod laidOut (by kernel_rfl) (of_decide_eq_true (by kernel_rfl)) k3 bel lt3) trodAll_mk0)))), rfl, bel.frame _, fun h => by cases h⟩

/-- THE STATEMENT. -/
theorem proved : Rows.PeriodRawSaid :=
  OpenClaim.holds_of_wide 4 Try.f4 rfl rfl rfl rfl rfl rfl rfl ⟨rfl, rfl, rfl, rfl, rfl⟩ rfl rfl rfl rfl rfl (by kernel_rfl) Try.func4 (by kernel_rfl)
    (of_decide_eq_true (by kernel_rfl)) (by unfold Func.isWrapper; rw [if_neg (of_decide_eq_false (by kernel_rfl))]; exact ⟨rfl, rfl⟩)
    (fun os started H enc _ => lifted os started H enc)
#print axioms proved
end Go.Proofs.Ytckppibhnedmmaa.lawPeriodRaw
