/- PeriodRaw: the walk. -/
import Derived.Test.YtckppibhnedmmaaPer6
import Derived.Test.YtckppibhnedmmaaFlat
namespace Go.Proofs.Ytckppibhnedmmaa
open Go.RowKit

theorem costV_agg (D L R p : Int) : ∃ a b : Int, costV D L R p = .agg #[.int .i64 a, .int .i64 b] := by
  unfold costV; split <;> exact ⟨_, _, rfl⟩

set_option maxRecDepth 100000 in
set_option maxHeartbeats 4000000 in
theorem walk_PeriodRaw (D L R n a b c d : Int) (w : World) (_h0 : (Lit.int .i64 D).wf = true ∧ (Lit.int .i64 L).wf = true ∧ (Lit.int .i64 R).wf = true) (h1 : (Lit.int .i64 n).wf = true) (_h2 : (Lit.int .i64 a).wf = true ∧ (Lit.int .i64 b).wf = true) (_h3 : (Lit.int .i64 c).wf = true ∧ (Lit.int .i64 d).wf = true) :
    Calls Try.prog 4 #[.agg #[.int .i64 D, .int .i64 L, .int .i64 R], .int .i64 n, .agg #[.int .i64 a, .int .i64 b], .agg #[.int .i64 c, .int .i64 d]] w fun e w' => e = .returned (.bool true) ∧ Pu w w' := by
  have hn := wf_I64 h1
  clear _h0 _h2 _h3 h1
  obtain ⟨x1, x2, hx⟩ := costV_agg D L R n
  have hcp := fun u => cost_p D L R n u hn
  have hcr := fun u => cost_r D L R n u hn
  rw [hx] at hcp hcr
  clear hx
  have hbp := fun u => best_p D L R u
  have hbr := fun u => best_r D L R u
  have hlp := fun u => less_p a b c d u
  have hlr := fun u => less_r a b c d u
  have hkp := fun u => check_p D L R u
  have hkr := fun u => check_r D L R u
  have hwp := fun u => worst_p n u hn
  have hwr := fun u => worst_r n u hn
  unfold ratioV at hlp hlr
  generalize costE D L R n = ce at *
  generalize bestV D L R = bv at *
  generalize errC [D, L, R] = ec at *
  generalize lessS a b c d = ls at *
  generalize worstS n = wo at *
  obtain ⟨hn1, hn2⟩ := hn
  have hK := ((Kp.nil w).new 30 #[.int .i64 D, .int .i64 L, .int .i64 R]).new 24 #[.int .i64 a, .int .i64 b] |>.new 24 #[.int .i64 c, .int .i64 d]
  have HF : Pu w (((w.alloc (.cells #[.int .i64 D, .int .i64 L, .int .i64 R] 30)).alloc (.cells #[.int .i64 a, .int .i64 b] 24)).alloc (.cells #[.int .i64 c, .int .i64 d] 24)) := (((Fr.refl _ w).alloc _).alloc _).alloc _
  simp only [World.size_alloc] at hK
  go_enter Try.func4, Try.ntmps4
  go_wp2_with fail
  refine (hcp _).mono ?_
  rintro e w1 ⟨rfl, hf⟩
  clear hcp
  have hK := (hK.pu hf).new 24 #[.int .i64 x1, .int .i64 x2]
  have HF := (HF.pu hf).alloc (.cells #[.int .i64 x1, .int .i64 x2] 24)
  have e0 : (w1.alloc (.cells #[.int .i64 x1, .int .i64 x2] 24)).cell? ⟨w.heap.size, 0, none⟩ = some (.int .i64 D) := hK.at_ (g := w.heap.size) (t := 30) (cs := #[.int .i64 D, .int .i64 L, .int .i64 R]) (by simp) 0
  have e1 : (w1.alloc (.cells #[.int .i64 x1, .int .i64 x2] 24)).cell? ⟨w.heap.size, 1, none⟩ = some (.int .i64 L) := hK.at_ (g := w.heap.size) (t := 30) (cs := #[.int .i64 D, .int .i64 L, .int .i64 R]) (by simp) 1
  have e2 : (w1.alloc (.cells #[.int .i64 x1, .int .i64 x2] 24)).cell? ⟨w.heap.size, 2, none⟩ = some (.int .i64 R) := hK.at_ (g := w.heap.size) (t := 30) (cs := #[.int .i64 D, .int .i64 L, .int .i64 R]) (by simp) 2
  clear hf
  go_wp2_with fail
  refine (hcr _).mono ?_
  rintro e w2 ⟨rfl, hf⟩
  clear hcr e0 e1 e2
  have hK := (hK.pu hf).new 24 #[.int .i64 x1, .int .i64 x2]
  have HF := (HF.pu hf).alloc (.cells #[.int .i64 x1, .int .i64 x2] 24)
  have e0 : (w2.alloc (.cells #[.int .i64 x1, .int .i64 x2] 24)).cell? ⟨w.heap.size, 0, none⟩ = some (.int .i64 D) := hK.at_ (g := w.heap.size) (t := 30) (cs := #[.int .i64 D, .int .i64 L, .int .i64 R]) (by simp) 0
  have e1 : (w2.alloc (.cells #[.int .i64 x1, .int .i64 x2] 24)).cell? ⟨w.heap.size, 1, none⟩ = some (.int .i64 L) := hK.at_ (g := w.heap.size) (t := 30) (cs := #[.int .i64 D, .int .i64 L, .int .i64 R]) (by simp) 1
  have e2 : (w2.alloc (.cells #[.int .i64 x1, .int .i64 x2] 24)).cell? ⟨w.heap.size, 2, none⟩ = some (.int .i64 R) := hK.at_ (g := w.heap.size) (t := 30) (cs := #[.int .i64 D, .int .i64 L, .int .i64 R]) (by simp) 2
  clear hf
  go_wp2_with fail
  refine (hbp _).mono ?_
  rintro e w3 ⟨rfl, hf⟩
  clear hbp e0 e1 e2
  have hK := hK.pu hf
  have HF := HF.pu hf
  have e0 : (w3).cell? ⟨w.heap.size, 0, none⟩ = some (.int .i64 D) := hK.at_ (g := w.heap.size) (t := 30) (cs := #[.int .i64 D, .int .i64 L, .int .i64 R]) (by simp) 0
  have e1 : (w3).cell? ⟨w.heap.size, 1, none⟩ = some (.int .i64 L) := hK.at_ (g := w.heap.size) (t := 30) (cs := #[.int .i64 D, .int .i64 L, .int .i64 R]) (by simp) 1
  have e2 : (w3).cell? ⟨w.heap.size, 2, none⟩ = some (.int .i64 R) := hK.at_ (g := w.heap.size) (t := 30) (cs := #[.int .i64 D, .int .i64 L, .int .i64 R]) (by simp) 2
  clear hf
  go_wp2_with fail
  refine (hbr _).mono ?_
  rintro e w4 ⟨rfl, hf⟩
  clear hbr e0 e1 e2
  have hK := hK.pu hf
  have HF := HF.pu hf
  clear hf
  generalize w1.heap.size = g9 at *
  generalize w2.heap.size = g11 at *
  generalize hbs : [_, _, _, _, _] = bs at hK
  have HS : Hid (∀ u, Kp bs u → (u.cell? ⟨g9, 0, none⟩ = some (.int .i64 x1) ∧ u.cell? ⟨g9, 1, none⟩ = some (.int .i64 x2) ∧ u.cell? ⟨g11, 0, none⟩ = some (.int .i64 x1) ∧ u.cell? ⟨g11, 1, none⟩ = some (.int .i64 x2) ∧
      u.cell? ⟨w.heap.size + 1, 0, none⟩ = some (.int .i64 a) ∧ u.cell? ⟨w.heap.size + 1, 1, none⟩ = some (.int .i64 b) ∧ u.cell? ⟨w.heap.size + 1 + 1, 0, none⟩ = some (.int .i64 c) ∧ u.cell? ⟨w.heap.size + 1 + 1, 1, none⟩ = some (.int .i64 d) ∧
      u.cell? ⟨w.heap.size, 0, none⟩ = some (.int .i64 D) ∧ u.cell? ⟨w.heap.size, 1, none⟩ = some (.int .i64 L) ∧ u.cell? ⟨w.heap.size, 2, none⟩ = some (.int .i64 R))) := by
    intro u hu
    subst hbs
    exact ⟨hu.at_ (t := 24) (cs := #[.int .i64 x1, .int .i64 x2]) (by simp) 0, hu.at_ (t := 24) (cs := #[.int .i64 x1, .int .i64 x2]) (by simp) 1, hu.at_ (t := 24) (cs := #[.int .i64 x1, .int .i64 x2]) (by simp) 0, hu.at_ (t := 24) (cs := #[.int .i64 x1, .int .i64 x2]) (by simp) 1,
      hu.at_ (t := 24) (cs := #[.int .i64 a, .int .i64 b]) (by simp) 0, hu.at_ (t := 24) (cs := #[.int .i64 a, .int .i64 b]) (by simp) 1, hu.at_ (t := 24) (cs := #[.int .i64 c, .int .i64 d]) (by simp) 0, hu.at_ (t := 24) (cs := #[.int .i64 c, .int .i64 d]) (by simp) 1,
      hu.at_ (t := 30) (cs := #[.int .i64 D, .int .i64 L, .int .i64 R]) (by simp) 0, hu.at_ (t := 30) (cs := #[.int .i64 D, .int .i64 L, .int .i64 R]) (by simp) 1, hu.at_ (t := 30) (cs := #[.int .i64 D, .int .i64 L, .int .i64 R]) (by simp) 2⟩
  clear hbs
  have H := And.intro hK.drew HF.drew
  go_wp2_with fail
  go_region_held3 (fun u => u.cell? ⟨g9, 0, none⟩ = some (.int .i64 x1) ∧ u.cell? ⟨g9, 1, none⟩ = some (.int .i64 x2) ∧ u.cell? ⟨g11, 0, none⟩ = some (.int .i64 x1) ∧ u.cell? ⟨g11, 1, none⟩ = some (.int .i64 x2) ∧
      u.cell? ⟨w.heap.size + 1, 0, none⟩ = some (.int .i64 a) ∧ u.cell? ⟨w.heap.size + 1, 1, none⟩ = some (.int .i64 b) ∧ u.cell? ⟨w.heap.size + 1 + 1, 0, none⟩ = some (.int .i64 c) ∧ u.cell? ⟨w.heap.size + 1 + 1, 1, none⟩ = some (.int .i64 d) ∧
      u.cell? ⟨w.heap.size, 0, none⟩ = some (.int .i64 D) ∧ u.cell? ⟨w.heap.size, 1, none⟩ = some (.int .i64 L) ∧ u.cell? ⟨w.heap.size, 2, none⟩ = some (.int .i64 R)) (first | exact HS.out _ hK | exact HS.out _ H.1)
    (first | (go_at_call 8; refine (hlp _).mono ?_; rintro e u ⟨rfl, hf⟩; have H := And.intro (H.1.pu hf) (H.2.pu hf)) | (go_at_call 14; refine (hlr _).mono ?_; rintro e u ⟨rfl, hf⟩; have H := And.intro (H.1.pu hf) (H.2.pu hf)) | (go_at_call 15; refine (hkp _).mono ?_; rintro e u ⟨rfl, hf⟩; have H := And.intro (H.1.pu hf) (H.2.pu hf)) | (go_at_call 16; refine (hkr _).mono ?_; rintro e u ⟨rfl, hf⟩; have H := And.intro (H.1.pu hf) (H.2.pu hf)) | (go_at_call 17; refine (hwp _).mono ?_; rintro e u ⟨rfl, rfl⟩) | (go_at_call 18; refine (hwr _).mono ?_; rintro e u ⟨rfl, rfl⟩) | (go_at_call 9; refine (awake_any _).mono ?_; rintro e u ⟨rfl, hf⟩; have H := And.intro (H.1.pu hf) (H.2.pu hf)))
  go_wp2_with fail
  go_ret
  exact ⟨rfl, H.2⟩
end Go.Proofs.Ytckppibhnedmmaa
