/- Layer 9: pointers in layouts whose regions do not overlap. -/
import Derived.Test.YtfcimpfhfbkgbaaLay7
import Derived.Test.YtfcimpfhfbkgbaaDck9
namespace Go.Proofs.Ytfcimpfhfbkgbaa
open Go.RowKit

theorem resF_none {x : LS} (ha : x.apt) {r : Nat} {o : Int} (hr : r < x.n) (h0 : 0 ≤ o) (h1 : o < x.ss.getD r 0) : ∀ k, k ≤ r → resF x.bs x.ss (x.bs.getD r 0 + o) k = none
  | 0, _ => rfl
  | k + 1, hk => by
    refine resF_miss (resF_none ha hr h0 h1 k (by omega)) fun ⟨h2, h3⟩ => ?_
    rcases ha.ap k r (by omega) hr (by omega) with h | h <;> omega
theorem resF_self {x : LS} (ha : x.apt) {r : Nat} {o : Int} (hr : r < x.n) (h0 : 0 ≤ o) (h1 : o < x.ss.getD r 0) : resF x.bs x.ss (x.bs.getD r 0 + o) x.n = some (r, o) := by
  have h := resF_hit (resF_none ha hr h0 h1 r (Nat.le_refl r)) hr (by omega) (by omega)
  rw [h]
  congr 2
  omega
theorem wrap16s {v : Int} (h : 0 ≤ v ∧ v ≤ 65535) : IntKind.u16.wrap v = v := by simp [IntKind.wrap, IntKind.bits, IntKind.signed]; omega
theorem LS.ok.ssb {x : LS} {w : World} (hx : x.ok w) {r : Nat} (hr : r < x.n) : 1 ≤ x.ss.getD r 0 ∧ x.ss.getD r 0 ≤ 32 := by
  have hl := hx.sl
  rw [getI (by omega)]
  exact hx.s _ (List.getElem_mem _)
/-- what a pointer that is in a region gives -/
structure PtrIn (x : LS) (v : Int) (r : Nat) (o : Int) : Prop where
  rlt : r < x.n
  oin : 0 ≤ o ∧ o < x.ss.getD r 0
  veq : v = x.bs.getD r 0 + o
  res : resF x.bs x.ss v x.n = some (r, o)
theorem PtrIn.mk' {x : LS} (ha : x.apt) {r : Nat} {o : Int} (hr : r < x.n) (h0 : 0 ≤ o) (h1 : o < x.ss.getD r 0) : PtrIn x (x.bs.getD r 0 + o) r o := ⟨hr, ⟨h0, h1⟩, rfl, resF_self ha hr h0 h1⟩
theorem PtrIn.bd {x : LS} {w : World} {v : Int} {r : Nat} {o : Int} (h : PtrIn x v r o) (hx : x.ok w) (ha : x.apt) : 1 ≤ v ∧ v ≤ 632 := by
  have h1 := ha.b r h.rlt
  have h2 := hx.ssb h.rlt
  have h3 := h.oin
  have h4 := h.veq
  omega
theorem insF_ptr {x : LS} {w : World} (hx : x.ok w) {r : Nat} {o : Int} (hr : r < x.n) : insF x.ss (r : Int) o = (decide (0 ≤ o) && decide (o < x.ss.getD r 0)) := by
  have hl := hx.sl
  unfold insF
  rw [Int.toNat_natCast, decide_eq_true (show (0 : Int) ≤ (r : Int) by omega), decide_eq_true (show (r : Int) < (x.ss.length : Int) by omega)]
  rfl
theorem movF_in {x : LS} {w : World} {v : Int} {r : Nat} {o : Int} (h : PtrIn x v r o) (hx : x.ok w) (ha : x.apt) (k : Int) (back : Bool) : (∃ q : Int, PtrIn x q r (if back then o + -k else o + k) ∧ movF x 1 v k back = ((1, q), 0)) ∨ movF x 1 v k back = ((0, 0), 4) := by
  unfold movF
  rw [if_pos rfl, h.res]
  dsimp only
  generalize (if back = true then o + -k else o + k) = o2
  rw [insF_ptr hx h.rlt]
  by_cases h1 : 0 ≤ o2 ∧ o2 < x.ss.getD r 0
  · left
    have hp := PtrIn.mk' ha h.rlt h1.1 h1.2
    have hb := hp.bd hx ha
    refine ⟨_, hp, ?_⟩
    rw [if_pos (by rw [decide_eq_true h1.1, decide_eq_true h1.2]; rfl), wrap16s (by omega)]
  · right
    rw [if_neg (fun h => h1 (by rwa [Bool.and_eq_true, decide_eq_true_eq, decide_eq_true_eq] at h))]
theorem movF_step {x : LS} {w : World} {v : Int} {r : Nat} {o : Int} (h : PtrIn x v r o) (hx : x.ok w) (ha : x.apt) {k : Int} (hk : 0 ≤ k ∧ k ≤ 15) :
    movF x 1 v k false = ((0, 0), 4) ∨ ∃ q, movF x 1 v k false = ((1, q), 0) ∧ PtrIn x q r (o + k) ∧ movF x 1 q k true = ((1, v), 0) ∧ doF x 4 1 q 1 v = ((0, k), 0) ∧ doF x 13 1 v 1 q = ((0, if 0 < k then 1 else 0), 0) ∧ doF x 14 1 v 1 q = ((0, if k = 0 then 1 else 0), 0) := by
  rcases movF_in h hx ha k false with ⟨q, hq, e⟩ | e
  · right
    replace hq : PtrIn x q r (o + k) := hq
    have hqo := hq.oin
    have hvq := hq.veq
    have hvv := h.veq
    refine ⟨q, e, hq, ?_, ?_, ?_, ?_⟩
    · rcases movF_in hq hx ha k true with ⟨p, hp, e2⟩ | e2
      · rw [e2]
        replace hp : PtrIn x p r (o + k + -k) := hp
        have := hp.veq
        rw [show p = v by omega]
      · exfalso
        unfold movF at e2
        rw [if_pos rfl, hq.res] at e2
        dsimp only at e2
        have e3 : (if true = true then o + k + -k else o + k + k) = o := by rw [if_pos rfl]; omega
        rw [e3, insF_ptr hx h.rlt, if_pos (by rw [decide_eq_true (by have := h.oin; omega), decide_eq_true (by have := h.oin; omega)]; rfl)] at e2
        cases e2
    · rw [doF_apt (.inl rfl)]
      unfold aptF
      rw [hq.res, h.res]
      dsimp only
      rw [if_pos rfl]
      unfold aptR
      dsimp only
      rw [if_pos rfl, show o + k - o = k by omega, wrap16s (by omega)]
    · rw [doF_apt (.inr rfl)]
      unfold aptF
      rw [hq.res, h.res]
      dsimp only
      rw [if_pos rfl]
      unfold aptR
      dsimp only
      rw [if_neg (by omega)]
      congr 2
      by_cases hk0 : 0 < k
      · rw [if_pos hk0, if_pos (by omega)]
      · rw [if_neg hk0, if_neg (by omega)]
    · unfold doF
      rw [if_neg (by omega), if_pos rfl]
      congr 2
      by_cases hk0 : k = 0
      · rw [if_pos hk0, if_pos ⟨rfl, by omega⟩]
      · rw [if_neg hk0, if_neg (fun hh => hk0 (by have := hh.2; omega))]
  · exact .inl e
end Go.Proofs.Ytfcimpfhfbkgbaa
