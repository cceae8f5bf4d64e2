/- The plain law of VoteOrders: turned lists. -/
import Derived.Test.YtoojckkmalfimaaVotMin
namespace Go.Proofs.Ytoojckkmalfimaa
open Go.RowKit

def cn (p : Nat → Bool) : Nat → Nat
  | 0 => 0
  | m + 1 => cn p m + (p m).toNat
theorem cn_eq (p : Nat → Bool) (m : Nat) : ((List.range m).filter p).length = cn p m := by
  induction m with
  | zero => rfl
  | succ m ih =>
    rw [List.range_succ, List.filter_append, List.length_append, ih]
    unfold cn
    cases h : p m <;> simp only [List.filter_cons, List.filter_nil, h, if_true, if_false, Bool.false_eq_true, List.length_cons, List.length_nil, Bool.toNat_true, Bool.toNat_false]
    · rw [cn.eq_def]
    · rw [cn.eq_def]
theorem rot_cn (p : Nat → Bool) (m T : Nat) (h0 : 0 < m) (h5 : m ≤ 5) : cn (fun j => p ((j + T) % m)) m = cn p m := by
  have e : ∀ j, (j + T) % m = (j + T % m) % m := fun j => by rw [Nat.add_mod_mod]
  have e' : (fun j => p ((j + T) % m)) = fun j => p ((j + T % m) % m) := funext fun j => by rw [e]
  rw [e']
  have hT := Nat.mod_lt T h0
  generalize T % m = t at *
  rcases (by omega : m = 1 ∨ m = 2 ∨ m = 3 ∨ m = 4 ∨ m = 5) with rfl | rfl | rfl | rfl | rfl
  · obtain rfl : t = 0 := by omega
    rfl
  · rcases (by omega : t = 0 ∨ t = 1) with rfl | rfl <;> simp only [cn, Nat.reduceAdd, Nat.reduceMod] <;> omega
  · rcases (by omega : t = 0 ∨ t = 1 ∨ t = 2) with rfl | rfl | rfl <;> simp only [cn, Nat.reduceAdd, Nat.reduceMod] <;> omega
  · rcases (by omega : t = 0 ∨ t = 1 ∨ t = 2 ∨ t = 3) with rfl | rfl | rfl | rfl <;> simp only [cn, Nat.reduceAdd, Nat.reduceMod] <;> omega
  · rcases (by omega : t = 0 ∨ t = 1 ∨ t = 2 ∨ t = 3 ∨ t = 4) with rfl | rfl | rfl | rfl | rfl <;> simp only [cn, Nat.reduceAdd, Nat.reduceMod] <;> omega
def rotF {α : Type} (l : List α) (d : α) (T m i : Nat) : List α := (List.range i).map fun j => l.getD ((j + T) % m) d
theorem rotF_step {α : Type} (l : List α) (d : α) (T m i : Nat) : rotF l d T m (i + 1) = rotF l d T m i ++ [l.getD ((i + T) % m) d] := by
  unfold rotF
  rw [List.range_succ, List.map_append]; rfl
theorem rotF_len {α : Type} (l : List α) (d : α) (T m i : Nat) : (rotF l d T m i).length = i := by simp [rotF]
theorem rotF_getD {α : Type} (l : List α) (d : α) (T m i r : Nat) (hr : r < i) : (rotF l d T m i).getD r d = l.getD ((r + T) % m) d := by
  unfold rotF
  rw [List.getD_eq_getElem?_getD, List.getElem?_map, List.getElem?_range hr]; rfl
theorem rot_num (ss : List Bool) (T m : Nat) (h0 : 0 < m) (h5 : m ≤ 5) : numS (rotF ss false T m m) m = numS ss m := by
  unfold numS
  rw [cn_eq (fun r => ss.getD r false), ← rot_cn (fun r => ss.getD r false) m T h0 h5, ← cn_eq]
  congr 1
  exact List.filter_congr fun r hr => rotF_getD ss false T m m r (List.mem_range.1 hr)
theorem rot_cnt (l : List (Bool × List Int)) (ss : List Bool) (T m : Nat) (t : List Int) (h0 : 0 < m) (h5 : m ≤ 5) : cntT (rotF l (false, []) T m m) (rotF ss false T m m) m t = cntT l ss m t := by
  unfold cntT
  rw [cn_eq (fun r => ss.getD r false && isT l t r), ← rot_cn (fun r => ss.getD r false && isT l t r) m T h0 h5, ← cn_eq]
  congr 1
  refine List.filter_congr fun r hr => ?_
  unfold isT
  rw [rotF_getD ss false T m m r (List.mem_range.1 hr), rotF_getD l (false, []) T m m r (List.mem_range.1 hr)]
theorem orders (l : List (Bool × List Int)) (ss : List Bool) (T m : Nat) (h0 : 0 < m) (h5 : m ≤ 5) {F F' : Int × List Int × List Int} (h : Verd l ss m F) (h' : Verd (rotF l (false, []) T m m) (rotF ss false T m m) m F') : F.1 = F'.1 ∧ F.2.1 = F'.2.1 ∧ F.2.2.length = F'.2.2.length := by
  have e1 := rot_num ss T m h0 h5
  have e2 := fun t => rot_cnt l ss T m t h0 h5
  have e3 := fun t => cnt_los (rotF l (false, []) T m m) (rotF ss false T m m) m t
  have e4 := fun t => cnt_los l ss m t
  have h6 := numS_le ss m
  unfold Verd at h'
  rw [e1] at h' e3
  rcases h with ⟨a, rfl⟩ | ⟨a, t, b, rfl⟩ | ⟨a, b, rfl⟩
  · rcases h' with ⟨-, rfl⟩ | ⟨c, -⟩ | ⟨c, -⟩
    · exact ⟨rfl, rfl, rfl⟩
    · omega
    · omega
  · have hq : neededF (numS ss m) = (numS ss m : Int) / 2 + 1 := by unfold neededF; rw [if_pos (by omega)]
    rcases h' with ⟨c, -⟩ | ⟨-, t', c, rfl⟩ | ⟨-, c, -⟩
    · omega
    · rw [e2] at c
      have ht : t = t' := by
        rcases Classical.em (t = t') with h | h
        · exact h
        · have := cnt_two l ss m h; omega
      subst ht
      rw [e2]
      refine ⟨rfl, rfl, ?_⟩
      have h1 := e3 t
      have h2 := e4 t
      rw [e2] at h1
      show (losT l ss m t).length = (losT _ _ m t).length
      omega
    · have := c t; rw [e2] at this; omega
  · rcases h' with ⟨c, -⟩ | ⟨-, t', c, -⟩ | ⟨-, -, rfl⟩
    · omega
    · have := b t'; rw [e2] at c; omega
    · exact ⟨rfl, rfl, rfl⟩
end Go.Proofs.Ytoojckkmalfimaa
