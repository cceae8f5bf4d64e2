/- Taking and giving keep locks valid. -/
import Derived.Test.YtfcmejcmijjnpaaLk13
namespace Go.Proofs.Ytfcmejcmijjnpaa
open Go.RowKit

theorem getD_set {l : List Int} {i j : Nat} {v : Int} (hi : i < l.length) : (l.set i v).getD j 0 = if i = j then v else l.getD j 0 := by
  simp only [List.getD_eq_getElem?_getD, List.getElem?_set]
  by_cases h : i = j
  · subst h; simp [hi]
  · simp [h]
theorem getQ_set {l : List (List Int)} {i j : Nat} {v : List Int} (hi : i < l.length) : (l.set i v).getD j [] = if i = j then v else l.getD j [] := by
  simp only [List.getD_eq_getElem?_getD, List.getElem?_set]
  by_cases h : i = j
  · subst h; simp [hi]
  · simp [h]
theorem getQ {l : List (List Int)} {k : Nat} (h : k < l.length) : l.getD k [] = l[k] := by rw [List.getD_eq_getElem?_getD, List.getElem?_eq_getElem h]; rfl
theorem flatQ_set {qs : List (List Int)} {k : Nat} (h : k < qs.length) (q : List Int) : (qs.set k q).flatten = (qs.take k).flatten ++ (q ++ (qs.drop (k + 1)).flatten) := by
  rw [List.set_eq_take_append_cons_drop, if_pos h, List.flatten_append, List.flatten_cons]
theorem flatQ_at {qs : List (List Int)} {k : Nat} (h : k < qs.length) : qs.flatten = (qs.take k).flatten ++ (qs[k] ++ (qs.drop (k + 1)).flatten) := by
  have := flatQ_set h qs[k]
  rwa [List.set_getElem_self] at this
theorem wt_mem {a : Ab} {t : Int} (h : a.wt t = false) : ∀ q ∈ a.qs, t ∉ q := fun q hq ht => by
  unfold Ab.wt at h
  have := List.any_eq_false.1 h q hq
  exact this (by rw [List.any_eq_true]; exact ⟨t, ht, by simp⟩)
theorem newA_va : VA newA := by
  refine ⟨rfl, rfl, fun v hv => ?_, fun i hi _ => ?_, fun q hq t ht => ?_, fun i t hi ht => ?_, ?_⟩
  · rw [List.eq_of_mem_replicate hv]; omega
  · unfold newA
    rcases (by omega : i = 0 ∨ i = 1 ∨ i = 2 ∨ i = 3) with rfl | rfl | rfl | rfl <;> rfl
  · rw [List.eq_of_mem_replicate hq] at ht; cases ht
  · have : newA.qs.getD i [] = [] := by
      unfold newA
      rcases (by omega : i = 0 ∨ i = 1 ∨ i = 2 ∨ i = 3) with rfl | rfl | rfl | rfl <;> rfl
    rw [this] at ht; cases ht
  · show (List.replicate 4 ([] : List Int)).flatten.Nodup
    exact List.nodup_nil
section
variable {a : Ab} {k : Nat} {t : Int}
theorem set_own_va (h : VA a) (hk : k < 4) {v : Int} (hv : -1 ≤ v ∧ v < 4) (he : v = -1 → a.qs.getD k [] = []) (hn : v ∉ a.qs.getD k []) : VA ⟨a.os.set k v, a.qs⟩ := by
  have ho := h.o
  refine ⟨by dsimp only; rw [List.length_set]; exact ho, h.q, fun u hu => ?_, fun i hi hi1 => ?_, h.qb, fun i u hi hu => ?_, h.nd⟩
  · rcases List.mem_or_eq_of_mem_set hu with hu | rfl
    · exact h.ob u hu
    · exact hv
  · dsimp only at hi1 ⊢
    rw [getD_set (by omega)] at hi1
    by_cases e : k = i
    · subst e; rw [if_pos rfl] at hi1; exact he hi1
    · rw [if_neg e] at hi1; exact h.e i hi hi1
  · dsimp only at hu ⊢
    rw [getD_set (by omega)]
    by_cases e : k = i
    · subst e; rw [if_pos rfl]; exact fun e => hn (e ▸ hu)
    · rw [if_neg e]; exact h.ne i u hi hu
theorem tak_va (h : VA a) (hk : k < 4) (ht : 0 ≤ t ∧ t < 4) : VA (takF a k t).1 := by
  have ho := h.o
  have hq := h.q
  unfold takF
  by_cases c1 : a.os.getD k 0 = t
  · rw [if_pos c1]; exact h
  rw [if_neg c1]
  cases hw : a.wt t
  · rw [if_neg (by simp)]
    have hnm := wt_mem hw
    have hkq : k < a.qs.length := by omega
    by_cases c3 : a.os.getD k 0 = -1
    · rw [if_pos c3]
      have he := h.e k hk c3
      exact set_own_va h hk (by omega) (fun _ => he) (by rw [he]; simp)
    · rw [if_neg c3]
      have hqk := getQ hkq
      refine ⟨ho, by dsimp only; rw [List.length_set]; exact hq, h.ob, fun i hi hi1 => ?_, fun q hq' u hu => ?_, fun i u hi hu => ?_, ?_⟩
      · dsimp only at hi1 ⊢
        rw [getQ_set hkq]
        by_cases e : k = i
        · subst e; exact absurd hi1 c3
        · rw [if_neg e]; exact h.e i hi hi1
      · rcases List.mem_or_eq_of_mem_set hq' with hq' | rfl
        · exact h.qb q hq' u hu
        · rcases List.mem_append.1 hu with hu | hu
          · rw [hqk] at hu; exact h.qb _ (List.getElem_mem _) u hu
          · rcases List.mem_singleton.1 hu with rfl; exact ht
      · dsimp only at hu ⊢
        rw [getQ_set hkq] at hu
        by_cases e : k = i
        · subst e
          rw [if_pos rfl] at hu
          rcases List.mem_append.1 hu with hu | hu
          · exact h.ne k u hk hu
          · rcases List.mem_singleton.1 hu with rfl; exact fun e => c1 e.symm
        · rw [if_neg e] at hu; exact h.ne i u hi hu
      · dsimp only
        have hnd := h.nd
        rw [flatQ_at hkq] at hnd
        rw [flatQ_set hkq, hqk]
        have hp : ((a.qs.take k).flatten ++ ((a.qs[k] ++ [t]) ++ (a.qs.drop (k + 1)).flatten)).Perm (t :: ((a.qs.take k).flatten ++ (a.qs[k] ++ (a.qs.drop (k + 1)).flatten))) := by
          rw [List.append_assoc a.qs[k], List.singleton_append, ← List.append_assoc, ← List.append_assoc]
          exact List.perm_middle
        rw [hp.nodup_iff, List.nodup_cons]
        refine ⟨fun hm => ?_, hnd⟩
        rw [← flatQ_at hkq] at hm
        obtain ⟨q, hq', hm'⟩ := List.mem_flatten.1 hm
        exact hnm q hq' hm'
  · rw [if_pos rfl]; exact h
theorem giv_va (h : VA a) (hk : k < 4) : VA (givF a k t).1 := by
  have ho := h.o
  have hq := h.q
  have hkq : k < a.qs.length := by omega
  have hqk := getQ hkq
  unfold givF
  by_cases c1 : a.os.getD k 0 = t
  · rw [if_pos c1]
    cases hx : a.qs.getD k [] with
    | nil => exact set_own_va h hk (by omega) (fun _ => hx) (by rw [hx]; simp)
    | cons u l =>
      dsimp only
      have hmem : u :: l ∈ a.qs := by rw [← hx, hqk]; exact List.getElem_mem _
      have hub := h.qb _ hmem u (List.mem_cons_self ..)
      have hnd := h.nd
      rw [flatQ_at hkq, ← hqk, hx] at hnd
      have hul : (u :: l).Nodup := hnd.sublist ((List.sublist_append_left _ _).trans (List.sublist_append_right _ _))
      have h2 : VA ⟨a.os, a.qs.set k l⟩ := by
        refine ⟨ho, by dsimp only; rw [List.length_set]; exact hq, h.ob, fun i hi hi1 => ?_, fun q hq' v hv => ?_, fun i v hi hv => ?_, ?_⟩
        · dsimp only at hi1 ⊢
          rw [getQ_set hkq]
          by_cases e : k = i
          · subst e
            have := h.e k hk hi1
            rw [hx] at this; cases this
          · rw [if_neg e]; exact h.e i hi hi1
        · rcases List.mem_or_eq_of_mem_set hq' with hq' | rfl
          · exact h.qb q hq' v hv
          · exact h.qb _ hmem v (List.mem_cons_of_mem _ hv)
        · dsimp only at hv ⊢
          rw [getQ_set hkq] at hv
          by_cases e : k = i
          · subst e
            rw [if_pos rfl] at hv
            exact h.ne k v hk (by rw [hx]; exact List.mem_cons_of_mem _ hv)
          · rw [if_neg e] at hv; exact h.ne i v hi hv
        · dsimp only
          rw [flatQ_set hkq]
          exact hnd.sublist (List.Sublist.append_left (List.Sublist.append_right (List.sublist_cons_self u l) _) _)
      refine set_own_va h2 hk (by omega) (fun e => by omega) ?_
      dsimp only
      rw [getQ_set hkq, if_pos rfl]
      exact (List.nodup_cons.1 hul).1
  · rw [if_neg c1]; exact h
end
end Go.Proofs.Ytfcmejcmijjnpaa
