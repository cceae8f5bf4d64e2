/- Drop: what it leaves, lock by lock. -/
import Derived.Test.YtfcmejcmijjnpaaLk22
namespace Go.Proofs.Ytfcmejcmijjnpaa
open Go.RowKit

/-- who waits first, or -1 -/
def hdQ (qs : List (List Int)) (i : Nat) : Int := ((qs.getD i []).head?).getD (-1)
def wantN (t : Int) (a : Ab) (n : Nat) : List Int := (List.range n).foldl (fun l i => if a.os.getD i 0 = t ∧ hdQ a.qs i ≠ -1 then l ++ [hdQ a.qs i] else l) []
theorem wantN_succ (t : Int) (a : Ab) (n : Nat) : wantN t a (n + 1) = if a.os.getD n 0 = t ∧ hdQ a.qs n ≠ -1 then wantN t a n ++ [hdQ a.qs n] else wantN t a n := by
  unfold wantN
  rw [List.range_succ, List.foldl_append]
  rfl
structure DN (t : Int) (a : Ab) (n : Nat) (p : Ab × List Int) : Prop where
  ol : p.1.os.length = 4
  ql : p.1.qs.length = 4
  oe : ∀ i, i < 4 → p.1.os.getD i 0 = if i < n ∧ a.os.getD i 0 = t then hdQ a.qs i else a.os.getD i 0
  qe : ∀ i, i < 4 → p.1.qs.getD i [] = if i < n ∧ a.os.getD i 0 = t then (a.qs.getD i []).tail else a.qs.getD i []
  we : p.2 = wantN t a n
theorem dn_zero {t : Int} {a : Ab} (ho : a.os.length = 4) (hq : a.qs.length = 4) : DN t a 0 (a, []) :=
  ⟨ho, hq, fun i _ => by rw [if_neg (by omega)], fun i _ => by rw [if_neg (by omega)], rfl⟩
theorem dn_step {t : Int} {a : Ab} {n : Nat} {p : Ab × List Int} (h : DN t a n p) (hn : n < 4) : DN t a (n + 1) (dstep t p n) := by
  have ho := h.oe n hn
  have hq := h.qe n hn
  rw [if_neg (by omega)] at ho hq
  have hol := h.ol
  have hql := h.ql
  by_cases c : a.os.getD n 0 = t
  · have hg : givF p.1 n t = (⟨p.1.os.set n (hdQ a.qs n), p.1.qs.set n (a.qs.getD n []).tail⟩, hdQ a.qs n, true) ∨ (a.qs.getD n [] = [] ∧ givF p.1 n t = (⟨p.1.os.set n (hdQ a.qs n), p.1.qs⟩, hdQ a.qs n, true)) := by
      unfold givF hdQ
      rw [ho, if_pos c, hq]
      cases a.qs.getD n [] with
      | nil => exact .inr ⟨rfl, rfl⟩
      | cons u l => exact .inl rfl
    have hos : (givF p.1 n t).1.os = p.1.os.set n (hdQ a.qs n) := by rcases hg with e | ⟨_, e⟩ <;> rw [e]
    have hqs : ∀ i, i < 4 → (givF p.1 n t).1.qs.getD i [] = if n = i then (a.qs.getD n []).tail else p.1.qs.getD i [] := fun i hi => by
      rcases hg with e | ⟨e0, e⟩
      · rw [e]; dsimp only; rw [getQ_set (by omega)]
      · rw [e]
        dsimp only
        split
        · rename_i e1; subst e1; rw [hq, e0]; rfl
        · rfl
    have hql2 : (givF p.1 n t).1.qs.length = 4 := by rcases hg with e | ⟨_, e⟩ <;> rw [e] <;> simp [hql]
    have h2 : (givF p.1 n t).2 = (hdQ a.qs n, true) := by rcases hg with e | ⟨_, e⟩ <;> rw [e]
    refine ⟨?_, hql2, fun i hi => ?_, fun i hi => ?_, ?_⟩
    · unfold dstep; dsimp only; rw [hos, List.length_set]; exact hol
    · unfold dstep
      dsimp only
      rw [hos, getD_set (by omega)]
      by_cases e : n = i
      · subst e; rw [if_pos rfl, if_pos ⟨by omega, c⟩]
      · rw [if_neg e, h.oe i hi]
        by_cases e2 : i < n ∧ a.os.getD i 0 = t
        · rw [if_pos e2, if_pos ⟨by omega, e2.2⟩]
        · rw [if_neg e2, if_neg (fun e3 => e2 ⟨by omega, e3.2⟩)]
    · unfold dstep
      dsimp only
      rw [hqs i hi]
      by_cases e : n = i
      · subst e; rw [if_pos rfl, if_pos ⟨by omega, c⟩]
      · rw [if_neg e, h.qe i hi]
        by_cases e2 : i < n ∧ a.os.getD i 0 = t
        · rw [if_pos e2, if_pos ⟨by omega, e2.2⟩]
        · rw [if_neg e2, if_neg (fun e3 => e2 ⟨by omega, e3.2⟩)]
    · unfold dstep
      dsimp only
      rw [h2, wantN_succ, h.we]
      dsimp only
      by_cases e : hdQ a.qs n = -1
      · rw [if_neg (fun x => x.2 e), if_neg (fun x => x.2 e)]
      · rw [if_pos ⟨rfl, e⟩, if_pos ⟨c, e⟩]
  · have hg : givF p.1 n t = (p.1, -1, false) := by
      unfold givF
      rw [ho, if_neg c]
    have hd : dstep t p n = p := by
      unfold dstep
      rw [hg]
      dsimp only
      rw [if_neg (fun e => by cases e.1)]
    rw [hd]
    have hni : ∀ i, ((i < n ∧ a.os.getD i 0 = t) ↔ (i < n + 1 ∧ a.os.getD i 0 = t)) := fun i => by
      constructor
      · exact fun e => ⟨by omega, e.2⟩
      · intro e
        refine ⟨?_, e.2⟩
        rcases Nat.lt_or_ge i n with h1 | h1
        · exact h1
        · exact absurd (by have : i = n := by omega
                           subst this; exact e.2) c
    refine ⟨hol, hql, fun i hi => ?_, fun i hi => ?_, ?_⟩
    · rw [h.oe i hi]; simp only [hni i]
    · rw [h.qe i hi]; simp only [hni i]
    · rw [wantN_succ, if_neg (fun e => c e.1)]; exact h.we
theorem dn_all {t : Int} {a : Ab} (ho : a.os.length = 4) (hq : a.qs.length = 4) : ∀ n, n ≤ 4 → DN t a n (dropN t a n)
  | 0, _ => dn_zero ho hq
  | n + 1, hn => by
    rw [dropN_succ]
    exact dn_step (dn_all ho hq n (by omega)) (by omega)
end Go.Proofs.Ytfcmejcmijjnpaa
