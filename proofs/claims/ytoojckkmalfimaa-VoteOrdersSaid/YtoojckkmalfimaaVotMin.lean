/- The plain law of VoteMinority; answers in memory of one's own. -/
import Derived.Test.YtoojckkmalfimaaVotPl
namespace Go.Proofs.Ytoojckkmalfimaa
open Go.RowKit

theorem cnt_two (l : List (Bool × List Int)) (ss : List Bool) (m : Nat) {t t' : List Int} (h : t ≠ t') : cntT l ss m t + cntT l ss m t' ≤ numS ss m := by
  unfold cntT
  induction m with
  | zero => exact Nat.le_refl _
  | succ m ih =>
    rw [numS_step, List.range_succ, List.filter_append, List.filter_append, List.length_append, List.length_append]
    have h2 : isT l t m = true → isT l t' m = false := fun h1 => by
      unfold isT at *
      rw [of_decide_eq_true h1]
      exact decide_eq_false fun e => h (Prod.mk.inj e).2
    cases h1 : ss.getD m false <;> cases h3 : isT l t m <;> cases h4 : isT l t' m <;> simp only [List.filter_cons, List.filter_nil, h1, h3, h4, Bool.true_and, Bool.false_and, if_true, if_false, Bool.false_eq_true, List.length_cons, List.length_nil] <;> first | omega | (rw [h2 h3] at h4; cases h4)
def ansK (bads : List Bool) (wr : List Int) (right : List Int) (k : Nat) : Bool × List Int := if bads.getD k false then (decide (wr.getD k 0 < 200), right ++ [wr.getD k 0 % 3]) else (true, right)
def minL (ins bads : List Bool) (k : Nat) : List Int := ((List.range k).filter fun r => ins.getD r false && bads.getD r false).map fun r : Nat => (r : Int)
theorem minL_step (ins bads : List Bool) (k : Nat) : minL ins bads (k + 1) = if ins.getD k false && bads.getD k false then minL ins bads k ++ [(k : Int)] else minL ins bads k := by
  unfold minL
  rw [List.range_succ, List.filter_append, List.map_append]
  cases h1 : ins.getD k false <;> cases h2 : bads.getD k false <;> simp only [List.filter_cons, List.filter_nil, h1, h2, Bool.and_self, Bool.and_false, Bool.and_true, if_true, if_false, Bool.false_eq_true, List.map_cons, List.map_nil, List.append_nil]
theorem minL_len (ins bads : List Bool) (k : Nat) : (minL ins bads k).length ≤ k := by
  unfold minL
  rw [List.length_map]
  have := List.length_filter_le (fun r => ins.getD r false && bads.getD r false) (List.range k)
  simpa using this
theorem ansK_isT (bads : List Bool) (wr right : List Int) (m r : Nat) (hr : r < m) : isT ((List.range m).map (ansK bads wr right)) right r = !bads.getD r false := by
  unfold isT
  have : ((List.range m).map (ansK bads wr right)).getD r (false, []) = ansK bads wr right r := by
    rw [List.getD_eq_getElem?_getD, List.getElem?_map, List.getElem?_range hr]; rfl
  rw [this]
  unfold ansK
  cases bads.getD r false
  · rw [if_neg (by simp)]; simp
  · rw [if_pos rfl]
    refine decide_eq_false fun e => ?_
    have := congrArg List.length (Prod.mk.inj e).2
    simp at this
theorem minority (ins bads : List Bool) (wr right : List Int) {F : Int × List Int × List Int} (h : Verd ((List.range 5).map (ansK bads wr right)) ins 5 F) (hn : 0 < numS ins 5) (hb : ((minL ins bads 5).length : Int) ≤ bearsF (numS ins 5)) :
    F = (if (minL ins bads 5).length = 0 then 1 else 2, right, minL ins bads 5) := by
  have hl : losT ((List.range 5).map (ansK bads wr right)) ins 5 right = minL ins bads 5 := by
    unfold losT minL
    congr 1
    refine List.filter_congr fun r hr => ?_
    rw [ansK_isT bads wr right 5 r (List.mem_range.1 hr), Bool.not_not]
  have hc := cnt_los ((List.range 5).map (ansK bads wr right)) ins 5 right
  rw [hl] at hc
  have h5 := numS_le ins 5
  have hq : neededF (numS ins 5) = (numS ins 5 : Int) / 2 + 1 := by unfold neededF; rw [if_pos (by omega)]
  have hb' : bearsF (numS ins 5) = ((numS ins 5 : Int) - 1) / 2 := by unfold bearsF; rw [if_pos (by omega)]
  rcases h with ⟨h0, -⟩ | ⟨-, t, h1, rfl⟩ | ⟨-, h1, -⟩
  · omega
  · by_cases ht : t = right
    · subst ht
      rw [hl]
      congr 1
      by_cases h2 : (minL ins bads 5).length = 0
      · rw [if_pos h2, if_pos (by omega)]
      · rw [if_neg h2, if_neg (by omega)]
    · have := cnt_two ((List.range 5).map (ansK bads wr right)) ins 5 ht
      omega
  · have := h1 right
    omega
/-- an answer whose bytes lie in none of these blocks -/
structure AEw (M : List Hp) (w : World) (x : An) : Prop where
  ok : x.b.ok w
  n : x.b.n ≤ 140737488351232
  ne : ∀ g o, x.b.A = some ⟨g, o, none⟩ → g < w.heap.size ∧ ¬ own M g
theorem rdS {S : Nat → Prop} {w w' : World} {A : Option Addr} {xs : List Value} (hf : Fr S w w') (h : Rd w w.heap.size A xs) (hn : ∀ g o, A = some ⟨g, o, none⟩ → ¬ S g) : Rd w' w'.heap.size A xs := fun h0 => by
  obtain ⟨b, o, e, hb, hc⟩ := h h0
  exact ⟨b, o, e, Nat.lt_of_lt_of_le hb hf.size, fun j u hj => hf.cl (hc j u hj) (hn b o e)⟩
theorem AEw.keep {M M' : List Hp} {w w' : World} {x : An} (h : AEw M w x) (hm : Mm (own M) w M' w') : AEw M' w' x := by
  refine ⟨⟨h.ok.1, rdS hm.fr h.ok.2.1 fun g o e => (h.ne g o e).2, h.ok.2.2⟩, h.n, fun g o e => ⟨Nat.lt_of_lt_of_le (h.ne g o e).1 hm.fr.size, fun hg => ?_⟩⟩
  obtain ⟨y, hy, ey⟩ := hg
  rcases hm.ow y hy g ey with h1 | h1
  · have := (h.ne g o e).1; omega
  · exact (h.ne g o e).2 h1
theorem AEw.sub {M M' : List Hp} {w : World} {x : An} (h : AEw M w x) (hs : ∀ y ∈ M', y ∈ M) : AEw M' w x := ⟨h.ok, h.n, fun g o e => ⟨(h.ne g o e).1, fun ⟨y, hy, ey⟩ => (h.ne g o e).2 ⟨y, hs y hy, ey⟩⟩⟩
theorem AEw.of {S : Nat → Prop} {w0 w : World} {M : List Hp} {A : Option Nat} {n c : Nat} {t : TypeId} {xs : List Int} {cs : List Value} {h : Bool} (hm : Mm S w0 (⟨A, t, cs⟩ :: M) w) (hr : Row A n c 1 (bys xs) cs) (hB : IsB xs) (hn : n ≤ 140737488351232) : AEw M w ⟨h, ⟨A.map fun g => ⟨g, 0, none⟩, n, c, xs⟩⟩ := by
  refine ⟨⟨?_, hm.rd_row (List.mem_cons_self ..) hr, hB⟩, hn, fun g o e => ?_⟩
  · have := hr.xl
    rw [bys_len] at this
    show xs.length = n
    omega
  · cases A with
    | none => cases e
    | some b =>
      have e' : b = g := by
        have := Option.some.inj e
        injection this
      subst e'
      exact ⟨Hp.lt (hm.me _ (List.mem_cons_self ..)) rfl, fun ⟨y, hy, ey⟩ => hm.dj.1 y hy b rfl ey⟩
end Go.Proofs.Ytoojckkmalfimaa
