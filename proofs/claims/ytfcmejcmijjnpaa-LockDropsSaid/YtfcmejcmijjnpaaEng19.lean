/- Append of one element to an own row that begins somewhere in its block. -/
import Derived.Test.YtfcmejcmijjnpaaEng18
namespace Go.Proofs.Ytfcmejcmijjnpaa
open Go.RowKit

structure RowO (A : Option Nat) (off n c : Nat) (xs cs : List Value) : Prop where
  nil : A = none → n = 0 ∧ c = 0
  le : n ≤ c
  cm : c ≤ maxLen
  len : A.isSome = true → off + c ≤ cs.length
  xl : xs.length = n
  cell : ∀ j u, xs[j]? = some u → cs[off + j]? = some u
def slo (A : Option Nat) (off n c : Nat) : Value := .slice (A.map fun g => ⟨g, off, none⟩) n c
theorem Row.rowO {A : Option Nat} {n c : Nat} {xs cs : List Value} (h : Row A n c 1 xs cs) : RowO A 0 n c xs cs :=
  ⟨h.nil, h.le, h.cm, fun _ => by rw [h.len]; omega, by have := h.xl; omega, fun j u hj => by rw [Nat.zero_add]; exact h.get hj⟩
theorem RowO.empty : RowO none 0 0 0 [] [] := (Row.empty 1).rowO
section
variable {P : Program} {T : List (Nat × TI)} {N : Nat} {L : List (Nat × Value)} {a : Act} {w w0 : World} {S : Nat → Prop} {M M' : List Hp} {o : Oper} {x y z : Operand}
theorem d_appendO {t e : TypeId} {i j : TI} {A : Option Nat} {off n c c2 g2 o2 : Nat} {v : Value} {xs cs : List Value} {ts : Array TypeId} (hs : Sl N L a) (ho : o.op = .call { callee := .builtin .append, args := #[x, y], argTypes := ts }) (hx : ev L x = some (slo A off n c)) (hy : ev L y = some (.slice (some ⟨g2, o2, none⟩) 1 c2)) (hts : ts = #[t, t]) (hT : TabOk P T) (hc : tlk T t = some i) (hd : i.d = .sl e) (he : tlk T e = some j) (hsz : Nat.beq j.sz 1 = true) (hzl : j.z.cells.size = j.sz)
    (hm : Mm S w0 M w) (hM : (⟨A, e, cs⟩ : Hp) ∈ M) (hr : RowO A off n c xs cs) (hnew : Ro w g2 o2 [v]) (h1 : v.oneCell' = true) (hb : (n + 1) * j.by_ ≤ 140737488355328) (h63 : n + 1 ≤ 140737488355328) :
    Does P a o w (fun u w' => ∃ A' off' c' cs', u = slo A' off' (n + 1) c' ∧ RowO A' off' (n + 1) c' (xs ++ [v]) cs' ∧ ∀ M', Rep M ⟨A, e, cs⟩ ⟨A', e, cs'⟩ M' → Mm S w0 M' w') := by
  have hsz1 : j.sz = 1 := Nat.eq_of_beq_eq_true hsz
  cases hA : A with
  | none =>
    subst hA
    obtain ⟨rfl, rfl⟩ := hr.nil rfl
    have hx0 : xs = [] := List.eq_nil_of_length_eq_zero hr.xl
    have hc0 : cs = [] := hm.me _ hM
    subst hx0; subst hc0
    refine (d_append (A := none) (n := 0) (c := 0) (xs := []) (news := [v]) hs ho hx hy rfl hts hT hc hd he (by rw [hsz1]; rfl) hzl hm hM (by rw [hsz1]; exact Row.empty 1) (by rw [hsz1]; rfl) hnew (by simp [h1]) hb h63).mono ?_
    rintro u w' ⟨A', c', cs', h2, h3, h4⟩
    rw [hsz1] at h3
    exact ⟨A', 0, c', cs', h2, h3.rowO, h4⟩
  | some g =>
    subst hA
    replace hx := hs.ev hx; replace hy := hs.ev hy
    subst hts
    obtain ⟨i0, q1, q2, q3, q4⟩ := (hT _ _ he).info
    have hlen := hr.len rfl
    have hle := hr.le
    have hxl := hr.xl
    have ht := (hT _ _ hc).sl hd
    have hsat := hm.me _ hM
    have hnews : ∀ k u, [v][k]? = some u → w.cell? ((⟨g2, o2, none⟩ : Addr).add k) = some u := fun k u hu => by rw [add_lit]; exact hnew k u hu
    by_cases hroom : n + 1 ≤ c
    · have hfc := run_firstCells_some (P := P) w i0.size 1 ⟨g2, o2, none⟩ 1 c2 [v] (by rw [q3, hsz1]; rfl) hnews
      have hst := run_storeCells_at (P := P) g (off + n * i0.size) e [v] 0 cs.toArray w hsat (by rw [q3, hsz1]; simp; omega) (fun u hu => by rcases List.mem_singleton.1 hu with rfl; exact h1)
      have hrun : Sem.run P (Builtin.append_ #[t, t] o.type #[.slice (some ⟨g, off, none⟩) n c, .slice (some ⟨g2, o2, none⟩) 1 c2]) w = .ok (.slice (some ⟨g, off, none⟩) (n + 1) c) (w.setRow g (cs.set (off + n) v).toArray) := by
        have hz1 : i0.size = 1 := by rw [q3, hsz1]
        rw [hz1] at hfc hst
        simp only [Nat.add_zero, Nat.mul_one] at hst
        simp [Builtin.append_, run_underlying ht, sizeOf, typeInfo, q1, Builtin.lenOf, hroom, hz1, hfc, Addr.add_lit]
        rw [hst, Result.andThen_ok, List.set_eq_take_append_cons_drop, if_pos (by omega)]
        simp
      unfold Does execOp resolve invoke builtin
      simp only [ho, Sem.run_bind, Sem.run_pure, Result.andThen_ok, List.map_toArray, List.map_cons, List.map_nil, hx, hy]
      rw [show slo (some g) off n c = .slice (some ⟨g, off, none⟩) n c from rfl, hrun]
      refine ⟨some g, off, c, cs.set (off + n) v, rfl, ⟨(fun e => by cases e), hroom, hr.cm, fun _ => by rw [List.length_set]; exact hlen, by simp [hxl], fun k u hk => ?_⟩, fun M' hR => hm.store hR⟩
      rw [List.getElem?_append] at hk
      split at hk
      · rename_i hlt
        rw [List.getElem?_set_ne (by omega)]
        exact hr.cell k u hk
      · rename_i hlt
        have hk0 : k - xs.length = 0 := by
          rcases Nat.eq_zero_or_pos (k - xs.length) with h | h
          · exact h
          · rw [List.getElem?_eq_none (by simp; omega)] at hk; cases hk
        have hkn : k = n := by omega
        subst hkn
        rw [hk0] at hk
        rw [List.getElem?_set_self (by omega)]
        exact hk
    · obtain ⟨v', w', hrun, hown, hgr⟩ := run_append_arg_grows (P := P) w t o.type e i0 j.z 1 j.by_ ht q1 q2 (by rw [q3, hsz1]) q4 (by rw [hzl, hsz1]) (by omega) ⟨g, off, none⟩ n c xs (by rw [hxl, Nat.mul_one]) (fun k u hk => by rw [add_lit, hm.at_ hM]; exact hr.cell k u hk) ⟨g2, o2, none⟩ 1 c2 [v] rfl hnews (by omega) (by unfold maxLen; omega) hb
      obtain ⟨A', c', cs', rfl, hrow, hsat', hg'⟩ := Row.of_own hown
      unfold Does execOp resolve invoke builtin
      simp only [ho, Sem.run_bind, Sem.run_pure, Result.andThen_ok, List.map_toArray, List.map_cons, List.map_nil, hx, hy]
      rw [show slo (some g) off n c = .slice (some ⟨g, off, none⟩) n c from rfl, hrun]
      refine ⟨A', 0, c', cs', rfl, hrow.rowO, fun M' hR => hm.turn hR ⟨hgr.os, hgr.tape, hgr.output, hgr.size, fun k hk _ => hgr.block k hk (fun e => by cases e)⟩ hsat' fun g0 hg0 => .inr (hg' g0 hg0).2⟩
end
end Go.Proofs.Ytfcmejcmijjnpaa
