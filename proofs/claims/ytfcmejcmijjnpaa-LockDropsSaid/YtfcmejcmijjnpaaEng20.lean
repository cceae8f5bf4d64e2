/- The engine, part 20: clear of a slice of an own block. -/
import Derived.Test.YtfcmejcmijjnpaaEng19
import Derived.Lib.SliceRun
namespace Go.Proofs.Ytfcmejcmijjnpaa
open Go.RowKit
variable {P : Program} {T : List (Nat × TI)} {N : Nat} {L : List (Nat × Value)} {a : Act} {w w0 : World} {S : Nat → Prop} {M M' : List Hp} {o : Oper} {x y z : Operand}

theorem d_clear {t e : TypeId} {i j : TI} {g off n c : Nat} {cs : List Value} {ts : Array TypeId} (hs : Sl N L a) (ho : o.op = .call { callee := .builtin .clear, args := #[x], argTypes := ts }) (hx : ev L x = some (.slice (some ⟨g, off, none⟩) n c)) (hts : ts = #[t]) (hT : TabOk P T) (hc : tlk T t = some i) (hd : i.d = .sl e) (he : tlk T e = some j) (hzc : j.z.cells = #[j.z]) (h1 : j.z.oneCell' = true) (hn : 0 < n)
    (hm : Mm S w0 M w) (hM : (⟨some g, e, cs⟩ : Hp) ∈ M) (hl : off + n ≤ cs.length) :
    Does P a o w (fun _ w' => ∀ M', Rep M ⟨some g, e, cs⟩ ⟨some g, e, cs.take off ++ List.replicate n j.z ++ cs.drop (off + n)⟩ M' → Mm S w0 M' w') := by
  replace hx := hs.ev hx
  subst hts
  have ht := (hT _ _ hc).sl hd
  have hzr : (Builtin.zeroCells j.z.cells n).toList = List.replicate n j.z := by
    rw [hzc]
    simp [Builtin.zeroCells]
    apply List.ext_getElem
    · simp
    · intro i h1 h2
      simp [Nat.mod_one]
  have hst := run_storeCells_at (P := P) g off e (List.replicate n j.z) 0 cs.toArray w (hm.me _ hM) (by simpa using hl) (fun u hu => by rw [List.eq_of_mem_replicate hu]; exact h1)
  simp only [Nat.add_zero, List.length_replicate] at hst
  obtain ⟨m, rfl⟩ : ∃ m, n = m + 1 := ⟨n - 1, by omega⟩
  have hrun : Sem.run P (Builtin.clear_ #[t] o.type #[.slice (some ⟨g, off, none⟩) (m + 1) c]) w = .ok (.tuple #[]) (w.setRow g (cs.take off ++ List.replicate (m + 1) j.z ++ cs.drop (off + (m + 1))).toArray) := by
    simp [Builtin.clear_, run_underlying ht, run_zero (hT _ _ he), hzr, hst]
  unfold Does execOp resolve invoke builtin
  simp only [ho, Sem.run_bind, Sem.run_pure, Result.andThen_ok, List.map_toArray, List.map_cons, List.map_nil, hx]
  rw [hrun]
  exact fun M' hR => hm.store hR
end Go.Proofs.Ytfcmejcmijjnpaa
