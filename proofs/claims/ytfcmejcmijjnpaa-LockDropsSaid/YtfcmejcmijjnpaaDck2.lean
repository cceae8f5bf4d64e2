/- The deck, with all that is known of it; words. -/
import Derived.Test.YtfcmejcmijjnpaaDck
import Derived.Test.YtfcmejcmijjnpaaEng12
namespace Go.Proofs.Ytfcmejcmijjnpaa
open Go.RowKit

structure Dk (g : Nat) (A : Option Addr) (n c at_ : Nat) (xs : List Int) (w : World) : Prop where
  sat : (dk g A n c at_).sat w
  len : xs.length = n
  rd : Rd w w.heap.size A (ints xs)
  ne : xs ≠ [] → ∀ b o, A = some ⟨b, o, none⟩ → b ≠ g
  n : n ≤ 9223372036854775807
theorem Dk.pu {g : Nat} {A : Option Addr} {n c at_ : Nat} {xs : List Int} {w w' : World} (h : Dk g A n c at_ xs w) (hf : Pu w w') : Dk g A n c at_ xs w' :=
  ⟨Hp.sat_fr hf h.sat fun _ _ t => t, h.len, hf.rd' h.rd, h.ne, h.n⟩
theorem rdD {S : Nat → Prop} {w w' : World} {A : Option Addr} {xs : List Value} (hf : Fr S w w') (h : Rd w w.heap.size A xs) (hn : ∀ g o, A = some ⟨g, o, none⟩ → ¬ S g) : Rd w' w'.heap.size A xs := fun h0 => by
  obtain ⟨b, o, e, hb, hc⟩ := h h0
  exact ⟨b, o, e, Nat.lt_of_lt_of_le hb hf.size, fun j u hj => hf.cl (hc j u hj) (hn b o e)⟩
theorem rdN {S : Nat → Prop} {w w' : World} {A : Option Addr} {xs : List Int} (hf : Fr S w w') (h : Rd w w.heap.size A (ints xs)) (hn : xs ≠ [] → ∀ g o, A = some ⟨g, o, none⟩ → ¬ S g) : Rd w' w'.heap.size A (ints xs) := fun h0 => rdD hf h (hn (by rintro rfl; exact absurd h0 (by simp [ints]))) h0
/-- a new deck -/
theorem Dk.start {g : Nat} {A : Option Addr} {n c : Nat} {xs : List Int} {w w' : World} (hl : xs.length = n) (hr : Rd w w.heap.size A (ints xs)) (hn : n ≤ 9223372036854775807) (hN : New w w' [dk g A n c 0]) (hf : Pu w w') : Dk g A n c 0 xs w' := by
  refine ⟨hN.me _ (List.Mem.head _), hl, hf.rd' hr, fun hne b o e => ?_, hn⟩
  obtain ⟨b', o', e', hb, _⟩ := hr (by rw [ints_len]; exact List.length_pos_iff.2 hne)
  rw [e] at e'
  cases e'
  have := hN.fresh _ (List.Mem.head _) g rfl
  omega
/-- the deck as an own block of a walk -/
theorem Dk.in_ {g : Nat} {A : Option Addr} {n c at_ : Nat} {xs : List Int} {w : World} (h : Dk g A n c at_ xs w) : Mm (own [dk g A n c at_]) w [dk g A n c at_] w := dk_adopt (Mm.nil _ w) rfl h.sat
theorem Dk.now {g : Nat} {A : Option Addr} {n c a0 at_ : Nat} {xs : List Int} {w w' : World} {M : List Hp} (h : Dk g A n c a0 xs w) (hm : Mm (own [dk g A n c a0]) w M w') (hM : dk g A n c at_ ∈ M) : Dk g A n c at_ xs w' :=
  ⟨hm.me _ hM, h.len, rdN hm.fr h.rd fun hn b o e hw => h.ne hn b o e (Option.some.inj (own_dk hw)).symm, h.ne, h.n⟩
theorem Dk.out {g : Nat} {A : Option Addr} {n c a0 : Nat} {w w' : World} {M : List Hp} (hm : Mm (own [dk g A n c a0]) w M w') : Fr (fun k => (some g : Option Nat) = some k) w w' := hm.fr.mono fun _ _ hw => own_dk hw
/-- what a call with the deck leaves -/
def DkR (g : Nat) (A : Option Addr) (n c : Nat) (xs : List Int) (w w' : World) : Prop := ∃ at_, Dk g A n c at_ xs w' ∧ Fr (fun k => (some g : Option Nat) = some k) w w'
theorem nxt_c (g : Nat) (A : Option Addr) (n c at_ : Nat) (xs : List Int) (m : Int) (w : World) (h : Dk g A n c at_ xs w) (hm0 : 0 < m) (hm1 : m ≤ 2000000) :
    Ret Try.prog 9 [.pointer (some ⟨g, 0, none⟩), .int .i64 m] w (fun u w' => ∃ r : Nat, u = .int .i64 (r : Int) ∧ (r : Int) < m ∧ DkR g A n c xs w w') :=
  (dnext_c g A n c at_ xs m w h.sat h.len h.rd h.ne hm0 hm1 h.n).mono fun u w' ⟨h1, h2, h3⟩ => by
    have hb := dkV_bd xs at_ hm0
    refine ⟨(dkV xs at_ m).toNat, by rw [h1]; congr 1; omega, by omega, dkAt n at_, ⟨h2, h.len, rdN h3 h.rd fun hn b o e hw => h.ne hn b o e (Option.some.inj hw).symm, h.ne, h.n⟩, h3⟩
theorem Mm.dkt {S : Nat → Prop} {w0 w w' : World} {M M' : List Hp} {g : Nat} {A : Option Addr} {n c a0 a1 : Nat} {xs : List Int} (hm : Mm S w0 M w) (r : Rep M (dk g A n c a0) (dk g A n c a1) M') (h : Dk g A n c a1 xs w') (hf : Fr (fun k => (some g : Option Nat) = some k) w w') : Mm S w0 M' w' := hm.turn r hf h.sat (fun _ h => .inl h)
end Go.Proofs.Ytfcmejcmijjnpaa
