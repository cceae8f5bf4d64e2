/- Layer 9: how each statement begins: a deck, sizes, a layout. -/
import Derived.Test.YtfcimpfhfbkgbabDck10
import Derived.Test.YtfcimpfhfbkgbabAwk9
import Derived.Test.YtfcimpfhfbkgbabOpen
namespace Go.Proofs.Ytfcimpfhfbkgbab
open Go.RowKit

/-- the deck as one of a walk's own blocks -/
theorem Dk.at {w0 w : World} {M : List Hp} {g : Nat} {A : Option Addr} {n c at_ : Nat} {xs : List Int} (hm : Mm (fun _ => False) w0 M w) (hM : dk g A n c at_ ∈ M) (hl : xs.length = n) (hr : Rd w0 w0.heap.size A (ints xs)) (hn : n ≤ 9223372036854775807) : Dk g A n c at_ xs w := by
  refine ⟨hm.me _ hM, hl, hm.fr.rd' hr, fun hne b o e => ?_, hn⟩
  obtain ⟨b', o', e', hb, _⟩ := hr (by rw [ints_len]; exact List.length_pos_iff.2 hne)
  rw [e] at e'
  cases e'
  rcases hm.ow _ hM g rfl with h | h
  · omega
  · exact h.elim
theorem own_rep {M M' : List Hp} {x y : Hp} (r : Rep M x y M') (h : y.g = x.g) {k : Nat} (ho : own M' k) : own M k := by
  obtain ⟨z, hz, e⟩ := ho
  rcases r.mem' z hz with rfl | hz
  · exact ⟨x, r.mem, by rw [← h]; exact e⟩
  · exact ⟨z, hz, e⟩
/-- the layout's and the sizes' blocks are none of these -/
structure LS.no (x : LS) (M : List Hp) : Prop where
  a : ∀ b o, x.A = some ⟨b, o, none⟩ → ¬ own M b
  b : ∀ b o, x.B = some ⟨b, o, none⟩ → ¬ own M b
theorem LS.no.rep {x : LS} {M M' : List Hp} {y z : Hp} (hn : x.no M) (r : Rep M y z M') (h : z.g = y.g) : x.no M' :=
  ⟨fun b o e ho => hn.a b o e (own_rep r h ho), fun b o e ho => hn.b b o e (own_rep r h ho)⟩
theorem LS.no.ne {x : LS} {M : List Hp} {g : Nat} {A : Option Addr} {n c at_ : Nat} (hn : x.no M) (hM : dk g A n c at_ ∈ M) : x.ne g :=
  ⟨fun b o e hb => hn.a b o e ⟨_, hM, by rw [hb]; rfl⟩, fun b o e hb => hn.b b o e ⟨_, hM, by rw [hb]; rfl⟩⟩
theorem LS.ok.own {x : LS} {w w' : World} {M M' : List Hp} (hx : x.ok w) (hn : x.no M) (hm : Mm (own M) w M' w') : x.ok w' := hx.keep hm.fr hn.a hn.b
theorem pack9 {w0 w : World} {M : List Hp} {x : LS} (hmB : Mm (fun _ => False) w0 M w) (hno : x.no M) : ∃ M3, Mm (fun _ => False) w0 M3 w ∧ Mm (own M3) w M w ∧ x.no M3 := ⟨M, hmB, hmB.rebase, hno⟩
/-- a piece of code, and what is known behind it -/
theorem cMid {P : Program} {Q : Exit → Act → World → Prop} {a : Act} {w : World} {c : Code} (I : Act → World → Prop) (h : c.wp P (fun e a w => e = .normal ∧ I a w) a w) (k : ∀ a w, I a w → Goes Q .normal a w) : c.wp P Q a w :=
  wp_mono h fun e a w ⟨he, hi⟩ => by subst he; exact k a w hi
theorem r_of64 {n c : Nat} (h1 : n ≤ c) (h2 : c ≤ 9223372036854775807) : n ≤ 9223372036854775807 := by omega
end Go.Proofs.Ytfcimpfhfbkgbab
