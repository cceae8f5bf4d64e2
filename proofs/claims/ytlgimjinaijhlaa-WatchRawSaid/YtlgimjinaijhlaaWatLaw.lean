/- Watches: the plain law of a step. -/
import Derived.Test.YtlgimjinaijhlaaLib
namespace Go.Proofs.Ytlgimjinaijhlaa

/-- the count behind an entry: k borne, m so far, a: in, b: it answered -/
def one (k m : Int) (a b : Bool) : Int := if a && !b && decide (m + 1 ≤ k) then m + 1 else 0
/-- given up at this entry -/
def lost (k m : Int) (a b : Bool) : Bool := a && !b && decide (k < m + 1)
/-- the counts when i replicas have been looked at -/
def toI (k : Int) : List Int → List Bool → List Bool → Nat → List Int
  | m :: ms, a :: as, b :: bs, i + 1 => one k m a b :: toI k ms as bs i
  | ms, _, _, _ => ms
/-- who is given up among the first i, counted from s on -/
def upI (k : Int) : List Int → List Bool → List Bool → Nat → Int → List Int
  | m :: ms, a :: as, b :: bs, i + 1, s => (if lost k m a b then [s] else []) ++ upI k ms as bs i (s + 1)
  | _, _, _, _, _ => []
theorem toI_zero (k : Int) (ms : List Int) (as bs : List Bool) : toI k ms as bs 0 = ms := by cases ms <;> cases as <;> cases bs <;> rfl
theorem upI_zero (k : Int) (ms : List Int) (as bs : List Bool) (s : Int) : upI k ms as bs 0 s = [] := by cases ms <;> cases as <;> cases bs <;> rfl
theorem toI_len (k : Int) (ms : List Int) (as bs : List Bool) (i : Nat) : (toI k ms as bs i).length = ms.length := by
  induction ms generalizing as bs i with
  | nil => simp [toI]
  | cons m ms ih => cases as <;> cases bs <;> cases i <;> simp [toI, ih]
theorem toI_old (k : Int) (ms : List Int) (as bs : List Bool) (i j : Nat) (h : i ≤ j) : (toI k ms as bs i)[j]? = ms[j]? := by
  induction ms generalizing as bs i j with
  | nil => simp [toI]
  | cons m ms ih =>
    cases as with
    | nil => simp [toI]
    | cons a as =>
      cases bs with
      | nil => simp [toI]
      | cons b bs =>
        cases i with
        | zero => simp [toI]
        | succ i =>
          cases j with
          | zero => omega
          | succ j => simpa [toI] using ih as bs i j (by omega)
theorem toI_step (k : Int) (ms : List Int) (as bs : List Bool) (i : Nat) (m : Int) (a b : Bool) (hm : ms[i]? = some m) (ha : as[i]? = some a) (hb : bs[i]? = some b) :
    toI k ms as bs (i + 1) = (toI k ms as bs i).set i (one k m a b) := by
  induction ms generalizing as bs i with
  | nil => simp at hm
  | cons m' ms ih =>
    cases as with
    | nil => simp at ha
    | cons a' as =>
      cases bs with
      | nil => simp at hb
      | cons b' bs =>
        cases i with
        | zero =>
          simp at hm ha hb
          subst hm; subst ha; subst hb
          simp [toI, toI_zero]
        | succ i => simpa [toI] using ih as bs i (by simpa using hm) (by simpa using ha) (by simpa using hb)
theorem upI_step (k : Int) (ms : List Int) (as bs : List Bool) (i : Nat) (s : Int) (m : Int) (a b : Bool) (hm : ms[i]? = some m) (ha : as[i]? = some a) (hb : bs[i]? = some b) :
    upI k ms as bs (i + 1) s = upI k ms as bs i s ++ (if lost k m a b then [s + i] else []) := by
  induction ms generalizing as bs i s with
  | nil => simp at hm
  | cons m' ms ih =>
    cases as with
    | nil => simp at ha
    | cons a' as =>
      cases bs with
      | nil => simp at hb
      | cons b' bs =>
        cases i with
        | zero =>
          simp at hm ha hb
          subst hm; subst ha; subst hb
          simp [upI, upI_zero]
        | succ i =>
          have := ih as bs i (s + 1) (by simpa using hm) (by simpa using ha) (by simpa using hb)
          simp only [upI] at this ⊢
          rw [this, List.append_assoc]
          have e : s + 1 + (i : Int) = s + ((i + 1 : Nat) : Int) := by omega
          rw [e]
theorem toI_ok {k : Int} {ms : List Int} (as bs : List Bool) (i : Nat) (hk : 0 ≤ k) (h : ∀ m ∈ ms, 0 ≤ m ∧ m ≤ k) : ∀ m ∈ toI k ms as bs i, 0 ≤ m ∧ m ≤ k := by
  induction ms generalizing as bs i with
  | nil => simp [toI]
  | cons m ms ih =>
    cases as with
    | nil => simpa [toI] using h
    | cons a as =>
      cases bs with
      | nil => simpa [toI] using h
      | cons b bs =>
        cases i with
        | zero => simpa [toI] using h
        | succ i =>
          intro x hx
          simp only [toI, List.mem_cons] at hx
          rcases hx with rfl | hx
          · have := h m (by simp)
            unfold one; split
            · rename_i hh; simp at hh; omega
            · omega
          · exact ih as bs i (fun m hm => h m (by simp [hm])) x hx
end Go.Proofs.Ytlgimjinaijhlaa
