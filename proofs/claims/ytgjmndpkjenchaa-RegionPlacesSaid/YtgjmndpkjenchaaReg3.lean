/- Pages: their number, their places; two lists of places compared. -/
import Derived.Test.YtgjmndpkjenchaaReg2
namespace Go.Proofs.Ytgjmndpkjenchaa
open Go.RowKit

def pageN (x : Int) : Int := (x + 7) / 8
def pagesS (xs : List Int) : Int := (xs.map pageN).sum
theorem pageN_bd {x : Int} (h1 : 1 ≤ x) (h2 : x ≤ 32) : 1 ≤ pageN x ∧ pageN x ≤ 4 := by unfold pageN; omega
theorem pages_bd (xs : List Int) (hx : ∀ x ∈ xs, 1 ≤ x ∧ x ≤ 32) : 0 ≤ pagesS xs ∧ pagesS xs ≤ 4 * xs.length := by
  unfold pagesS
  induction xs with
  | nil => simp
  | cons x t ih =>
    have h1 := hx x (by simp)
    have h2 := pageN_bd h1.1 h1.2
    have := ih (fun y hy => hx y (by simp [hy]))
    simp only [List.map_cons, List.sum_cons, List.length_cons]; omega
theorem pagesS_snoc (xs : List Int) (x : Int) : pagesS (xs ++ [x]) = pagesS xs + pageN x := by simp [pagesS]
theorem pagesS_take {xs : List Int} {k : Nat} (hv : VSizes xs) : 0 ≤ pagesS (xs.take k) ∧ pagesS (xs.take k) ≤ 16 := by
  have h := pages_bd (xs.take k) (fun x hx => hv.2.2 x (List.mem_of_mem_take hx))
  have : (xs.take k).length ≤ 4 := by have := hv.2.1; rw [List.length_take]; omega
  omega

set_option maxHeartbeats 400000 in
theorem pagesOne (x : Int) (w : World) (h1 : 1 ≤ x) (h2 : x ≤ 32) :
    Calls Try.prog 30 #[.int .i64 x] w fun e w' => e = .returned (.int .i64 (pageN x)) ∧ w = w' := by
  go_enter Try.func30, Try.ntmps30
  go_wp2
  go_ret
  exact ⟨ret_i (by unfold pageN; omega), rfl⟩

set_option maxHeartbeats 400000 in
theorem pages_p (A : Option Addr) (n c : Nat) (xs : List Int) (B : Nat) (w : World) (hl : xs.length = n) (hv : VSizes xs) (hr : Rd w B A (ints xs)) :
    Calls Try.prog 16 #[.slice A n c] w fun e w' => e = .returned (.int .i64 (pagesS xs)) ∧ w = w' := by
  subst hl
  have hl4 := hv.2.1
  go_enter Try.func16, Try.ntmps16
  go_wp2
  go_loop [3, 8] (fun n i => ∃ k : Nat, k ≤ xs.length ∧ i = .int .i64 k ∧ n = .int .i64 (pagesS (xs.take k))) (fun _ i => xs.length - (intOf i).toNat)
  case atStart => exact ⟨0, Nat.zero_le _, rfl, rfl⟩
  case round =>
    obtain ⟨k, hk, rfl, rfl⟩ := hrel
    by_cases hlt : k < xs.length
    · obtain ⟨b, off, rfl, hb, hc⟩ := hr.at_ (k := k) (by rw [ints_len]; exact hlt)
      rw [ints_get hlt] at hc
      have hx := hv.2.2 xs[k] (List.getElem_mem hlt)
      have hp := pageN_bd hx.1 hx.2
      have ht := pagesS_take (k := k) hv
      go_wp2_with (go_at_call 30; refine (pagesOne _ _ hx.1 hx.2).mono ?_; rintro e w' ⟨rfl, rfl⟩)
      go_round
      case rel => exact ⟨k + 1, by omega, by go_num, by rw [take_snoc xs k hlt, pagesS_snoc]⟩
      case measure => simp [intOf]; omega
    · go_wp2
      go_ret
      have e : xs.take k = xs := List.take_of_length_le (by omega)
      exact ⟨ret_i (by rw [e]), rfl⟩

set_option maxHeartbeats 400000 in
theorem pages_r (A : Option Addr) (n c : Nat) (xs : List Int) (B : Nat) (w : World) (hl : xs.length = n) (hv : VSizes xs) (hr : Rd w B A (ints xs)) :
    Calls Try.prog 17 #[.slice A n c] w fun e w' => e = .returned (.int .i64 (pagesS xs)) ∧ w = w' := by
  subst hl
  have hl4 := hv.2.1
  go_enter Try.func17, Try.ntmps17
  go_wp2
  go_loop [3, 8] (fun n i => ∃ k : Nat, k ≤ xs.length ∧ i = .int .i64 k ∧ n = .int .i64 (pagesS (xs.take k))) (fun _ i => xs.length - (intOf i).toNat)
  case atStart => exact ⟨0, Nat.zero_le _, rfl, rfl⟩
  case round =>
    obtain ⟨k, hk, rfl, rfl⟩ := hrel
    by_cases hlt : k < xs.length
    · obtain ⟨b, off, rfl, hb, hc⟩ := hr.at_ (k := k) (by rw [ints_len]; exact hlt)
      rw [ints_get hlt] at hc
      have hx := hv.2.2 xs[k] (List.getElem_mem hlt)
      have hp := pageN_bd hx.1 hx.2
      have ht := pagesS_take (k := k) hv
      go_wp2
      go_round
      case rel => exact ⟨k + 1, by omega, by go_num, by rw [take_snoc xs k hlt, pagesS_snoc]; unfold pageN; go_num⟩
      case measure => simp [intOf]; omega
    · go_wp2
      go_ret
      have e : xs.take k = xs := List.take_of_length_le (by omega)
      exact ⟨ret_i (by rw [e]), rfl⟩

/-- the cells of a place -/
def pcell (p : Int × Int) : List Value := [.int .i64 p.1, .int .i64 p.2]
def pcells (l : List (Int × Int)) : List Value := l.flatMap pcell
theorem pcell_len (p : Int × Int) : (pcell p).length = 2 := rfl
theorem pcells_snoc (l : List (Int × Int)) (p : Int × Int) : pcells (l ++ [p]) = pcells l ++ [.int .i64 p.1, .int .i64 p.2] := by simp [pcells, pcell]

def sameFrom (a b : List (Int × Int)) (k : Nat) : Prop := ∀ j, j < k → a[j]? = b[j]?
theorem sameFrom_step {a b : List (Int × Int)} {k : Nat} (ha : k < a.length) (hb : k < b.length) (h : sameFrom a b k) (he : a[k] = b[k]) : sameFrom a b (k + 1) := fun j hj => by
  by_cases hjk : j < k
  · exact h j hjk
  · obtain rfl : j = k := by omega
    rw [List.getElem?_eq_getElem ha, List.getElem?_eq_getElem hb, he]
set_option maxHeartbeats 800000 in
theorem same_any (A A' : Option Addr) (n c n' c' : Nat) (a b : List (Int × Int)) (B : Nat) (w : World) (ha : a.length = n) (hb : b.length = n') (hn : n ≤ 1000) (hn' : n' ≤ 1000) (hra : Rd w B A (pcells a)) (hrb : Rd w B A' (pcells b)) :
    Calls Try.prog 27 #[.slice A n c, .slice A' n' c'] w fun e w' => e = .returned (.bool (decide (a = b))) ∧ ∃ m, w' = w.drewN m := by
  subst ha
  subst hb
  by_cases hlen : a.length = b.length
  · have HL := Lib.hid hlen
    have hne : ((a.length : Int) != (b.length : Int)) = false := by simp [hlen]
    clear hlen
    go_enter Try.func27, Try.ntmps27
    go_wp2
    go_loopw [13] (fun i wr => ∃ k : Nat, k ≤ a.length ∧ i = .int .i64 k ∧ Hid (sameFrom a b k) ∧ ∃ m, wr = w.drewN m) (fun i _ => a.length - (intOf i).toNat)
    case atStart => exact ⟨0, Nat.zero_le _, rfl, (fun j hj => absurd hj (by omega) : sameFrom a b 0), 0, rfl⟩
    case round =>
      obtain ⟨k, hk, rfl, HS, m, rfl⟩ := hrel
      by_cases hlt : k < a.length
      · have hlb : k < b.length := by have := HL.out; omega
        obtain ⟨x, ox, rfl, hxB, hca⟩ := Rd.flat pcell_len hra (by decide) hlt
        obtain ⟨y, oy, rfl, hyB, hcb⟩ := Rd.flat pcell_len hrb (by decide) hlb
        have a0 : w.cell? ⟨x, ox + k * 2, none⟩ = some (.int .i64 a[k].1) := hca 0 (by decide)
        have a1 : w.cell? ⟨x, ox + k * 2 + 1, none⟩ = some (.int .i64 a[k].2) := hca 1 (by decide)
        have b0 : w.cell? ⟨y, oy + k * 2, none⟩ = some (.int .i64 b[k].1) := hcb 0 (by decide)
        have b1 : w.cell? ⟨y, oy + k * 2 + 1, none⟩ = some (.int .i64 b[k].2) := hcb 1 (by decide)
        clear hca hcb
        by_cases he : a[k] = b[k]
        · have HE := Lib.hid he
          have e1 : a[k].1 = b[k].1 := by rw [he]
          have e2 : a[k].2 = b[k].2 := by rw [he]
          clear he
          go_wp2
          go_quiet (fail)
          go_wp2
          go_roundw
          case rel => exact ⟨k + 1, by omega, by go_num, sameFrom_step hlt hlb HS.out HE.out, _, rfl⟩
          case measure => simp [intOf]; omega
        · have HE : a ≠ b := fun e => he (by subst e; rfl)
          by_cases h1 : a[k].1 = b[k].1
          · have h2 : (a[k].2 == b[k].2) = false := by
              simp; intro h; exact he (Prod.ext h1 h)
            clear he
            go_wp2
            go_quiet (fail)
            go_wp2
            go_ret
            exact ⟨ret_b (df HE), _, World.drewN_drewN _ _ _⟩
          · have h2 : (a[k].1 == b[k].1) = false := by simpa using h1
            clear he h1
            go_wp2
            go_quiet (fail)
            go_wp2
            go_ret
            exact ⟨ret_b (df HE), _, World.drewN_drewN _ _ _⟩
      · have HE : a = b := by
          apply List.ext_getElem?
          intro j
          by_cases hj : j < k
          · exact HS.out j hj
          · rw [List.getElem?_eq_none (by omega), List.getElem?_eq_none (by have := HL.out; omega)]
        have H2 := Lib.hid HE
        clear HE
        go_wp2
        go_ret
        exact ⟨ret_b (dt H2.out), _, rfl⟩
  · have hne : ((a.length : Int) != (b.length : Int)) = true := by simp; omega
    have HE : a ≠ b := fun e => hlen (by rw [e])
    clear hlen
    go_enter Try.func27, Try.ntmps27
    go_wp2
    go_ret
    exact ⟨ret_b (df HE), 0, rfl⟩

theorem Try.infoPlace : (Try.prog.info? 33).map (fun i => (i.zero, i.size, i.bytes)) = some (some (.agg #[.int .i64 0, .int .i64 0]), 2, 16) := by kernel_rfl

/-- the places of page j of region r -/
def pageLen (j : Int) (size : Int) : Nat := (min ((j + 1) * 8) size - j * 8).toNat
def pageL (r : Nat) (j : Int) (n : Nat) : List (Int × Int) := (List.range n).map fun (t : Nat) => ((r : Int), j * 8 + (t : Int))
theorem pageL_snoc (r : Nat) (j : Int) (n : Nat) : pageL r j (n + 1) = pageL r j n ++ [((r : Int), j * 8 + (n : Int))] := by simp [pageL, List.range_succ]
theorem pageL_len (r : Nat) (j : Int) (n : Nat) : (pageL r j n).length = n := by simp [pageL]
def pageS (xs : List Int) (i : Int) : Option (List (Int × Int)) := (place (xs.map pageN) i).map fun p => pageL p.1 p.2 (pageLen p.2 (xs.getD p.1 0))
theorem loc_some (ys : List Int) (i : Int) (h0 : 0 ≤ i) (h : i < ys.sum) : ∃ p, loc ys i = some p := by
  induction ys generalizing i with
  | nil => simp at h; omega
  | cons y t ih =>
    simp only [loc]
    split
    · exact ⟨_, rfl⟩
    · obtain ⟨p, hp⟩ := ih (i - y) (by omega) (by simp only [List.sum_cons] at h; omega)
      exact ⟨_, by rw [hp]; rfl⟩
theorem sum_nn (ys : List Int) (hy : ∀ y ∈ ys, 0 ≤ y) : 0 ≤ ys.sum := by
  induction ys with
  | nil => simp
  | cons y t ih =>
    have h1 := hy y (by simp)
    have := ih fun z hz => hy z (by simp [hz])
    simp only [List.sum_cons]; omega
theorem AtK.stepP {xs : List Int} {i j : Int} {k : Nat} (hk : k < xs.length) (h : AtK (xs.map pageN) i k j) (hm : ¬ j < pageN xs[k]) : AtK (xs.map pageN) i (k + 1) (j - pageN xs[k]) := by
  have := h.step (by simpa using hk) (by simpa using hm)
  simpa using this
theorem pageLen_eq {j x : Int} (h : j < pageN x) : ((pageLen j x : Nat) : Int) = min ((j + 1) * 8) x - j * 8 ∧ pageLen j x ≤ 8 := by
  unfold pageN pageLen at *; omega
theorem loc_none (ys : List Int) (i : Int) (hy : ∀ y ∈ ys, 0 ≤ y) (h : ys.sum ≤ i) : loc ys i = none := by
  induction ys generalizing i with
  | nil => rfl
  | cons y t ih =>
    have hs : 0 ≤ t.sum := sum_nn _ fun z hz => hy z (by simp [hz])
    simp only [List.sum_cons] at h
    have h1 := hy y (by simp)
    simp only [loc]
    rw [if_neg (by omega), ih (i - y) (fun z hz => hy z (by simp [hz])) (by omega)]; rfl
def errOf {α : Type} (o : Option α) : Value := match o with | some _ => .int .i64 0 | none => .int .i64 6
theorem pageS_none {xs : List Int} {i : Int} (hv : VSizes xs) (h : i < 0 ∨ pagesS xs ≤ i) : pageS xs i = none := by
  unfold pageS place
  split
  · rw [loc_none _ i (fun y hy => by
      obtain ⟨x, hx, rfl⟩ := List.mem_map.1 hy
      have := hv.2.2 x hx
      have := pageN_bd this.1 this.2
      omega) (by unfold pagesS at h; omega)]; rfl
  · rfl
theorem pageS_hit {xs : List Int} {i j : Int} {k : Nat} (hi : 0 ≤ i) (hk : k < xs.length) (h : AtK (xs.map pageN) i k j) (hm : j < pageN xs[k]) : pageS xs i = some (pageL k j (pageLen j xs[k])) := by
  have := h.hit (by simpa using hk) (by simpa using hm)
  unfold pageS place
  rw [if_pos hi, this]
  simp [List.getD, hk]

set_option maxHeartbeats 2000000 in
theorem page_p (A : Option Addr) (n c : Nat) (xs : List Int) (i : Int) (w : World) (hl : xs.length = n) (hv : VSizes xs) (hi : I64 i) (hr : Rd w w.heap.size A (ints xs)) :
    Calls Try.prog 22 #[.slice A n c, .int .i64 i] w fun e w' => ∃ v : Value, e = .returned (.tuple #[v, errOf (pageS xs i)]) ∧
      w'.ownsRow w.heap.size 33 2 v ((pageS xs i).getD []).length (pcells ((pageS xs i).getD [])) ∧ Pu w w' := by
  subst hl
  obtain ⟨hi1, hi2⟩ := hi
  have hl4 := hv.2.1
  obtain ⟨i0, hin, hz0, hz1, hz2⟩ := info_parts Try.infoPlace
  by_cases h0 : 0 ≤ i
  · by_cases h1 : i < pagesS xs
    · have hloc := loc_some _ i h0 h1
      have HL := Lib.hid hloc
      have hpb := pages_bd xs hv.2.2
      clear hloc
      go_enter Try.func22, Try.ntmps22
      go_wp2_with (go_at_call 16; refine (pages_p A xs.length c xs w.heap.size _ rfl hv hr).mono ?_; rintro e w' ⟨rfl, rfl⟩)
      go_loop [1, 6] (fun iv rv => ∃ (k : Nat) (j : Int), k ≤ xs.length ∧ rv = .int .i64 k ∧ iv = .int .i64 j ∧ 0 ≤ j ∧ j ≤ i ∧ AtK (xs.map pageN) i k j) (fun _ rv => xs.length - (intOf rv).toNat)
      case atStart => exact ⟨0, i, Nat.zero_le _, rfl, rfl, h0, Int.le_refl _, AtK.zero _ _⟩
      case round =>
        obtain ⟨k, j, hk, rfl, rfl, hj0, hji, hat⟩ := hrel
        have hlt : k < xs.length := by
          rcases Nat.lt_or_ge k xs.length with h | h
          · exact h
          · obtain ⟨p, hp⟩ := HL.out
            rw [hat.miss (by simp; omega)] at hp; cases hp
        have HA := Lib.hid hat
        clear hat
        obtain ⟨b, off, rfl, hb, hc⟩ := hr.at_ (k := k) (by rw [ints_len]; exact hlt)
        rw [ints_get hlt] at hc
        have hx := hv.2.2 xs[k] (List.getElem_mem hlt)
        have hpn := pageN_bd hx.1 hx.2
        by_cases hm : j < pageN xs[k]
        · go_wp2_with (go_at_call 30; refine (pagesOne _ _ hx.1 hx.2).mono ?_; rintro e w' ⟨rfl, rfl⟩)
          have HP := Lib.hid (pageS_hit h0 hlt HA.out hm)
          obtain ⟨hN, hN8⟩ := pageLen_eq hm
          have hj4 : j < 4 := by omega
          generalize pageLen j xs[k] = N at *
          go_loopw [7, 8] (fun v kv wr => ∃ t : Nat, t ≤ N ∧ kv = .int .i64 (j * 8 + t) ∧ wr.ownsRow w.heap.size 33 2 v t (pcells (pageL k j t)) ∧ Pu w wr) (fun _ kv _ => (64 - intOf kv).toNat)
          case atStart => exact ⟨0, Nat.zero_le _, by go_num, World.ownsRow_nil _ _ _ _, Fr.refl _ _⟩
          case round =>
            obtain ⟨t, ht, rfl, hown, hF⟩ := hrel
            have hcr : wr.cell? ⟨b, off + k, none⟩ = some (.int .i64 xs[k]) := hF.cell hc (fun t => t)
            by_cases htN : t < N
            · have q1 : j * 8 + t < (j + 1) * 8 := by omega
              have q2 : j * 8 + t < xs[k] := by omega
              clear hN
              go_wp2_with (at_builtin; refine wpList_app1 rfl _ _ 41 rfl w.heap.size 33 i0 (.agg #[.int .i64 0, .int .i64 0]) 2 16 Try.underlying41 hin hz0 hz1 hz2 rfl (by decide) _ t _ rfl hown _ rfl rfl (by intro u hu; simp at hu; rcases hu with rfl | rfl <;> rfl) (by unfold maxLen; omega) (by omega) hF.size ?_)
              all_goals
                intro v' w5 hown5 hf5 _
                go_wp2_with fail
                go_roundw
                case rel => exact ⟨t + 1, by omega, by go_num, by rw [pageL_snoc, pcells_snoc]; exact hown5, hF.then hf5 (fun i hi hk => by have := hown.lt i hk; omega)⟩
                case measure => simp [intOf]; omega
            · have q3 : min ((j + 1) * 8) xs[k] ≤ j * 8 + t := by omega
              go_wp2_with fail
              all_goals
                go_ret2
                obtain rfl : t = N := by omega
                refine ⟨u7, ?_, ?_, hF⟩
                · rw [HP.out]; rfl
                · rw [HP.out]; simpa [pageL_len] using hown
        · go_wp2_with (go_at_call 30; refine (pagesOne _ _ hx.1 hx.2).mono ?_; rintro e w' ⟨rfl, rfl⟩)
          go_round
          case rel => exact ⟨k + 1, j - pageN xs[k], by omega, by go_num, rfl, by omega, by omega, HA.out.stepP hlt (by omega)⟩
          case measure => simp [intOf]; omega
    · have HP := Lib.hid (pageS_none (i := i) hv (.inr (by omega)))
      have hpb := pages_bd xs hv.2.2
      go_enter Try.func22, Try.ntmps22
      go_wp2_with (go_at_call 16; refine (pages_p A xs.length c xs w.heap.size _ rfl hv hr).mono ?_; rintro e w' ⟨rfl, rfl⟩)
      go_ret2
      exact ⟨.slice none 0 0, by rw [HP.out]; rfl, by rw [HP.out]; exact World.ownsRow_nil _ _ _ _, Fr.refl _ _⟩
  · have HP := Lib.hid (pageS_none (i := i) hv (.inl (by omega)))
    have h0' : i < 0 := by omega
    go_enter Try.func22, Try.ntmps22
    go_wp2_with (go_at_call 16; refine (pages_p A xs.length c xs w.heap.size _ rfl hv hr).mono ?_; rintro e w' ⟨rfl, rfl⟩)
    go_ret2
    exact ⟨.slice none 0 0, by rw [HP.out]; rfl, by rw [HP.out]; exact World.ownsRow_nil _ _ _ _, Fr.refl _ _⟩

set_option maxHeartbeats 2000000 in
theorem page_r (A : Option Addr) (n c : Nat) (xs : List Int) (i : Int) (w : World) (hl : xs.length = n) (hv : VSizes xs) (hi : I64 i) (hr : Rd w w.heap.size A (ints xs)) :
    Calls Try.prog 26 #[.slice A n c, .int .i64 i] w fun e w' => ∃ v : Value, e = .returned (.tuple #[v, errOf (pageS xs i)]) ∧
      w'.ownsRow w.heap.size 33 2 v ((pageS xs i).getD []).length (pcells ((pageS xs i).getD [])) ∧ Pu w w' := by
  subst hl
  obtain ⟨hi1, hi2⟩ := hi
  have hl4 := hv.2.1
  obtain ⟨i0, hin, hz0, hz1, hz2⟩ := info_parts Try.infoPlace
  by_cases h0 : 0 ≤ i
  · by_cases h1 : i < pagesS xs
    · have hloc := loc_some _ i h0 h1
      have HL := Lib.hid hloc
      have hpb := pages_bd xs hv.2.2
      clear hloc
      go_enter Try.func26, Try.ntmps26
      go_wp2_with (go_at_call 17; refine (pages_r A xs.length c xs w.heap.size _ rfl hv hr).mono ?_; rintro e w' ⟨rfl, rfl⟩)
      go_loop [1, 6] (fun iv rv => ∃ (k : Nat) (j : Int), k ≤ xs.length ∧ rv = .int .i64 k ∧ iv = .int .i64 j ∧ 0 ≤ j ∧ j ≤ i ∧ AtK (xs.map pageN) i k j) (fun _ rv => xs.length - (intOf rv).toNat)
      case atStart => exact ⟨0, i, Nat.zero_le _, rfl, rfl, h0, Int.le_refl _, AtK.zero _ _⟩
      case round =>
        obtain ⟨k, j, hk, rfl, rfl, hj0, hji, hat⟩ := hrel
        have hlt : k < xs.length := by
          rcases Nat.lt_or_ge k xs.length with h | h
          · exact h
          · obtain ⟨p, hp⟩ := HL.out
            rw [hat.miss (by simp; omega)] at hp; cases hp
        have HA := Lib.hid hat
        clear hat
        obtain ⟨b, off, rfl, hb, hc⟩ := hr.at_ (k := k) (by rw [ints_len]; exact hlt)
        rw [ints_get hlt] at hc
        have hx := hv.2.2 xs[k] (List.getElem_mem hlt)
        have hpn := pageN_bd hx.1 hx.2
        have hpe : pageN xs[k] = (xs[k] + 7) / 8 := rfl
        have HE := Lib.hid hpe
        have hp1 : (0 : Int) ≤ xs[k] + 8 - 1 := by omega
        by_cases hm : j < pageN xs[k]
        · go_wp2_with fail
          have HP := Lib.hid (pageS_hit h0 hlt HA.out hm)
          obtain ⟨hN, hN8⟩ := pageLen_eq hm
          have hj4 : j < 4 := by omega
          generalize pageLen j xs[k] = N at *
          go_loopw [8, 9] (fun v kv wr => ∃ t : Nat, t ≤ N ∧ kv = .int .i64 (j * 8 + t) ∧ wr.ownsRow w.heap.size 33 2 v t (pcells (pageL k j t)) ∧ Pu w wr) (fun _ kv _ => (64 - intOf kv).toNat)
          case atStart => exact ⟨0, Nat.zero_le _, by go_num, World.ownsRow_nil _ _ _ _, Fr.refl _ _⟩
          case round =>
            obtain ⟨t, ht, rfl, hown, hF⟩ := hrel
            have hcr : wr.cell? ⟨b, off + k, none⟩ = some (.int .i64 xs[k]) := hF.cell hc (fun t => t)
            by_cases htN : t < N
            · have q1 : j * 8 + t < (j + 1) * 8 := by omega
              have q2 : j * 8 + t < xs[k] := by omega
              clear hN
              go_wp2_with (at_builtin; refine wpList_app1 rfl _ _ 41 rfl w.heap.size 33 i0 (.agg #[.int .i64 0, .int .i64 0]) 2 16 Try.underlying41 hin hz0 hz1 hz2 rfl (by decide) _ t _ rfl hown _ rfl rfl (by intro u hu; simp at hu; rcases hu with rfl | rfl <;> rfl) (by unfold maxLen; omega) (by omega) hF.size ?_)
              all_goals
                intro v' w5 hown5 hf5 _
                go_wp2_with fail
                go_roundw
                case rel => exact ⟨t + 1, by omega, by go_num, by rw [pageL_snoc, pcells_snoc]; exact hown5, hF.then hf5 (fun i hi hk => by have := hown.lt i hk; omega)⟩
                case measure => simp [intOf]; omega
            · have q3 : min ((j + 1) * 8) xs[k] ≤ j * 8 + t := by omega
              go_wp2_with fail
              all_goals
                go_ret2
                obtain rfl : t = N := by omega
                refine ⟨u8, ?_, ?_, hF⟩
                · rw [HP.out]; rfl
                · rw [HP.out]; simpa [pageL_len] using hown
        · go_wp2_with fail
          go_round
          case rel => exact ⟨k + 1, j - pageN xs[k], by omega, by go_num, by rw [HE.out]; go_num, by omega, by omega, HA.out.stepP hlt (by omega)⟩
          case measure => simp [intOf]; omega
    · have HP := Lib.hid (pageS_none (i := i) hv (.inr (by omega)))
      have hpb := pages_bd xs hv.2.2
      go_enter Try.func26, Try.ntmps26
      go_wp2_with (go_at_call 17; refine (pages_r A xs.length c xs w.heap.size _ rfl hv hr).mono ?_; rintro e w' ⟨rfl, rfl⟩)
      go_ret2
      exact ⟨.slice none 0 0, by rw [HP.out]; rfl, by rw [HP.out]; exact World.ownsRow_nil _ _ _ _, Fr.refl _ _⟩
  · have HP := Lib.hid (pageS_none (i := i) hv (.inl (by omega)))
    have h0' : i < 0 := by omega
    go_enter Try.func26, Try.ntmps26
    go_wp2_with (go_at_call 17; refine (pages_r A xs.length c xs w.heap.size _ rfl hv hr).mono ?_; rintro e w' ⟨rfl, rfl⟩)
    go_ret2
    exact ⟨.slice none 0 0, by rw [HP.out]; rfl, by rw [HP.out]; exact World.ownsRow_nil _ _ _ _, Fr.refl _ _⟩
end Go.Proofs.Ytgjmndpkjenchaa
