/- Texts put together: Asn, Aso, Asp, Tac2, Asq, Asr, Ass, Eng18, Ast, Asu, Asv, Asw, Ata, Atb, Atd. -/
import Derived.Test.YtajkekhnfobgiaaGreatDoorShg
import Derived.Maps.OwnSet
import Derived.WideKeyEntry
import Derived.Test.YtajkekhnfobgiaaGreatDoorMgRc
/- Words as numbers and labels, by the program; texts cut and compared. -/
namespace Go.Proofs.YtajkekhnfobgiaaGreatDoor
set_option maxRecDepth 20000
open Go.RowKit
theorem oqXAsn0_ {G H : Prop} (k : H) (s : H → G := by intro k; (with_reducible first | refine toL hm ?_ | refine toQ ?_); first | exact oneV hs gw_ rfl rfl (by intro w hm; (first | exact kv_ | exact r_min hs rfl rfl rfl | exact r_sidx (k := 0) hs rfl rfl rfl tab rfl rfl (by assumption))) k | exact oneN hs rfl rfl rfl rfl rfl rfl rfl k | exact oneU hs rfl rfl rfl rfl rfl rfl k) : G := s k

theorem sEqF {l m : Tx} (h : l ≠ m) : (({ data := l.toArray } : ByteArray).toList == ({ data := m.toArray } : ByteArray).toList) = false := by rw [txv_eql]; exact decide_eq_false h
theorem sEqT {l m : Tx} (h : l = m) : (({ data := l.toArray } : ByteArray).toList == ({ data := m.toArray } : ByteArray).toList) = true := by rw [txv_eql]; exact decide_eq_true h
theorem sEE : (({ data := #[] } : ByteArray).toList == ({ data := #[] } : ByteArray).toList) = true := sEqT (l := []) (m := []) rfl
theorem dropW_nil {p : UInt8 → Bool} : ∀ l : Tx, l.dropWhile p = [] ↔ l.all p = true
  | [] => by simp
  | c :: t => by
    rw [List.all_cons, Bool.and_eq_true, ← dropW_nil t, List.dropWhile_cons]
    by_cases h : p c = true
    · simp [h]
    · simp [h]
theorem dropW_head {p : UInt8 → Bool} : ∀ (l : Tx) (c : UInt8) (t : Tx), l.dropWhile p = c :: t → p c = false
  | [], _, _, h => by simp at h
  | x :: l, c, t, h => by
    rw [List.dropWhile_cons] at h
    by_cases hx : p x = true
    · rw [if_pos hx] at h
      exact dropW_head l c t h
    · rw [if_neg hx] at h
      cases h
      exact Bool.eq_false_iff.2 hx
theorem trimS_nil (s cs : Tx) : Lib.trimS s cs = [] ↔ s.all (fun c => cs.contains c) = true := by
  unfold Lib.trimS Lib.trimLeftS Lib.trimRightS
  rw [dropW_nil, List.all_reverse]
  constructor
  · intro h
    have h2 : s.reverse.dropWhile (fun c => cs.contains c) = [] := by
      cases hd : s.reverse.dropWhile (fun c => cs.contains c) with
      | nil => rfl
      | cons c t =>
        have h3 := dropW_head _ _ _ hd
        rw [hd, List.all_cons, h3] at h
        cases h
    rw [dropW_nil, List.all_reverse] at h2
    exact h2
  · intro h
    have h2 : s.reverse.dropWhile (fun c => cs.contains c) = [] := by rw [dropW_nil, List.all_reverse]; exact h
    rw [h2]; rfl
def digs : Tx := [48, 49, 50, 51, 52, 53, 54, 55, 56, 57]
def alns : Tx := [97, 98, 99, 100, 101, 102, 103, 104, 105, 106, 107, 108, 109, 110, 111, 112, 113, 114, 115, 116, 117, 118, 119, 120, 121, 122, 48, 49, 50, 51, 52, 53, 54, 55, 56, 57]
theorem u8_all {p : UInt8 → Bool} (h : (List.range 256).all (fun n => p (UInt8.ofNat n)) = true) (c : UInt8) : p c = true := by
  have := List.all_eq_true.1 h c.toNat (List.mem_range.2 c.toNat_lt)
  rwa [UInt8.ofNat_toNat] at this
theorem digs_has (c : UInt8) : digs.contains c = digB c := beq_iff_eq.1 (u8_all (p := fun c => digs.contains c == digB c) (by kernel_rfl) c)
theorem alns_has (c : UInt8) : alns.contains c = alnB c := beq_iff_eq.1 (u8_all (p := fun c => alns.contains c == alnB c) (by kernel_rfl) c)
theorem trim_digs (s : Tx) : Lib.trimS s digs = [] ↔ s.all digB = true := by
  rw [trimS_nil, show (fun c => digs.contains c) = digB from funext digs_has]
theorem trim_alns (s : Tx) : Lib.trimS s alns = [] ↔ s.all alnB = true := by
  rw [trimS_nil, show (fun c => alns.contains c) = alnB from funext alns_has]
theorem trim_c (s cs : Tx) (w : World) (hs : s.length ≤ 1000000) (hc : cs.length ≤ 1000) (ha : ∀ b ∈ cs, b.toNat < 128) : Ret Tryz.prog 82 [txv s, txv cs] w (fun u w' => u = txv (Lib.trimS s cs) ∧ Pu w w') := by
  refine ⟨Calls.mono (Tryz.strings_Trim_laid ⟨s.toArray⟩ ⟨cs.toArray⟩ w (by rw [ba_s]; omega) (by rw [ba_s]; omega) (fun j b hb => ha b (by rw [ba_l] at hb; exact List.mem_of_getElem? hb))) ?_⟩
  rintro e w' ⟨h1, h2⟩
  rw [ba_l, ba_l] at h1
  exact ⟨_, h1, rfl, Fr.of_below h2⟩
theorem atoi_c (s : Tx) (n : Int) (w : World) (hs : s.length ≤ 18) (h : Lib.atoi s = some n) : Ret Tryz.prog 106 [txv s] w (fun u w' => u = .tuple #[.int .i64 n, .nilIface] ∧ Pu w w') := by
  refine ⟨Calls.mono (Tryz.strconv_Atoi ⟨s.toArray⟩ n (by rw [ba_s]; exact hs) (by rw [ba_l]; exact h) w) ?_⟩
  rintro e w' ⟨h1, t, rfl⟩
  refine ⟨_, h1, rfl, ?_⟩
  unfold Lib.bytesWorld
  refine (((Fr.refl _ w).drew).alloc _).then (T := fun k => (some w.heap.size : Option Nat) = some k) freeze_fr (fun i hi e => ?_)
  have := Option.some.inj e
  omega
/-- what decimal returns -/
def dcV (s : Tx) : Value := .tuple #[.int .i64 ((decF s).getD 0), .bool (decF s).isSome]
theorem decB_iff (s : Tx) : decB s = true ↔ s ≠ [] ∧ s.all digB = true ∧ (1 < s.length → s.head? ≠ some 48) := by
  unfold decB
  rw [Bool.and_eq_true, Bool.and_eq_true, Bool.or_eq_true, decide_eq_true_iff, Bool.not_eq_true', Bool.not_eq_true']
  cases s with
  | nil => simp
  | cons c t =>
    simp only [List.isEmpty_cons, List.head?_cons, true_and, ne_eq, reduceCtorEq, not_false_eq_true, beq_eq_false_iff_ne, List.length_cons]
    constructor
    · rintro ⟨h1, h2⟩
      exact ⟨h1, fun h => h2.resolve_left (by omega)⟩
    · rintro ⟨h1, h2⟩
      refine ⟨h1, ?_⟩
      by_cases h : t.length + 1 ≤ 1
      · exact .inl h
      · exact .inr (h2 (by omega))

set_option maxHeartbeats 4000000 in
theorem dec_c (s : Tx) (wB : World) (hl : s.length ≤ 100000) : Ret Tryz.prog 83 [txv s] wB (fun u w' => u = dcV s ∧ Pu wB w') := by
  have hsz := ba_s s
  have htr := fun w => trim_c s digs w (by omega) (by decide) (by decide)
  have htd := trim_digs s
  unfold dcV
  by_cases h0 : s = []
  · have hd : decF s = none := by rw [h0]; rfl
    rw [hd]
    subst h0
    refine enterR Tryz.func83 rfl rfl rfl fun a hs hm => ?_
    repeat (first | (refine oqXAsn0_ ?_; clear hs a; intro a hs) | ((with_reducible apply lCons); first | (refine dv hs gw_ rfl rfl da_ ?_; clear hs hm a; rintro _ w ⟨g, rfl, -, hm⟩ a hs) | (refine stn hs rfl rfl ds_ ?_; clear hs hm a; rintro - w hm a hs)) | ((with_reducible apply qNil); clear hm; intro w hm) | refine cQ_ ?_ | refine sc_ ?_)
    rw [sEE] at hs
    repeat (first | (refine oqXAsn0_ ?_; clear hs a; intro a hs) | ((with_reducible apply lCons); first | (refine dv hs gw_ rfl rfl da_ ?_; clear hs hm a; rintro _ w ⟨g, rfl, -, hm⟩ a hs) | (refine stn hs rfl rfl ds_ ?_; clear hs hm a; rintro - w hm a hs)) | ((with_reducible apply qNil); clear hm; intro w hm) | refine cQ_ ?_ | refine sc_ ?_)
    exact gRetN tab hs rfl (.cons (.tmp rfl) (.cons (.tmp rfl) .nil)) ⟨rfl, hm.fr⟩
  have hse := sEqF h0
  by_cases h1 : s.all digB = true
  case neg =>
    have hd : decF s = none := by
      unfold decF
      rw [if_neg (fun h => h1 ((decB_iff s).1 h).2.1)]
    rw [hd]
    have h2 := sEqF (l := Lib.trimS s digs) (m := []) fun e => h1 (htd.1 e)
    refine enterR Tryz.func83 rfl rfl rfl fun a hs hm => ?_
    repeat (first | (refine oqXAsn0_ ?_; clear hs a; intro a hs) | ((with_reducible apply lCons); first | (refine dv hs gw_ rfl rfl da_ ?_; clear hs hm a; rintro _ w ⟨g, rfl, -, hm⟩ a hs) | (refine stn hs rfl rfl ds_ ?_; clear hs hm a; rintro - w hm a hs)) | ((with_reducible apply qNil); clear hm; intro w hm) | refine cQ_ ?_ | refine sc_ ?_)
    rw [hse] at hs
    repeat (first | (refine oqXAsn0_ ?_; clear hs a; intro a hs) | ((with_reducible apply lCons); first | (refine dv hs gw_ rfl rfl da_ ?_; clear hs hm a; rintro _ w ⟨g, rfl, -, hm⟩ a hs) | (refine stn hs rfl rfl ds_ ?_; clear hs hm a; rintro - w hm a hs) | (refine dvc hs hm gw_ rfl rfl rfl rfl rfl (pl 82 rfl) (htr _) ?_; clear hs hm a; intro w hm a hs)) | ((with_reducible apply qCons); first | (refine qwc hs gw_ rfl rfl rfl rfl rfl (pl 82 rfl) (fun w hm => htr _) ?_; clear hs a; intro a hs)) | ((with_reducible apply qNil); clear hm; intro w hm) | refine cQ_ ?_ | refine sc_ ?_)
    rw [h2] at hs
    repeat (first | (refine oqXAsn0_ ?_; clear hs a; intro a hs) | ((with_reducible apply lCons); first | (refine dv hs gw_ rfl rfl da_ ?_; clear hs hm a; rintro _ w ⟨g, rfl, -, hm⟩ a hs) | (refine stn hs rfl rfl ds_ ?_; clear hs hm a; rintro - w hm a hs)) | ((with_reducible apply qNil); clear hm; intro w hm) | refine cQ_ ?_ | refine sc_ ?_)
    exact gRetN tab hs rfl (.cons (.tmp rfl) (.cons (.tmp rfl) .nil)) ⟨rfl, hm.fr⟩
  have h2 := htd.2 h1
  rw [h2] at htr
  have h1' : 0 < s.length := List.length_pos_iff.2 h0
  obtain ⟨c, hc⟩ : ∃ c, s[0]? = some c := ⟨_, List.getElem?_eq_getElem h1'⟩
  have hhd : s.head? = some c := by rw [← hc, List.head?_eq_getElem?]
  by_cases h3 : 1 < s.length ∧ c = 48
  · have hd : decF s = none := by
      unfold decF
      rw [if_neg (fun h => ((decB_iff s).1 h).2.2 h3.1 (by rw [hhd, h3.2]))]
    rw [hd]
    obtain ⟨h3, rfl⟩ := h3
    refine enterR Tryz.func83 rfl rfl rfl fun a hs hm => ?_
    repeat (first | (refine oqXAsn0_ ?_; clear hs a; intro a hs) | ((with_reducible apply lCons); first | (refine dv hs gw_ rfl rfl da_ ?_; clear hs hm a; rintro _ w ⟨g, rfl, -, hm⟩ a hs) | (refine stn hs rfl rfl ds_ ?_; clear hs hm a; rintro - w hm a hs)) | ((with_reducible apply qNil); clear hm; intro w hm) | refine cQ_ ?_ | refine sc_ ?_)
    rw [hse] at hs
    repeat (first | (refine oqXAsn0_ ?_; clear hs a; intro a hs) | ((with_reducible apply lCons); first | (refine dv hs gw_ rfl rfl da_ ?_; clear hs hm a; rintro _ w ⟨g, rfl, -, hm⟩ a hs) | (refine stn hs rfl rfl ds_ ?_; clear hs hm a; rintro - w hm a hs) | (refine dvc hs hm gw_ rfl rfl rfl rfl rfl (pl 82 rfl) (htr _) ?_; clear hs hm a; intro w hm a hs)) | ((with_reducible apply qCons); first | (refine qwc hs gw_ rfl rfl rfl rfl rfl (pl 82 rfl) (fun w hm => htr _) ?_; clear hs a; intro a hs)) | ((with_reducible apply qNil); clear hm; intro w hm) | refine cQ_ ?_ | refine sc_ ?_)
    rw [sEE] at hs
    repeat (first | (refine oqXAsn0_ ?_; clear hs a; intro a hs) | ((with_reducible apply lCons); first | (refine dv hs gw_ rfl rfl da_ ?_; clear hs hm a; rintro _ w ⟨g, rfl, -, hm⟩ a hs) | (refine stn hs rfl rfl ds_ ?_; clear hs hm a; rintro - w hm a hs)) | ((with_reducible apply qNil); clear hm; intro w hm) | refine cQ_ ?_ | refine sc_ ?_)
    exact gRetN tab hs rfl (.cons (.tmp rfl) (.cons (.tmp rfl) .nil)) ⟨rfl, hm.fr⟩
  have hB : decB s = true := (decB_iff s).2 ⟨h0, h1, fun h e => h3 ⟨h, by rw [hhd] at e; exact Option.some.inj e⟩⟩
  have hd : decF s = some ((min (valL 0 s) 65536 : Nat) : Int) := if_pos hB
  rw [hd]
  have hat := atoi_val hB
  have hac := fun w h => atoi_c s _ w h hat
  have hbig := valL_big hB
  have hvl := valL_lt s h1
  by_cases h4 : 5 < s.length
  · have e : ((min (valL 0 s) 65536 : Nat) : Int) = 65536 := by have := hbig h4; omega
    rw [e]
    by_cases h5 : c.toNat = 48
    · exact absurd ⟨by omega, UInt8.toNat_inj.1 h5⟩ h3
    refine enterR Tryz.func83 rfl rfl rfl fun a hs hm => ?_
    repeat (first | (refine oqXAsn0_ ?_; clear hs a; intro a hs) | ((with_reducible apply lCons); first | (refine dv hs gw_ rfl rfl da_ ?_; clear hs hm a; rintro _ w ⟨g, rfl, -, hm⟩ a hs) | (refine stn hs rfl rfl ds_ ?_; clear hs hm a; rintro - w hm a hs)) | ((with_reducible apply qNil); clear hm; intro w hm) | refine cQ_ ?_ | refine sc_ ?_)
    rw [hse] at hs
    repeat (first | (refine oqXAsn0_ ?_; clear hs a; intro a hs) | ((with_reducible apply lCons); first | (refine dv hs gw_ rfl rfl da_ ?_; clear hs hm a; rintro _ w ⟨g, rfl, -, hm⟩ a hs) | (refine stn hs rfl rfl ds_ ?_; clear hs hm a; rintro - w hm a hs) | (refine dvc hs hm gw_ rfl rfl rfl rfl rfl (pl 82 rfl) (htr _) ?_; clear hs hm a; intro w hm a hs)) | ((with_reducible apply qCons); first | (refine qwc hs gw_ rfl rfl rfl rfl rfl (pl 82 rfl) (fun w hm => htr _) ?_; clear hs a; intro a hs)) | ((with_reducible apply qNil); clear hm; intro w hm) | refine cQ_ ?_ | refine sc_ ?_)
    rw [sEE] at hs
    repeat (first | (refine oqXAsn0_ ?_; clear hs a; intro a hs) | ((with_reducible apply lCons); first | (refine dv hs gw_ rfl rfl da_ ?_; clear hs hm a; rintro _ w ⟨g, rfl, -, hm⟩ a hs) | (refine stn hs rfl rfl ds_ ?_; clear hs hm a; rintro - w hm a hs)) | ((with_reducible apply qNil); clear hm; intro w hm) | refine cQ_ ?_ | refine sc_ ?_)
    exact gRetN tab hs rfl (.cons (.tmp rfl) (.cons (.tmp rfl) .nil)) ⟨rfl, hm.fr⟩
  · have e : ((min (valL 0 s) 65536 : Nat) : Int) = min (valL 0 s : Int) 65536 := by omega
    rw [e]
    by_cases h5 : 1 < s.length
    · have h6 : c.toNat ≠ 48 := fun e => h3 ⟨h5, UInt8.toNat_inj.1 e⟩
      refine enterR Tryz.func83 rfl rfl rfl fun a hs hm => ?_
      repeat (first | (refine oqXAsn0_ ?_; clear hs a; intro a hs) | ((with_reducible apply lCons); first | (refine dv hs gw_ rfl rfl da_ ?_; clear hs hm a; rintro _ w ⟨g, rfl, -, hm⟩ a hs) | (refine stn hs rfl rfl ds_ ?_; clear hs hm a; rintro - w hm a hs)) | ((with_reducible apply qNil); clear hm; intro w hm) | refine cQ_ ?_ | refine sc_ ?_)
      rw [hse] at hs
      repeat (first | (refine oqXAsn0_ ?_; clear hs a; intro a hs) | ((with_reducible apply lCons); first | (refine dv hs gw_ rfl rfl da_ ?_; clear hs hm a; rintro _ w ⟨g, rfl, -, hm⟩ a hs) | (refine stn hs rfl rfl ds_ ?_; clear hs hm a; rintro - w hm a hs) | (refine dvc hs hm gw_ rfl rfl rfl rfl rfl (pl 82 rfl) (htr _) ?_; clear hs hm a; intro w hm a hs)) | ((with_reducible apply qCons); first | (refine qwc hs gw_ rfl rfl rfl rfl rfl (pl 82 rfl) (fun w hm => htr _) ?_; clear hs a; intro a hs)) | ((with_reducible apply qNil); clear hm; intro w hm) | refine cQ_ ?_ | refine sc_ ?_)
      rw [sEE] at hs
      repeat (first | (refine oqXAsn0_ ?_; clear hs a; intro a hs) | ((with_reducible apply lCons); first | (refine dv hs gw_ rfl rfl da_ ?_; clear hs hm a; rintro _ w ⟨g, rfl, -, hm⟩ a hs) | (refine stn hs rfl rfl ds_ ?_; clear hs hm a; rintro - w hm a hs) | (refine dvc hs hm gw_ rfl rfl rfl rfl rfl (pl 106 rfl) (hac _ (by omega)) ?_; clear hs hm a; intro w hm a hs)) | ((with_reducible apply qCons); first | (refine qwc hs gw_ rfl rfl rfl rfl rfl (pl 106 rfl) (fun w hm => hac _ (by omega)) ?_; clear hs a; intro a hs)) | ((with_reducible apply qNil); clear hm; intro w hm) | refine cQ_ ?_ | refine sc_ ?_)
      exact gRetN tab hs rfl (.cons (.tmp rfl) (.cons (.tmp rfl) .nil)) ⟨rfl, hm.fr⟩
    · refine enterR Tryz.func83 rfl rfl rfl fun a hs hm => ?_
      repeat (first | (refine oqXAsn0_ ?_; clear hs a; intro a hs) | ((with_reducible apply lCons); first | (refine dv hs gw_ rfl rfl da_ ?_; clear hs hm a; rintro _ w ⟨g, rfl, -, hm⟩ a hs) | (refine stn hs rfl rfl ds_ ?_; clear hs hm a; rintro - w hm a hs)) | ((with_reducible apply qNil); clear hm; intro w hm) | refine cQ_ ?_ | refine sc_ ?_)
      rw [hse] at hs
      repeat (first | (refine oqXAsn0_ ?_; clear hs a; intro a hs) | ((with_reducible apply lCons); first | (refine dv hs gw_ rfl rfl da_ ?_; clear hs hm a; rintro _ w ⟨g, rfl, -, hm⟩ a hs) | (refine stn hs rfl rfl ds_ ?_; clear hs hm a; rintro - w hm a hs) | (refine dvc hs hm gw_ rfl rfl rfl rfl rfl (pl 82 rfl) (htr _) ?_; clear hs hm a; intro w hm a hs)) | ((with_reducible apply qCons); first | (refine qwc hs gw_ rfl rfl rfl rfl rfl (pl 82 rfl) (fun w hm => htr _) ?_; clear hs a; intro a hs)) | ((with_reducible apply qNil); clear hm; intro w hm) | refine cQ_ ?_ | refine sc_ ?_)
      rw [sEE] at hs
      repeat (first | (refine oqXAsn0_ ?_; clear hs a; intro a hs) | ((with_reducible apply lCons); first | (refine dv hs gw_ rfl rfl da_ ?_; clear hs hm a; rintro _ w ⟨g, rfl, -, hm⟩ a hs) | (refine stn hs rfl rfl ds_ ?_; clear hs hm a; rintro - w hm a hs) | (refine dvc hs hm gw_ rfl rfl rfl rfl rfl (pl 106 rfl) (hac _ (by omega)) ?_; clear hs hm a; intro w hm a hs)) | ((with_reducible apply qCons); first | (refine qwc hs gw_ rfl rfl rfl rfl rfl (pl 106 rfl) (fun w hm => hac _ (by omega)) ?_; clear hs a; intro a hs)) | ((with_reducible apply qNil); clear hm; intro w hm) | refine cQ_ ?_ | refine sc_ ?_)
      exact gRetN tab hs rfl (.cons (.tmp rfl) (.cons (.tmp rfl) .nil)) ⟨rfl, hm.fr⟩
end Go.Proofs.YtajkekhnfobgiaaGreatDoor

/- A map of texts to numbers: what is in it. -/
namespace Go.Proofs.YtajkekhnfobgiaaGreatDoor
set_option maxRecDepth 20000
open Go.RowKit Go.ChangeMaps

theorem mapST : Tryz.prog.underlying 84 = some (.map 9 3) := by kernel_rfl
theorem strT : Tryz.prog.underlying 9 = some .string := by kernel_rfl
theorem intZv (w : World) : (zeroValue 3).run Tryz.prog w = .ok (.int .i64 0) w := run_zero (tab _ _ (show tlk TAB 3 = some _ from rfl))
/-- the datum D says what the list says -/
structure LabD (lab : List (Tx × Nat)) (D : DataW Unit) : Prop where
  td : Maps.Tidy D
  ok : ∀ t : Tx, Maps.has D (.string t) = (atL lab t).isSome
  at_ : ∀ t : Tx, D.atKey (.string t) (.lit (.int .i64 0)) = .lit (.int .i64 (((atL lab t).getD 0 : Nat) : Int))
  sz : Maps.size D = lab.length
/-- block b is a map that holds these numbers of texts -/
def ML (b : Nat) (lab : List (Tx × Nat)) (w : World) : Prop := ∃ D : DataW Unit, w.ownsMap Tryz.prog 9 (plainElem Tryz.prog 3) b lab.length D ∧ LabD lab D
theorem ML.keep {S : Nat → Prop} {b : Nat} {lab : List (Tx × Nat)} {w w' : World} (h : ML b lab w) (hf : Fr S w w') (hb : ¬ S b) : ML b lab w' := by
  obtain ⟨D, ⟨es, clock, hbk, r⟩, h2⟩ := h
  exact ⟨D, ⟨es, clock, fr_grown hf hb _ hbk, r⟩, h2⟩
theorem ML.lt {b : Nat} {lab : List (Tx × Nat)} {w : World} (h : ML b lab w) : b < w.heap.size := by
  obtain ⟨D, h1, _⟩ := h
  exact h1.lt
theorem LabD.mp {lab : List (Tx × Nat)} {D : DataW Unit} (h : LabD lab D) : Maps.IsMap D := h.td.isMap
theorem labD_nil : LabD [] (.map []) := ⟨Maps.tidy_empty, fun _ => rfl, fun _ => rfl, rfl⟩
theorem ML.made (w : World) : ML w.heap.size [] (w.alloc (.map #[] 0)) := ⟨.map [], World.ownsMap_made w _ _ _, labD_nil⟩
theorem atL_cons (n t : Tx) (v : Nat) (lab : List (Tx × Nat)) : atL ((n, v) :: lab) t = if n = t then some v else atL lab t := by
  unfold atL
  rw [List.find?_cons]
  by_cases h : n = t
  · simp [h]
  · simp [h]
theorem LabD.put {lab : List (Tx × Nat)} {D : DataW Unit} (h : LabD lab D) (n : Tx) (v : Nat) (hn : atL lab n = none) : LabD ((n, v) :: lab) (D.put (.string n) (.lit (.int .i64 (v : Int)))) := by
  refine ⟨h.td.put (show WideAt.IsKeyLit (.string n) from trivial) _, fun t => ?_, fun t => ?_, ?_⟩
  · rw [atL_cons]
    by_cases e : n = t
    · subst e; rw [if_pos rfl]; exact Maps.has_put_same h.mp (show WideAt.IsKeyLit (.string n) from trivial) _
    · rw [if_neg e, Maps.has_put_other (fun h => e (by injection h with h; exact h.symm)), h.ok]
  · rw [atL_cons]
    by_cases e : n = t
    · subst e; rw [if_pos rfl]; exact Maps.atKey_put_same h.mp (show WideAt.IsKeyLit (.string n) from trivial) _ _
    · rw [if_neg e, Maps.atKey_put_other (fun h => e (by injection h with h; exact h.symm)), h.at_]
  · rw [Maps.size_put h.td, if_neg (by rw [h.ok, hn]; decide), h.sz]; rfl
theorem keyT (n : Tx) (hn : n.length ≤ 1000000) : keyOf Tryz.prog 9 (txv n) = some (.string n) := by
  have h := WideMaps.keyOf_string_mk (P := Tryz.prog) strT (s := ⟨n.toArray⟩) (by rw [ba_s]; unfold maxLen; omega)
  rw [ba_l] at h
  exact h
/-- behind the making of an entry: what the store that is to come will do -/
def MI (b : Nat) (lab : List (Tx × Nat)) (n : Tx) (st : Nat) (w : World) : Prop :=
  ∃ es clock, w.heap[b]? = some (.map es clock) ∧ ∀ (w2 : World) (v : Nat), v ≤ 1000000 → w2.heap[b]? = some (.map es clock) → ∃ w3, (Instr.entryStore 84 (.map (some b)) (.int .i64 (st : Int)) (.int .i64 (v : Int))).run Tryz.prog w2 = .ok () w3 ∧ ML b ((n, v) :: lab) w3 ∧ Fr (fun i => i = b) w2 w3
theorem MI.keep {S : Nat → Prop} {b st : Nat} {lab : List (Tx × Nat)} {n : Tx} {w w' : World} (h : MI b lab n st w) (hf : Fr S w w') (hb : ¬ S b) : MI b lab n st w' := by
  obtain ⟨es, clock, hbk, r⟩ := h
  exact ⟨es, clock, fr_grown hf hb _ hbk, r⟩
theorem fr_setBlock (w : World) (b : Nat) (ob : Obj) : Fr (fun i => i = b) w (setBlock w b ob) :=
  ⟨rfl, rfl, rfl, by simp [setBlock], fun i _ hi => by
    show (w.heap.setIfInBounds b ob)[i]? = w.heap[i]?
    rw [Array.getElem?_setIfInBounds_ne (fun e => hi e.symm)]⟩
section
variable {N : Nat} {L : List (Nat × Value)} {a : Act} {w w0 : World} {S : Nat → Prop} {M : List Hp} {o : Oper} {x y z : Operand}
theorem r_lookS {b : Nat} {lab : List (Tx × Nat)} {n : Tx} (hs : Sl N L a) (ho : o.op = .lookup 84 x y true) (hx : ev L x = some (.map (some b))) (hy : ev L y = some (txv n)) (hn : n.length ≤ 1000000) (h : ML b lab w0) (hm : Mm S w0 M w) (hb : ¬ S b) : RunV Tryz.prog a o w (.tuple #[.int .i64 (((atL lab n).getD 0 : Nat) : Int), .bool (atL lab n).isSome]) := by
  replace hx := hs.ev hx; replace hy := hs.ev hy
  obtain ⟨D, h1, h2⟩ := h.keep hm.fr hb
  obtain ⟨v, ps, hrun, hv⟩ := h1.look_ok (Maps.string_keyed strT) mapST (intZv w) (plainElem_int intT (a := 0) (by decide)) (keyT n hn)
  rw [h2.at_ n] at hv
  rw [h2.ok n] at hrun
  obtain ⟨c, rfl, hc, -⟩ := plainElem_int_inv intT hv
  simp only [Prod.mk.injEq, DataW.lit.injEq, Lit.int.injEq, true_and] at hc
  rw [← hc.1] at hrun
  unfold RunV execOp
  simp [ho, hx, hy, hrun]
theorem r_lenM {b : Nat} {lab : List (Tx × Nat)} (hs : Sl N L a) (ho : o.op = .call { callee := .builtin .len, args := #[x], argTypes := #[84] }) (hx : ev L x = some (.map (some b))) (h : ML b lab w0) (hm : Mm S w0 M w) (hb : ¬ S b) : RunV Tryz.prog a o w (.int .i64 (lab.length : Int)) := by
  replace hx := hs.ev hx
  obtain ⟨D, h1, h2⟩ := h.keep hm.fr hb
  have hrun := fun ty => h1.len mapST ty
  rw [h2.sz] at hrun
  unfold RunV execOp resolve invoke builtin
  simp [ho, hx, hrun]
theorem d_entry {b : Nat} {lab : List (Tx × Nat)} {n : Tx} (hs : Sl N L a) (ho : o.op = .mapEntry 84 x y) (hx : ev L x = some (.map (some b))) (hy : ev L y = some (txv n)) (hn : n.length ≤ 1000000) (h : ML b lab w) (hl : lab.length < 1000000) (hnn : atL lab n = none) : Does Tryz.prog a o w (fun v w' => ∃ (v0 : Value) (st : Nat), v = .tuple #[v0, .int .i64 (st : Int)] ∧ MI b lab n st w' ∧ Fr (fun i => i = b) w w') := by
  replace hx := hs.ev hx; replace hy := hs.ev hy
  obtain ⟨D, h1, h2⟩ := h
  have h1' := h1
  obtain ⟨es, clock, hb, F, hsz, hD⟩ := h1
  obtain ⟨v0, st, es1, clock1, hrun, -, hk⟩ := WideElems.entry_then_store (WideMaps.string_law strT) mapST intZv hb F (keyT n hn)
  unfold Does execOp
  simp [ho, hx, hy, hrun]
  refine ⟨v0, st, ⟨rfl, rfl⟩, ⟨es1, clock1, heap_setBlock_same hb _, fun w2 v hv hw2 => ?_⟩, fr_setBlock _ _ _⟩
  obtain ⟨es', clock', hr2, hr3⟩ := hk w2 (.int .i64 (v : Int)) hw2
  obtain ⟨w', hr4, hown, -⟩ := h1'.update (Maps.string_keyed strT) mapST (by unfold maxLen; omega) (keyT n hn) (plainElem_int intT (q := .i64) (a := (v : Int)) (by simp [Lit.wf, IntKind.min, IntKind.max, IntKind.signed, IntKind.bits]; omega))
  rw [hr3] at hr4
  cases hr4
  refine ⟨setBlock w2 b (.map es' clock'), hr2, ⟨_, ?_, h2.put n v hnn⟩, fr_setBlock _ _ _⟩
  obtain ⟨es'', clock'', hb'', r''⟩ := hown
  rw [heap_setBlock_same hb] at hb''
  cases hb''
  exact ⟨es', clock', heap_setBlock_same hw2 _, r''⟩
theorem d_estore {b st v : Nat} {lab : List (Tx × Nat)} {n : Tx} (hs : Sl N L a) (ho : o.op = .entryStore 84 x y z) (hx : ev L x = some (.map (some b))) (hy : ev L y = some (.int .i64 (st : Int))) (hz : ev L z = some (.int .i64 (v : Int))) (hv : v ≤ 1000000) (h : MI b lab n st w) : Does Tryz.prog a o w (fun _ w' => ML b ((n, v) :: lab) w' ∧ Fr (fun i => i = b) w w') := by
  replace hx := hs.ev hx; replace hy := hs.ev hy; replace hz := hs.ev hz
  obtain ⟨es, clock, hb, hk⟩ := h
  obtain ⟨w3, hr, h1, h2⟩ := hk w v hv hb
  unfold Does execOp
  simp [ho, hx, hy, hz, hr]
  exact ⟨h1, h2⟩
theorem d_makeMapS (ho : o.op = .makeMap 84 none) (hm : Mm S w0 M w) : Does Tryz.prog a o w (fun v w' => v = .map (some w.heap.size) ∧ ML w.heap.size [] w' ∧ Pu w w' ∧ Mm S w0 M w') := by
  have hrun := run_makeMap (P := Tryz.prog) 84 w
  unfold Does execOp
  simp [ho, hrun]
  exact ⟨ML.made w, (Fr.refl _ w).alloc _, hm.pu ((Fr.refl _ w).alloc _)⟩
end
end Go.Proofs.YtajkekhnfobgiaaGreatDoor

/- The reader of a text as it lies in memory; a line of a region. -/
namespace Go.Proofs.YtajkekhnfobgiaaGreatDoor
set_option maxRecDepth 20000
open Go.RowKit

theorem idxS_F (s : Tx) : ∀ (xs : List Tx) (i : Nat), Lib.idxFromS (xs.map fun l => (⟨l.toArray⟩ : ByteArray)) ⟨s.toArray⟩ i = ((idxF s xs i).map fun k : Nat => (k : Int)).getD (-1)
  | [], _ => rfl
  | x :: t, i => by
    rw [List.map_cons]
    unfold Lib.idxFromS idxF
    by_cases h : x = s
    · subst h; rw [if_pos rfl, if_pos rfl]; rfl
    · rw [if_neg h, if_neg (fun e => h (by have := congrArg (fun b : ByteArray => b.data.toList) e; simpa using this))]
      exact idxS_F s t (i + 1)
theorem idx_c (r : SS) (s : Tx) (w : World) (hr : r.ok w) (hn : r.xs.length ≤ 1000000) : Ret Tryz.prog 68 [r.v, txv s] w (fun u w' => u = .int .i64 (((idxF s r.xs 0).map fun k : Nat => (k : Int)).getD (-1)) ∧ Pu w w') := by
  obtain ⟨A, c, xs⟩ := r
  rw [← idxS_F]
  cases hx : xs with
  | nil =>
    have h := Tryz.slices_Index_string_empty A c ⟨s.toArray⟩ w
    exact ⟨Calls.mono h fun _ _ ⟨h1, h2⟩ => ⟨_, h1, rfl, h2 ▸ Fr.refl _ _⟩⟩
  | cons x t =>
    rw [← hx]
    obtain ⟨b, o, rfl, hb, hro⟩ := hr.2.ro (by show 0 < (xs.map txv).length; rw [hx]; simp)
    have h := Tryz.slices_Index_string b o xs.length c (xs.map fun l => ⟨l.toArray⟩) ⟨s.toArray⟩ w (by rw [List.length_map]; exact Nat.le_refl _) (by dsimp only at hn; omega) (fun j hj => hro j _ (by
      rw [List.length_map] at hj
      dsimp only
      rw [List.getElem?_map, List.getElem?_eq_getElem hj]
      simp [List.getD, List.getElem?_map, List.getElem?_eq_getElem hj]
      rfl))
    rw [show (xs.map fun l => (⟨l.toArray⟩ : ByteArray)).take xs.length = xs.map fun l => (⟨l.toArray⟩ : ByteArray) by rw [List.take_of_length_le (by rw [List.length_map]; exact Nat.le_refl _)]] at h
    exact ⟨Calls.mono h fun _ _ ⟨h1, h2⟩ => ⟨_, h1, rfl, h2 ▸ Fr.refl _ _⟩⟩
theorem maxOf_gt (b : Int) : ∀ (l : List Int) (n : Int), b < l.foldl max n ↔ b < n ∨ l.any (fun x => decide (b < x)) = true
  | [], n => by simp
  | x :: t, n => by
    rw [List.foldl_cons, maxOf_gt b t (max n x), List.any_cons, Bool.or_eq_true, decide_eq_true_iff]
    constructor
    · rintro (h | h)
      · by_cases e : b < n
        · exact .inl e
        · exact .inr (.inl (by omega))
      · exact .inr (.inr h)
    · rintro (h | h | h)
      · exact .inl (by omega)
      · exact .inl (by omega)
      · exact .inr h
theorem max_c (b o n c : Nat) (xs : List Int) (w : World) (hx : xs.length = n) (hn : 0 < n) (hl : n ≤ 1000000) (hr : Ro w b o (ints xs)) : Ret Tryz.prog 84 [.slice (some ⟨b, o, none⟩) n c] w (fun u w' => u = .int .i64 (Lib.maxOf xs) ∧ Pu w w') := by
  have h := Tryz.slices_Max_int b o n c xs w hn (by omega) (by omega) (fun j hj => hr j _ (by
    unfold ints
    rw [List.getElem?_map, List.getElem?_eq_getElem hj]
    simp [List.getD, List.getElem?_eq_getElem hj]))
  rw [show xs.take n = xs by rw [← hx, List.take_length]] at h
  exact ⟨Calls.mono h fun _ _ ⟨h1, h2⟩ => ⟨_, h1, rfl, h2 ▸ Fr.refl _ _⟩⟩
/-- a jump whose label is still to be found -/
def jmV (j : Nat × Nat × Tx) : List Value := [.int .i64 (j.1 : Int), .int .i64 (j.2.1 : Int), txv j.2.2]
theorem jmV_len (j : Nat × Nat × Tx) : (jmV j).length = 3 := rfl
/-- the reader in memory -/
structure RdX where
  g : Nat
  m : Nat
  cA : Option Nat
  cc : Nat
  ccs : List Value
  sA : Option Nat
  sc : Nat
  scs : List Value
  dA : Option Nat
  dc : Nat
  dcs : List Value
  jA : Option Nat
  jc : Nat
  jcs : List Value
  ws : List WS
  line : Nat
  r : RdS
def RdX.hd (x : RdX) : Hp := ⟨some x.g, 87, [slv x.cA x.r.code.length x.cc, slv x.sA x.r.ss.length x.sc, slv x.dA x.ws.length x.dc, .map (some x.m), slv x.jA x.r.js.length x.jc, .int .i64 (x.line : Int), .bool x.r.last]⟩
def RdX.M (x : RdX) : List Hp := [x.hd, ⟨x.cA, 54, x.ccs⟩, ⟨x.sA, 3, x.scs⟩, ⟨x.dA, 56, x.dcs⟩, ⟨x.jA, 90, x.jcs⟩]
def RdX.D (x : RdX) (i : Nat) : Prop := own x.M i ∨ i = x.m
structure RdX.ok (x : RdX) (w : World) : Prop where
  mm : Mm (own x.M) w x.M w
  ml : ML x.m x.r.lab w
  nm : ¬ own x.M x.m
  c : Row x.cA x.r.code.length x.cc 5 (x.r.code.flatMap inV) x.ccs
  s : Row x.sA x.r.ss.length x.sc 1 (ints x.r.ss) x.scs
  d : Row x.dA x.ws.length x.dc 1 (x.ws.map WS.v) x.dcs
  j : Row x.jA x.r.js.length x.jc 3 (x.r.js.flatMap jmV) x.jcs
  ws : x.r.ws = x.ws.map WS.xs
  wr : ∀ r ∈ x.ws, Rd w w.heap.size (r.A.map fun g => ⟨g, 0, none⟩) (wds r.xs) ∧ ∀ g, r.A = some g → ¬ x.D g ∧ g < w.heap.size
  sz : x.r.code.length ≤ 64 ∧ x.r.ss.length ≤ 4 ∧ x.ws.length = x.r.ss.length ∧ x.r.js.length ≤ x.r.code.length ∧ x.r.lab.length ≤ 5000
/-- what a call with the reader leaves -/
structure RdN (x : RdX) (wB w' : World) (r : RdS) (y : RdX) : Prop where
  g : y.g = x.g
  m : y.m = x.m
  l : y.line = x.line
  r : y.r = r
  ok : y.ok w'
  nw : ∀ i, y.D i → x.D i ∨ wB.heap.size ≤ i
theorem Fr.rdS {S : Nat → Prop} {w w' : World} {A : Option Addr} {xs : List Value} (hf : Fr S w w') (h : Rd w w.heap.size A xs) (hn : ∀ g o, A = some ⟨g, o, none⟩ → ¬ S g) : Rd w' w'.heap.size A xs := fun h0 => by
  obtain ⟨b, o, e, hb, hc⟩ := h h0
  exact ⟨b, o, e, Nat.lt_of_lt_of_le hb hf.size, fun j u hj => hf.cl (hc j u hj) (hn b o e)⟩
theorem WS.rdn {r : WS} {S : Nat → Prop} {w w' : World} (hf : Fr S w w') (h : Rd w w.heap.size (r.A.map fun g => ⟨g, 0, none⟩) (wds r.xs)) (hn : ∀ g, r.A = some g → ¬ S g) : Rd w' w'.heap.size (r.A.map fun g => ⟨g, 0, none⟩) (wds r.xs) :=
  hf.rdS h (fun g o e => by
    cases hA : r.A with
    | none => rw [hA] at e; cases e
    | some g2 =>
      rw [hA] at e
      cases e
      exact hn g hA)
/-- behind a walk: what is still known -/
theorem RdX.after {x y : RdX} {wB w' : World} (h : x.ok wB) (hm : Mm (own x.M) wB y.M w') (e : y.m = x.m) : (∀ i, y.D i → x.D i ∨ wB.heap.size ≤ i) ∧ ¬ own y.M y.m ∧ ML y.m x.r.lab w' ∧ Mm (own y.M) w' y.M w' ∧ ∀ r ∈ x.ws, Rd w' w'.heap.size (r.A.map fun g => ⟨g, 0, none⟩) (wds r.xs) ∧ ∀ g, r.A = some g → ¬ y.D g ∧ g < w'.heap.size := by
  have hmb : ¬ own y.M y.m := fun ho => by
    rcases hm.own_ ho with h1 | h1
    · have := h.ml.lt; omega
    · rw [e] at h1; exact h.nm h1
  refine ⟨fun i hi => ?_, hmb, by rw [e]; exact h.ml.keep hm.fr h.nm, hm.rebase, fun r hr => ?_⟩
  · rcases hi with hi | hi
    · rcases hm.own_ hi with h1 | h1
      · exact .inr h1
      · exact .inl (.inl h1)
    · exact .inl (.inr (hi.trans e))
  · obtain ⟨h1, h2⟩ := h.wr r hr
    refine ⟨WS.rdn hm.fr h1 (fun g hg ho => (h2 g hg).1 (.inl ho)), fun g hg => ⟨fun hd => ?_, Nat.lt_of_lt_of_le (h2 g hg).2 hm.fr.size⟩⟩
    rcases hd with hd | hd
    · rcases hm.own_ hd with h3 | h3
      · have := (h2 g hg).2; omega
      · exact (h2 g hg).1 (.inl h3)
    · exact (h2 g hg).1 (.inr (hd.trans e))
theorem decA_none : ∀ (ws : List Tx) (k : Nat) (hk : k < ws.length), decF ws[k] = none → decA ws = none
  | [], _, hk, _ => absurd hk (Nat.not_lt_zero _)
  | s :: t, 0, _, h => by
    have h' : decF s = none := h
    unfold decA; rw [h']
  | s :: t, k + 1, hk, h => by
    have := decA_none t k (by simpa using hk) (by simpa using h)
    unfold decA; rw [this]; cases decF s <;> rfl
theorem decA_snoc : ∀ (ws : List Tx) (s : Tx) (l : List Int) (n : Int), decA ws = some l → decF s = some n → decA (ws ++ [s]) = some (l ++ [n])
  | [], s, l, n, h, hn => by
    cases h
    show decA [s] = some [n]
    unfold decA decA; rw [hn]
  | a :: t, s, l, n, h, hn => by
    unfold decA at h
    cases ha : decF a with
    | none => rw [ha] at h; cases h
    | some m =>
      rw [ha] at h
      cases ht : decA t with
      | none => rw [ht] at h; cases h
      | some l2 =>
        rw [ht] at h
        cases h
        rw [List.cons_append]
        unfold decA
        rw [ha, decA_snoc t s l2 n ht hn]
        rfl
theorem decA_bd : ∀ (ws : List Tx) (l : List Int), decA ws = some l → l.length = ws.length ∧ ∀ n ∈ l, 0 ≤ n ∧ n ≤ 65536
  | [], l, h => by cases h; exact ⟨rfl, fun n hn => absurd hn List.not_mem_nil⟩
  | a :: t, l, h => by
    unfold decA at h
    cases ha : decF a with
    | none => rw [ha] at h; cases h
    | some m =>
      rw [ha] at h
      cases ht : decA t with
      | none => rw [ht] at h; cases h
      | some l2 =>
        rw [ht] at h
        cases h
        obtain ⟨h1, h2⟩ := decA_bd t l2 ht
        refine ⟨by rw [List.length_cons, List.length_cons, h1], fun n hn => ?_⟩
        rcases List.mem_cons.1 hn with rfl | hn
        · exact decF_le ha
        · exact h2 n hn
end Go.Proofs.YtajkekhnfobgiaaGreatDoor

/- Steps that take an operation, in a region with a barrier: ahead of it, and behind it. -/
namespace Go.Proofs.YtajkekhnfobgiaaGreatDoor
set_option maxRecDepth 20000
open Go.RowKit
theorem bU_ {G H : Prop} (i : Nat) (k : H) (s : Tg i → H → G := by intro t k; exact bTakeT t false hs rfl (by kernel_rfl) (by kernel_rfl) (Wnt.none rfl) rfl rfl (by intro w hm; exact r_val hs tab rfl) (.inr (hm.sub sub_)) k) : G := s ⟨⟩ k
theorem bW_ {G H : Prop} (i : Nat) (k : H) (s : Tg i → H → G := by intro t k; exact bTakeT t false hs rfl (by kernel_rfl) (by kernel_rfl) (Wnt.none rfl) rfl rfl (by intro w hm; exact r_val hs tab rfl) (.inl (by kernel_rfl)) k) : G := s ⟨⟩ k
end Go.Proofs.YtajkekhnfobgiaaGreatDoor

/- A line of a region, by the program. -/
namespace Go.Proofs.YtajkekhnfobgiaaGreatDoor
set_option maxRecDepth 20000
open Go.RowKit
theorem ovXAsq0_ {G H : Prop} (k : H) (s : H → G := by intro k; (with_reducible refine toL hm ?_); first | exact oneV hs gw_ rfl rfl (by intro w hm; (first | exact kv_ | exact kb2_ | exact ksl_ | exact r_lenM hs rfl rfl (by assumption) hm (by assumption))) k | exact oneN hs rfl rfl rfl rfl rfl rfl rfl k | exact oneU hs rfl rfl rfl rfl rfl rfl k) : G := s k

structure RgX where
  k : Nat
  l : List Int
  A : Option Nat
  c : Nat
  cs : List Value
theorem wrap16 {v : Int} (h : 0 ≤ v ∧ v ≤ 65535) : IntKind.u16.wrap v = v := by simp [IntKind.wrap, IntKind.signed, IntKind.bits]; omega
theorem row_ro {S : Nat → Prop} {w0 w : World} {M : List Hp} (hm : Mm S w0 M w) {g n c s : Nat} {t : TypeId} {xs cs : List Value} (hM : (⟨some g, t, cs⟩ : Hp) ∈ M) (hr : Row (some g) n c s xs cs) : Ro w g 0 xs := fun j v hj => by
  rw [Nat.zero_add]
  exact (hm.at_ hM j).trans (hr.get hj)

set_option maxHeartbeats 32000000 in
theorem reg_c (x : RdX) (A : Option Addr) (c : Nat) (words : List Tx) (wB : World) (h : x.ok wB) (hrd : Rd wB wB.heap.size A (words.map txv)) (hnA : ∀ a, A = some a → ¬ own x.M a.block) (hlen : ∀ t ∈ words, t.length ≤ 5000) (hn : words.length ≤ 5000) :
    Ret Tryz.prog 67 [.pointer (some ⟨x.g, 0, none⟩), .slice A words.length c] wB (fun u w' => ∃ e : Int, u = .int .i64 e ∧ e = (regF x.r words).2 ∧ Fr (own x.M) wB w' ∧ (e = 0 → ∃ y, RdN x wB w' (regF x.r words).1 y)) := by
  obtain ⟨z1, z2, z3, z4, z5⟩ := h.sz
  have hm0 : Mm (own x.M) wB [⟨some x.g, 87, [slv x.cA x.r.code.length x.cc, slv x.sA x.r.ss.length x.sc, slv x.dA x.ws.length x.dc, .map (some x.m), slv x.jA x.r.js.length x.jc, .int .i64 (x.line : Int), .bool x.r.last]⟩, ⟨x.cA, 54, x.ccs⟩, ⟨x.sA, 3, x.scs⟩, ⟨x.dA, 56, x.dcs⟩, ⟨x.jA, 90, x.jcs⟩] wB := h.mm
  have hml := h.ml
  have hnm := h.nm
  obtain ⟨S0, hS0⟩ : ∃ S0 : Nat → Prop, own x.M = S0 := ⟨_, rfl⟩
  rw [hS0] at hm0 hnA hnm ⊢
  refine enterR Tryz.func67 rfl rfl rfl fun a hs hm => ?_
  clear hm
  have hm := hm0
  repeat (first | (refine ovXAsq0_ ?_; clear hs a; intro a hs) | ((with_reducible apply lCons); first | (refine dv hs gw_ rfl rfl da_ ?_; clear hs hm a; rintro _ w ⟨g, rfl, -, hm⟩ a hs) | (refine stn hs rfl rfl ds_ ?_; clear hs hm a; rintro - w hm a hs)) | refine sc_ ?_)
  replace hm := hm.zero 3
  refine cLoop (X := RgX) (fun X a w' => Sl Tryz.f67.ntmps [(0, .pointer (some ⟨x.g, 0, none⟩)), (5, slv X.A X.l.length X.c), (13, .slice A words.length c), (14, .int .i64 (words.length : Int)), (15, .int .i64 (X.k : Int))] a ∧ Mm S0 wB [⟨X.A, 3, X.cs⟩, ⟨some x.g, 87, [slv x.cA x.r.code.length x.cc, slv x.sA x.r.ss.length x.sc, slv x.dA x.ws.length x.dc, .map (some x.m), slv x.jA x.r.js.length x.jc, .int .i64 (x.line : Int), .bool x.r.last]⟩, ⟨x.cA, 54, x.ccs⟩, ⟨x.sA, 3, x.scs⟩, ⟨x.dA, 56, x.dcs⟩, ⟨x.jA, 90, x.jcs⟩] w' ∧ X.k ≤ words.length ∧ decA (words.take X.k) = some X.l ∧ Row X.A X.l.length X.c 1 (ints X.l) X.cs) (fun X => words.length - X.k) ⟨0, [], none, 0, []⟩ ⟨hs.sub (Has.all ⟨rfl, rfl, rfl, rfl, rfl, trivial⟩), hm, Nat.zero_le _, rfl, Row.empty 1⟩ ?_
  clear hs hm hm0 a
  rintro ⟨k, l, lA, lc, lcs⟩ a w' ⟨hs, hm, hk, hdl, hrow⟩
  dsimp only at hs hm hk hdl hrow
  have hll := (decA_bd _ _ hdl).1
  rw [List.length_take] at hll
  by_cases hlt : k < words.length
  · obtain ⟨b1, o1, rfl, hb1, r1⟩ := hrd.ro (by rw [List.length_map]; omega)
    have hnb : ¬ S0 b1 := hnA _ rfl
    have e1 : (words.map txv)[k]? = some (txv words[k]) := by rw [List.getElem?_map, List.getElem?_eq_getElem hlt]; rfl
    have hsl := hlen _ (List.getElem_mem hlt)
    cases hd : decF words[k] with
    | none =>
      have hdc := fun w => dec_c words[k] w (by omega)
      unfold dcV at hdc
      rw [hd] at hdc
      have hF : (regF x.r words).2 = 2 := by unfold regF; rw [decA_none words k hlt hd]
      generalize words[k] = s at *
      repeat (first | (refine ovXAsq0_ ?_; clear hs a; intro a hs) | ((with_reducible apply lCons); first | (refine dv hs gw_ rfl rfl da_ ?_; clear hs hm a; rintro _ w ⟨g, rfl, -, hm⟩ a hs) | (refine stn hs rfl rfl ds_ ?_; clear hs hm a; rintro - w hm a hs) | (refine dvc hs hm gw_ rfl rfl rfl rfl rfl (pl 83 rfl) (hdc _) ?_; clear hs hm a; intro w hm a hs)) | refine sc_ ?_)
      exact gRet1 hs rfl rfl ⟨_, rfl, hF.symm, hm.fr, (fun e => by cases e)⟩
    | some v =>
      have hdc := fun w => dec_c words[k] w (by omega)
      unfold dcV at hdc
      rw [hd] at hdc
      have hsn := decA_snoc _ _ _ _ hdl hd
      rw [← List.take_succ_eq_append_getElem hlt] at hsn
      generalize words[k] = s at *
      have hdc2 : ∀ w, Ret Tryz.prog 83 [txv s] w (fun u w' => u = .tuple #[.int .i64 v, .bool true] ∧ Pu w w') := hdc
      clear hdc
      repeat (first | (refine ovXAsq0_ ?_; clear hs a; intro a hs) | ((with_reducible apply lCons); first | (refine dv hs gw_ rfl rfl da_ ?_; clear hs hm a; rintro _ w ⟨g, rfl, -, hm⟩ a hs) | (refine stn hs rfl rfl ds_ ?_; clear hs hm a; rintro - w hm a hs) | (refine dvc hs hm gw_ rfl rfl rfl rfl rfl (pl 83 rfl) (hdc2 _) ?_; clear hs hm a; intro w hm a hs)) | refine sc_ ?_)
      refine dv hs (Wnt.none rfl) rfl rfl (d_append (A := lA) (n := l.length) (c := lc) (news := [.int .i64 v]) hs rfl rfl rfl rfl rfl tab rfl rfl rfl rfl rfl hm mem_ hrow rfl (hm.ro (n := 1) mem_ (cutF_ok rfl)) rfl (by show (l.length + 1) * 8 ≤ _; omega) (by omega)) ?_
      clear hs
      rintro _ w2 ⟨A2, c2, cs2, rfl, hr2, hM⟩ a hs
      replace hm := hM _ rep_
      clear hM
      rw [show ints l ++ [.int .i64 v] = ints (l ++ [v]) by unfold ints; rw [List.map_append]; rfl, show l.length + 1 = (l ++ [v]).length by rw [List.length_append]; rfl] at hr2
      rw [show l.length + 1 = (l ++ [v]).length by rw [List.length_append]; rfl] at hs
      repeat (first | (refine ovXAsq0_ ?_; clear hs a; intro a hs) | ((with_reducible apply lCons); first | (refine dv hs gw_ rfl rfl da_ ?_; clear hs hm a; rintro _ w ⟨g, rfl, -, hm⟩ a hs) | (refine stn hs rfl rfl ds_ ?_; clear hs hm a; rintro - w hm a hs)) | refine sc_ ?_)
      exact ⟨⟨k + 1, l ++ [v], A2, c2, cs2⟩, by dsimp only; omega, hs.sub (Has.all ⟨rfl, rfl, rfl, rfl, rfl, trivial⟩), hm.sub sub_, by dsimp only; omega, hsn, hr2⟩
  obtain rfl : k = words.length := by omega
  rw [List.take_length] at hdl
  have hbd := (decA_bd _ _ hdl).2
  cases l with
  | nil =>
    have hF : (regF x.r words).2 = 2 := by unfold regF; rw [hdl]
    repeat (first | (refine ovXAsq0_ ?_; clear hs a; intro a hs) | ((with_reducible apply lCons); first | (refine dv hs gw_ rfl rfl da_ ?_; clear hs hm a; rintro _ w ⟨g, rfl, -, hm⟩ a hs) | (refine stn hs rfl rfl ds_ ?_; clear hs hm a; rintro - w hm a hs)) | refine sc_ ?_)
    exact gRet1 hs rfl rfl ⟨_, rfl, hF.symm, hm.fr, (fun e => by cases e)⟩
  | cons v t =>
    have hv := hbd v (List.mem_cons_self ..)
    have hle := hrow.le
    have hln : (v :: t).length = t.length + 1 := rfl
    obtain ⟨lg, rfl⟩ := hrow.some_ (by rw [hln]; omega)
    have e0 : lcs[0]? = some (.int .i64 v) := hrow.get rfl
    by_cases q1 : 0 < x.r.code.length
    · have hF : (regF x.r words).2 = 2 := by unfold regF; rw [hdl]; dsimp only; rw [if_pos (.inl (List.ne_nil_of_length_pos q1))]
      repeat (first | (refine ovXAsq0_ ?_; clear hs a; intro a hs) | ((with_reducible apply lCons); first | (refine dv hs gw_ rfl rfl da_ ?_; clear hs hm a; rintro _ w ⟨g, rfl, -, hm⟩ a hs) | (refine stn hs rfl rfl ds_ ?_; clear hs hm a; rintro - w hm a hs)) | refine sc_ ?_)
      exact gRet1 hs rfl rfl ⟨_, rfl, hF.symm, hm.fr, (fun e => by cases e)⟩
    by_cases q2 : 0 < x.r.lab.length
    · have hF : (regF x.r words).2 = 2 := by unfold regF; rw [hdl]; dsimp only; rw [if_pos (.inr (List.ne_nil_of_length_pos q2))]
      repeat (first | (refine ovXAsq0_ ?_; clear hs a; intro a hs) | ((with_reducible apply lCons); first | (refine dv hs gw_ rfl rfl da_ ?_; clear hs hm a; rintro _ w ⟨g, rfl, -, hm⟩ a hs) | (refine stn hs rfl rfl ds_ ?_; clear hs hm a; rintro - w hm a hs)) | refine sc_ ?_)
      exact gRet1 hs rfl rfl ⟨_, rfl, hF.symm, hm.fr, (fun e => by cases e)⟩
    have hu : ¬ (x.r.code ≠ [] ∨ x.r.lab ≠ []) := by
      rintro (h1 | h1)
      · exact q1 (List.length_pos_iff.2 h1)
      · exact q2 (List.length_pos_iff.2 h1)
    obtain ⟨mx, hmx⟩ : ∃ z, Lib.maxOf (v :: t) = z := ⟨_, rfl⟩
    have hgt : 65535 < mx ↔ (v :: t).any (fun x => decide (65535 < x)) = true := by
      rw [← hmx]
      show 65535 < (v :: t).foldl max v ↔ _
      rw [maxOf_gt]
      refine ⟨fun h => h.elim (fun h => ?_) id, .inr⟩
      rw [List.any_cons, Bool.or_eq_true]
      exact .inl (decide_eq_true h)
    have hmc := fun (w : World) (hm : Mm S0 wB [⟨some lg, 3, lcs⟩, ⟨some x.g, 87, [slv x.cA x.r.code.length x.cc, slv x.sA x.r.ss.length x.sc, slv x.dA x.ws.length x.dc, .map (some x.m), slv x.jA x.r.js.length x.jc, .int .i64 (x.line : Int), .bool x.r.last]⟩, ⟨x.cA, 54, x.ccs⟩, ⟨x.sA, 3, x.scs⟩, ⟨x.dA, 56, x.dcs⟩, ⟨x.jA, 90, x.jcs⟩] w) => max_c lg 0 (v :: t).length lc (v :: t) w rfl (by rw [hln]; omega) (by omega) (row_ro hm mem_ hrow)
    rw [hmx] at hmc
    have h6 : 65535 < mx ∨ v < 1 ∨ 32 < v ∨ v < (t.length : Int) ∨ 4 ≤ x.r.ss.length → (regF x.r words).2 = 6 := fun h => by
      unfold regF; rw [hdl]; dsimp only; rw [if_neg hu, if_pos (by rw [hgt] at h; exact h)]
    by_cases c1 : 65535 < mx
    · have hF := h6 (.inl c1)
      repeat (first | (refine ovXAsq0_ ?_; clear hs a; intro a hs) | ((with_reducible apply lCons); first | (refine dv hs gw_ rfl rfl da_ ?_; clear hs hm a; rintro _ w ⟨g, rfl, -, hm⟩ a hs) | (refine stn hs rfl rfl ds_ ?_; clear hs hm a; rintro - w hm a hs) | (refine dvc hs hm gw_ rfl rfl rfl rfl rfl (pl 84 rfl) (hmc _ hm) ?_; clear hs hm a; intro w hm a hs)) | refine sc_ ?_)
      exact gRet1 hs rfl rfl ⟨_, rfl, hF.symm, hm.fr, (fun e => by cases e)⟩
    by_cases c2 : v < 1
    · have hF := h6 (.inr (.inl c2))
      repeat (first | (refine ovXAsq0_ ?_; clear hs a; intro a hs) | ((with_reducible apply lCons); first | (refine dv hs gw_ rfl rfl da_ ?_; clear hs hm a; rintro _ w ⟨g, rfl, -, hm⟩ a hs) | (refine stn hs rfl rfl ds_ ?_; clear hs hm a; rintro - w hm a hs) | (refine dvc hs hm gw_ rfl rfl rfl rfl rfl (pl 84 rfl) (hmc _ hm) ?_; clear hs hm a; intro w hm a hs)) | refine sc_ ?_)
      exact gRet1 hs rfl rfl ⟨_, rfl, hF.symm, hm.fr, (fun e => by cases e)⟩
    by_cases c3 : 32 < v
    · have hF := h6 (.inr (.inr (.inl c3)))
      repeat (first | (refine ovXAsq0_ ?_; clear hs a; intro a hs) | ((with_reducible apply lCons); first | (refine dv hs gw_ rfl rfl da_ ?_; clear hs hm a; rintro _ w ⟨g, rfl, -, hm⟩ a hs) | (refine stn hs rfl rfl ds_ ?_; clear hs hm a; rintro - w hm a hs) | (refine dvc hs hm gw_ rfl rfl rfl rfl rfl (pl 84 rfl) (hmc _ hm) ?_; clear hs hm a; intro w hm a hs)) | refine sc_ ?_)
      exact gRet1 hs rfl rfl ⟨_, rfl, hF.symm, hm.fr, (fun e => by cases e)⟩
    by_cases c4 : v < (t.length : Int)
    · have hF := h6 (.inr (.inr (.inr (.inl c4))))
      repeat (first | (refine ovXAsq0_ ?_; clear hs a; intro a hs) | ((with_reducible apply lCons); first | (refine dv hs gw_ rfl rfl da_ ?_; clear hs hm a; rintro _ w ⟨g, rfl, -, hm⟩ a hs) | (refine stn hs rfl rfl ds_ ?_; clear hs hm a; rintro - w hm a hs) | (refine dvc hs hm gw_ rfl rfl rfl rfl rfl (pl 84 rfl) (hmc _ hm) ?_; clear hs hm a; intro w hm a hs)) | refine sc_ ?_)
      exact gRet1 hs rfl rfl ⟨_, rfl, hF.symm, hm.fr, (fun e => by cases e)⟩
    by_cases c5 : 4 ≤ x.r.ss.length
    · have hF := h6 (.inr (.inr (.inr (.inr c5))))
      repeat (first | (refine ovXAsq0_ ?_; clear hs a; intro a hs) | ((with_reducible apply lCons); first | (refine dv hs gw_ rfl rfl da_ ?_; clear hs hm a; rintro _ w ⟨g, rfl, -, hm⟩ a hs) | (refine stn hs rfl rfl ds_ ?_; clear hs hm a; rintro - w hm a hs) | (refine dvc hs hm gw_ rfl rfl rfl rfl rfl (pl 84 rfl) (hmc _ hm) ?_; clear hs hm a; intro w hm a hs)) | refine sc_ ?_)
      exact gRet1 hs rfl rfl ⟨_, rfl, hF.symm, hm.fr, (fun e => by cases e)⟩
    have hF : regF x.r words = ({ x.r with ss := x.r.ss ++ [v], ws := x.r.ws ++ [t] }, 0) := by
      unfold regF; rw [hdl]; dsimp only; rw [if_neg hu, if_neg (by rw [hgt] at c1; rintro (h1 | h1 | h1 | h1 | h1) <;> first | exact c1 h1 | omega)]
    rw [hF]
    have htb : ∀ y ∈ t, 0 ≤ y ∧ y ≤ 65535 := fun y hy => ⟨(hbd y (List.mem_cons_of_mem _ hy)).1, by
      by_cases e : 65535 < y
      · exact absurd (hgt.2 (List.any_eq_true.2 ⟨y, List.mem_cons_of_mem _ hy, decide_eq_true e⟩)) c1
      · omega⟩
    clear h6 hgt hmx
    repeat (first | (refine ovXAsq0_ ?_; clear hs a; intro a hs) | ((with_reducible apply lCons); first | (refine dv hs gw_ rfl rfl da_ ?_; clear hs hm a; rintro _ w ⟨g, rfl, -, hm⟩ a hs) | (refine stn hs rfl rfl ds_ ?_; clear hs hm a; rintro - w hm a hs) | (refine dvc hs hm gw_ rfl rfl rfl rfl rfl (pl 84 rfl) (hmc _ hm) ?_; clear hs hm a; intro w hm a hs)) | refine sc_ ?_)
    obtain ⟨B, hB⟩ : ∃ B : Option Addr, (if lc = (1 : Int).toNat then (some ⟨lg, 0, none⟩ : Option Addr) else (some ⟨lg, 0, none⟩ : Option Addr).map (·.add ((1 : Int).toNat * 1))) = B := ⟨_, rfl⟩
    have hBv : 0 < t.length → B = some ⟨lg, 1, none⟩ := fun h0 => by
      rw [← hB, if_neg (by show lc ≠ 1; omega)]
      rfl
    replace hs : Sl Tryz.f67.ntmps [(0, .pointer (some ⟨x.g, 0, none⟩)), (5, slv (some lg) (v :: t).length lc), (10, slv none 0 0), (85, .slice B t.length (lc - 1)), (86, .int .i64 (t.length : Int)), (87, .int .i64 ((0 : Nat) : Int))] a := by
      rw [← hB]
      exact hs.sub (Has.all ⟨rfl, rfl, rfl, rfl, rfl, rfl, trivial⟩)
    clear hB
    replace hm := hm.zero 74
    refine cLoop (X := RgX) (fun X a w' => Sl Tryz.f67.ntmps [(0, .pointer (some ⟨x.g, 0, none⟩)), (5, slv (some lg) (v :: t).length lc), (10, slv X.A X.k X.c), (85, .slice B t.length (lc - 1)), (86, .int .i64 (t.length : Int)), (87, .int .i64 (X.k : Int))] a ∧ Mm S0 wB [⟨X.A, 74, X.cs⟩, ⟨some lg, 3, lcs⟩, ⟨some x.g, 87, [slv x.cA x.r.code.length x.cc, slv x.sA x.r.ss.length x.sc, slv x.dA x.ws.length x.dc, .map (some x.m), slv x.jA x.r.js.length x.jc, .int .i64 (x.line : Int), .bool x.r.last]⟩, ⟨x.cA, 54, x.ccs⟩, ⟨x.sA, 3, x.scs⟩, ⟨x.dA, 56, x.dcs⟩, ⟨x.jA, 90, x.jcs⟩] w' ∧ X.k ≤ t.length ∧ Row X.A X.k X.c 1 (wds (t.take X.k)) X.cs) (fun X => t.length - X.k) ⟨0, [], none, 0, []⟩ ⟨hs, hm, Nat.zero_le _, Row.empty 1⟩ ?_
    clear hs hm a hmc
    rintro ⟨k, l_, wA, wc, wcs⟩ a w' ⟨hs, hm, hk, hrw⟩
    dsimp only at hs hm hk hrw
    by_cases hkt : k < t.length
    · have hBe := hBv (by omega)
      subst hBe
      obtain ⟨y, hy⟩ : ∃ y, t[k] = y := ⟨_, rfl⟩
      have hyb := htb t[k] (List.getElem_mem hkt)
      rw [hy] at hyb
      have e1 : lcs[1 + k]? = some (.int .i64 y) := hrow.get (by
        show (ints (v :: t))[1 + k]? = _
        rw [Nat.add_comm 1 k]
        show (ints t)[k]? = _
        unfold ints
        rw [List.getElem?_map, List.getElem?_eq_getElem hkt, hy]; rfl)
      repeat (first | (refine ovXAsq0_ ?_; clear hs a; intro a hs) | ((with_reducible apply lCons); first | (refine dv hs gw_ rfl rfl da_ ?_; clear hs hm a; rintro _ w ⟨g, rfl, -, hm⟩ a hs) | (refine stn hs rfl rfl ds_ ?_; clear hs hm a; rintro - w hm a hs)) | refine sc_ ?_)
      rw [wrap16 hyb] at hs hm
      refine dv hs (Wnt.none rfl) rfl rfl (d_append (A := wA) (n := k) (c := wc) (news := [.int .u16 y]) hs rfl rfl rfl rfl rfl tab rfl rfl rfl rfl rfl hm mem_ hrw rfl (hm.ro (n := 1) mem_ (cutF_ok rfl)) rfl (by show (k + 1) * 2 ≤ _; omega) (by omega)) ?_
      clear hs
      rintro _ w2 ⟨A2, c2, cs2, rfl, hr2, hM⟩ a hs
      replace hm := hM _ rep_
      clear hM
      rw [show wds (t.take k) ++ [.int .u16 y] = wds (t.take (k + 1)) by unfold wds; rw [List.take_succ_eq_append_getElem hkt, List.map_append, hy]; rfl] at hr2
      repeat (first | (refine ovXAsq0_ ?_; clear hs a; intro a hs) | ((with_reducible apply lCons); first | (refine dv hs gw_ rfl rfl da_ ?_; clear hs hm a; rintro _ w ⟨g, rfl, -, hm⟩ a hs) | (refine stn hs rfl rfl ds_ ?_; clear hs hm a; rintro - w hm a hs)) | refine sc_ ?_)
      exact ⟨⟨k + 1, [], A2, c2, cs2⟩, by dsimp only; omega, hs.sub (Has.all ⟨rfl, rfl, rfl, rfl, rfl, rfl, trivial⟩), hm.sub sub_, by dsimp only; omega, hr2⟩
    obtain rfl : k = t.length := by omega
    rw [List.take_length] at hrw
    repeat (first | (refine ovXAsq0_ ?_; clear hs a; intro a hs) | ((with_reducible apply lCons); first | (refine dv hs gw_ rfl rfl da_ ?_; clear hs hm a; rintro _ w ⟨g, rfl, -, hm⟩ a hs) | (refine stn hs rfl rfl ds_ ?_; clear hs hm a; rintro - w hm a hs)) | refine sc_ ?_)
    have hxs := h.s
    have hxd := h.d
    refine cMid (fun a w => ∃ (sA2 : Option Nat) (sc2 : Nat) (scs2 : List Value) (dA2 : Option Nat) (dc2 : Nat) (dcs2 : List Value), Row sA2 (x.r.ss.length + 1) sc2 1 (ints x.r.ss ++ [.int .i64 v]) scs2 ∧ Row dA2 (x.ws.length + 1) dc2 1 (x.ws.map WS.v ++ [slv wA t.length wc]) dcs2 ∧ Sl Tryz.f67.ntmps [(0, .pointer (some ⟨x.g, 0, none⟩))] a ∧ Mm S0 wB [⟨wA, 74, wcs⟩, ⟨some x.g, 87, [slv x.cA x.r.code.length x.cc, slv sA2 (x.r.ss.length + 1) sc2, slv dA2 (x.ws.length + 1) dc2, .map (some x.m), slv x.jA x.r.js.length x.jc, .int .i64 (x.line : Int), .bool x.r.last]⟩, ⟨x.cA, 54, x.ccs⟩, ⟨sA2, 3, scs2⟩, ⟨dA2, 56, dcs2⟩, ⟨x.jA, 90, x.jcs⟩] w) ?_ ?_
    · skip
      refine cDrawB (n := 28) 23 [⟨some lg, 3, lcs⟩, ⟨some x.g, 87, [slv x.cA x.r.code.length x.cc, slv x.sA x.r.ss.length x.sc, slv x.dA x.ws.length x.dc, .map (some x.m), slv x.jA x.r.js.length x.jc, .int .i64 (x.line : Int), .bool x.r.last]⟩] hm rfl rfl ?_
      clear hm
      intro w2 hm
      refine bU_ 0 ?_; clear hs a; intro a hs
      refine bU_ 1 ?_; clear hs a; intro a hs
      refine bU_ 2 ?_; clear hs a; intro a hs
      refine bU_ 3 ?_; clear hs a; intro a hs
      refine bU_ 4 ?_; clear hs a; intro a hs
      refine bU_ 5 ?_; clear hs a; intro a hs
      refine bTake 6 true hs rfl (by kernel_rfl) (by kernel_rfl) (Wnt.none rfl) rfl rfl (by intro w hm; replace hm : Mm _ _ _ w := hm rfl; exact kl_) (.inr (hm.sub sub_)) ?_; clear hs a; intro a hs
      refine bU_ 7 ?_; clear hs a; intro a hs
      refine bTake 8 false hs rfl (by kernel_rfl) (by kernel_rfl) (Wnt.none rfl) rfl rfl (by intro w hm; (first | exact r_iz hs tab rfl rfl (by omega) | exact r_iy hs tab rfl rfl (by omega))) (.inr (hm.sub sub_)) ?_; clear hs a; intro a hs
      refine bTake 9 true hs rfl (by kernel_rfl) (by kernel_rfl) (Wnt.none rfl) rfl rfl (by intro w hm; replace hm : Mm _ _ _ w := hm rfl; exact kl_) (.inr (hm.sub sub_)) ?_; clear hs a; intro a hs
      refine bU_ 12 ?_; clear hs a; intro a hs
      refine bU_ 13 ?_; clear hs a; intro a hs
      refine bU_ 14 ?_; clear hs a; intro a hs
      refine bU_ 15 ?_; clear hs a; intro a hs
      refine bTake 16 true hs rfl (by kernel_rfl) (by kernel_rfl) (Wnt.none rfl) rfl rfl (by intro w hm; replace hm : Mm _ _ _ w := hm rfl; exact kl_) (.inr (hm.sub sub_)) ?_; clear hs a; intro a hs
      refine bU_ 17 ?_; clear hs a; intro a hs
      refine bEach [10, 18] (by kernel_rfl) (bDo hs rfl (Wnt.none rfl) rfl rfl (by exact d_buildSlice hs rfl tab rfl rfl rfl rfl rfl rfl rfl rfl rfl hm) ?_ (bDo hs rfl (Wnt.none rfl) rfl rfl (by exact d_buildSlice hs rfl tab rfl rfl rfl rfl rfl rfl rfl rfl rfl hm) ?_ bNil))
      · skip
        clear hs hm a
        rintro _ w30 ⟨g107, rfl, -, hm⟩ a hs
        refine ⟨.inr (hm.sub sub_), ?_⟩
        refine bEach [11, 18] (by kernel_rfl) (bDo hs rfl (Wnt.none rfl) rfl rfl (d_append (A := x.sA) (n := x.r.ss.length) (c := x.sc) (news := [.int .i64 v]) hs rfl rfl rfl rfl rfl tab rfl rfl rfl rfl rfl hm mem_ hxs rfl (hm.ro (n := 1) mem_ (cutF_ok rfl)) rfl (by show (x.r.ss.length + 1) * 8 ≤ _; omega) (by omega)) ?_ (bDo hs rfl (Wnt.none rfl) rfl rfl (by exact d_buildSlice hs rfl tab rfl rfl rfl rfl rfl rfl rfl rfl rfl hm) ?_ bNil))
        · skip
          clear hs
          rintro _ w1 ⟨sA2, sc2, scs2, rfl, hr11, hM⟩ a hs
          replace hm := hM _ rep_
          clear hM
          refine ⟨.inr (hm.sub sub_), ?_⟩
          refine bEach [18] (by kernel_rfl) (bDo hs rfl (Wnt.none rfl) rfl rfl (by exact d_buildSlice hs rfl tab rfl rfl rfl rfl rfl rfl rfl rfl rfl hm) ?_ bNil)
          clear hs hm a
          rintro _ w38 ⟨g115, rfl, -, hm⟩ a hs
          refine ⟨.inr (hm.sub sub_), ?_⟩
          refine bEach [19] (by kernel_rfl) (bDo hs rfl (Wnt.none rfl) rfl rfl (d_append (A := x.dA) (n := x.ws.length) (c := x.dc) (news := [slv wA t.length wc]) hs rfl rfl rfl rfl rfl tab rfl rfl rfl rfl rfl hm mem_ hxd rfl (hm.ro (n := 1) mem_ (cutF_ok rfl)) rfl (by show (x.ws.length + 1) * 24 ≤ _; omega) (by omega)) ?_ bNil)
          clear hs
          rintro _ w1 ⟨dA2, dc2, dcs2, rfl, hr19, hM⟩ a hs
          replace hm := hM _ rep_
          clear hM
          refine ⟨.inr (hm.sub sub_), ?_⟩
          refine bU_ 20 ?_; clear hs a; intro a hs
          refine bU_ 21 ?_; clear hs a; intro a hs
          refine bU_ 22 ?_; clear hs a; intro a hs
          refine bEach [23] (by kernel_rfl) (bDoN hs rfl (Wnt.none rfl) rfl ds_ ?_ bNil)
          clear hs hm
          rintro - w43 hm a hs
          refine ⟨.inl (by kernel_rfl), ?_⟩
          refine bW_ 24 ?_; clear hs a; intro a hs
          refine bW_ 25 ?_; clear hs a; intro a hs
          refine bW_ 26 ?_; clear hs a; intro a hs
          refine bEach [27] (by kernel_rfl) (bDoN hs rfl (Wnt.none rfl) rfl ds_ ?_ bNil)
          clear hs hm
          rintro - w47 hm a hs
          refine ⟨.inl (by kernel_rfl), ?_⟩
          refine bDone (by kernel_rfl) ?_
          exact And.intro rfl ⟨sA2, sc2, scs2, dA2, dc2, dcs2, hr11, hr19, hs.sub (Has.all ⟨rfl, trivial⟩), hm.sub sub_⟩
        · skip
          clear hs hm a
          rintro _ w38 ⟨g115, rfl, -, hm⟩ a hs
          refine ⟨.inr (hm.sub sub_), ?_⟩
          refine bEach [11] (by kernel_rfl) (bDo hs rfl (Wnt.none rfl) rfl rfl (d_append (A := x.sA) (n := x.r.ss.length) (c := x.sc) (news := [.int .i64 v]) hs rfl rfl rfl rfl rfl tab rfl rfl rfl rfl rfl hm mem_ hxs rfl (hm.ro (n := 1) mem_ (cutF_ok rfl)) rfl (by show (x.r.ss.length + 1) * 8 ≤ _; omega) (by omega)) ?_ bNil)
          clear hs
          rintro _ w1 ⟨sA2, sc2, scs2, rfl, hr11, hM⟩ a hs
          replace hm := hM _ rep_
          clear hM
          refine ⟨.inr (hm.sub sub_), ?_⟩
          refine bEach [19] (by kernel_rfl) (bDo hs rfl (Wnt.none rfl) rfl rfl (d_append (A := x.dA) (n := x.ws.length) (c := x.dc) (news := [slv wA t.length wc]) hs rfl rfl rfl rfl rfl tab rfl rfl rfl rfl rfl hm mem_ hxd rfl (hm.ro (n := 1) mem_ (cutF_ok rfl)) rfl (by show (x.ws.length + 1) * 24 ≤ _; omega) (by omega)) ?_ bNil)
          clear hs
          rintro _ w1 ⟨dA2, dc2, dcs2, rfl, hr19, hM⟩ a hs
          replace hm := hM _ rep_
          clear hM
          refine ⟨.inr (hm.sub sub_), ?_⟩
          refine bU_ 20 ?_; clear hs a; intro a hs
          refine bU_ 21 ?_; clear hs a; intro a hs
          refine bU_ 22 ?_; clear hs a; intro a hs
          refine bEach [23] (by kernel_rfl) (bDoN hs rfl (Wnt.none rfl) rfl ds_ ?_ bNil)
          clear hs hm
          rintro - w43 hm a hs
          refine ⟨.inl (by kernel_rfl), ?_⟩
          refine bW_ 24 ?_; clear hs a; intro a hs
          refine bW_ 25 ?_; clear hs a; intro a hs
          refine bW_ 26 ?_; clear hs a; intro a hs
          refine bEach [27] (by kernel_rfl) (bDoN hs rfl (Wnt.none rfl) rfl ds_ ?_ bNil)
          clear hs hm
          rintro - w47 hm a hs
          refine ⟨.inl (by kernel_rfl), ?_⟩
          refine bDone (by kernel_rfl) ?_
          exact And.intro rfl ⟨sA2, sc2, scs2, dA2, dc2, dcs2, hr11, hr19, hs.sub (Has.all ⟨rfl, trivial⟩), hm.sub sub_⟩
      · skip
        clear hs hm a
        rintro _ w38 ⟨g115, rfl, -, hm⟩ a hs
        refine ⟨.inr (hm.sub sub_), ?_⟩
        refine bEach [10] (by kernel_rfl) (bDo hs rfl (Wnt.none rfl) rfl rfl (by exact d_buildSlice hs rfl tab rfl rfl rfl rfl rfl rfl rfl rfl rfl hm) ?_ bNil)
        clear hs hm a
        rintro _ w30 ⟨g107, rfl, -, hm⟩ a hs
        refine ⟨.inr (hm.sub sub_), ?_⟩
        refine bEach [11] (by kernel_rfl) (bDo hs rfl (Wnt.none rfl) rfl rfl (d_append (A := x.sA) (n := x.r.ss.length) (c := x.sc) (news := [.int .i64 v]) hs rfl rfl rfl rfl rfl tab rfl rfl rfl rfl rfl hm mem_ hxs rfl (hm.ro (n := 1) mem_ (cutF_ok rfl)) rfl (by show (x.r.ss.length + 1) * 8 ≤ _; omega) (by omega)) ?_ bNil)
        clear hs
        rintro _ w1 ⟨sA2, sc2, scs2, rfl, hr11, hM⟩ a hs
        replace hm := hM _ rep_
        clear hM
        refine ⟨.inr (hm.sub sub_), ?_⟩
        refine bEach [19] (by kernel_rfl) (bDo hs rfl (Wnt.none rfl) rfl rfl (d_append (A := x.dA) (n := x.ws.length) (c := x.dc) (news := [slv wA t.length wc]) hs rfl rfl rfl rfl rfl tab rfl rfl rfl rfl rfl hm mem_ hxd rfl (hm.ro (n := 1) mem_ (cutF_ok rfl)) rfl (by show (x.ws.length + 1) * 24 ≤ _; omega) (by omega)) ?_ bNil)
        clear hs
        rintro _ w1 ⟨dA2, dc2, dcs2, rfl, hr19, hM⟩ a hs
        replace hm := hM _ rep_
        clear hM
        refine ⟨.inr (hm.sub sub_), ?_⟩
        refine bU_ 20 ?_; clear hs a; intro a hs
        refine bU_ 21 ?_; clear hs a; intro a hs
        refine bU_ 22 ?_; clear hs a; intro a hs
        refine bEach [23] (by kernel_rfl) (bDoN hs rfl (Wnt.none rfl) rfl ds_ ?_ bNil)
        clear hs hm
        rintro - w43 hm a hs
        refine ⟨.inl (by kernel_rfl), ?_⟩
        refine bW_ 24 ?_; clear hs a; intro a hs
        refine bW_ 25 ?_; clear hs a; intro a hs
        refine bW_ 26 ?_; clear hs a; intro a hs
        refine bEach [27] (by kernel_rfl) (bDoN hs rfl (Wnt.none rfl) rfl ds_ ?_ bNil)
        clear hs hm
        rintro - w47 hm a hs
        refine ⟨.inl (by kernel_rfl), ?_⟩
        refine bDone (by kernel_rfl) ?_
        exact And.intro rfl ⟨sA2, sc2, scs2, dA2, dc2, dcs2, hr11, hr19, hs.sub (Has.all ⟨rfl, trivial⟩), hm.sub sub_⟩
    clear hs hm a
    rintro a w ⟨sA2, sc2, scs2, dA2, dc2, dcs2, hr11, hr19, hs, hm⟩
    repeat (first | (refine ovXAsq0_ ?_; clear hs a; intro a hs) | ((with_reducible apply lCons); first | (refine dv hs gw_ rfl rfl da_ ?_; clear hs hm a; rintro _ w ⟨g, rfl, -, hm⟩ a hs) | (refine stn hs rfl rfl ds_ ?_; clear hs hm a; rintro - w hm a hs)) | refine sc_ ?_)
    refine gRet1 hs rfl rfl ⟨_, rfl, rfl, hm.fr, fun _ => ?_⟩
    obtain ⟨y, hy⟩ : ∃ y : RdX, y = ⟨x.g, x.m, x.cA, x.cc, x.ccs, sA2, sc2, scs2, dA2, dc2, dcs2, x.jA, x.jc, x.jcs, x.ws ++ [⟨wA, wc, wcs, t⟩], x.line, { x.r with ss := x.r.ss ++ [v], ws := x.r.ws ++ [t] }⟩ := ⟨_, rfl⟩
    have l1 : (x.r.ss ++ [v]).length = x.r.ss.length + 1 := by rw [List.length_append]; rfl
    have l2 : (x.ws ++ [(⟨wA, wc, wcs, t⟩ : WS)]).length = x.ws.length + 1 := by rw [List.length_append]; rfl
    have hmy : Mm S0 wB (⟨wA, 74, wcs⟩ :: y.M) w := by
      rw [hy]
      unfold RdX.M RdX.hd
      dsimp only
      rw [l1, l2]
      exact hm
    have hmy2 := hmy.sub (List.sublist_cons_self _ _)
    rw [← hS0] at hmy2
    obtain ⟨p1, p2, p3, p4, p5⟩ := RdX.after h hmy2 (by rw [hy])
    refine ⟨y, by rw [hy], by rw [hy], by rw [hy], by rw [hy], ⟨p4, by rw [hy]; rw [hy] at p3; exact p3, p2, by rw [hy]; exact h.c, ?_, ?_, by rw [hy]; exact h.j, by rw [hy]; dsimp only; rw [List.map_append, h.ws]; rfl, ?_, ?_⟩, p1⟩
    · rw [hy]
      dsimp only
      rw [l1, show ints (x.r.ss ++ [v]) = ints x.r.ss ++ [.int .i64 v] by unfold ints; rw [List.map_append]; rfl]
      exact hr11
    · rw [hy]
      dsimp only
      rw [l2, List.map_append]
      exact hr19
    · intro r hr
      have hr' : r ∈ x.ws ∨ r = ⟨wA, wc, wcs, t⟩ := by
        rw [hy] at hr
        rcases List.mem_append.1 hr with hr | hr
        · exact .inl hr
        · exact .inr (List.mem_singleton.1 hr)
      rcases hr' with hr' | rfl
      · exact p5 r hr'
      · refine ⟨hmy.rd_row (List.mem_cons_self ..) hrw, fun g hg => ⟨fun hd => ?_, Hp.lt (hmy.me _ (List.mem_cons_self ..)) hg⟩⟩
        rcases hd with ⟨z, hz, e⟩ | hd
        · exact hmy.dj.1 z hz g hg e
        · rcases hmy.ow _ (List.mem_cons_self ..) g hg with h1 | h1
          · have := h.ml.lt
            rw [hd, hy] at h1
            dsimp only at h1
            omega
          · rw [hd, hy] at h1
            exact hnm h1
    · rw [hy]
      dsimp only
      rw [l1, l2]
      exact ⟨z1, by omega, by omega, z4, z5⟩
end Go.Proofs.YtajkekhnfobgiaaGreatDoor

/- Taking a word off an instruction's line; whether a word is a label. -/
namespace Go.Proofs.YtajkekhnfobgiaaGreatDoor
set_option maxRecDepth 20000
open Go.RowKit
theorem ovXAsr0_ {G H : Prop} (k : H) (s : H → G := by intro k; (with_reducible refine toL hm ?_); first | exact oneV hs gw_ rfl rfl (by intro w hm; (first | exact kv_ | exact ksl_)) k | exact oneN hs rfl rfl rfl rfl rfl rfl rfl k | exact oneU hs rfl rfl rfl rfl rfl rfl k) : G := s k
theorem oqXAsr1_ {G H : Prop} (k : H) (s : H → G := by intro k; (with_reducible first | refine toL hm ?_ | refine toQ ?_); first | exact oneV hs gw_ rfl rfl (by intro w hm; (first | exact kv_ | exact r_sidx (k := 0) hs rfl rfl rfl tab rfl rfl (by assumption))) k | exact oneN hs rfl rfl rfl rfl rfl rfl rfl k | exact oneU hs rfl rfl rfl rfl rfl rfl k) : G := s k

theorem cutp_c (s p : Tx) (w : World) : Ret Tryz.prog 86 [txv s, txv p] w (fun u w' => u = .tuple #[txv (Lib.trimPrefix s p), .bool (p.isPrefixOf s)] ∧ Pu w w') := by
  have h := Tryz.strings_CutPrefix ⟨s.toArray⟩ ⟨p.toArray⟩ w
  rw [ba_l, ba_l] at h
  exact ⟨Calls.mono h fun _ _ ⟨h1, h2⟩ => ⟨_, h1, rfl, h2 ▸ Fr.refl _ _⟩⟩
theorem cuts_c (s p : Tx) (w : World) (hs : s.length ≤ 1000000) : Ret Tryz.prog 65 [txv s, txv p] w (fun u w' => u = .tuple #[txv (Lib.trimSuffix s p), .bool (p.isSuffixOf s)] ∧ Pu w w') := by
  have h := Tryz.strings_CutSuffix ⟨s.toArray⟩ ⟨p.toArray⟩ w (by rw [ba_s]; omega)
  rw [ba_l, ba_l] at h
  exact ⟨Calls.mono h fun _ _ ⟨h1, h2⟩ => ⟨_, h1, rfl, h2 ▸ Fr.refl _ _⟩⟩
theorem trimP_len (s p : Tx) : (Lib.trimPrefix s p).length ≤ s.length := by
  unfold Lib.trimPrefix
  split
  · rw [List.length_drop]; omega
  · exact Nat.le_refl _
section
variable {D : Nat → Prop} {w0 : World} {M : List Hp}
theorem tk_nil (gw gi gf pos : Nat) (A : Option Addr) (c : Nat) (ics : List Value) (f : Bool) (pre : Tx) (most : Int) (wB : World) (hm0 : Mm D w0 (⟨some gw, 40, [.slice A 0 c]⟩ :: ⟨some gi, 54, ics⟩ :: ⟨some gf, 4, [.bool f]⟩ :: M) wB) :
    Ret Tryz.prog 85 [txv pre, .int .i64 most, .pointer (some ⟨gi, pos, none⟩), .pointer (some ⟨gw, 0, none⟩), .pointer (some ⟨gf, 0, none⟩)] wB (fun u w' => u = .bool false ∧ Mm D w0 (⟨some gw, 40, [.slice A 0 c]⟩ :: ⟨some gi, 54, ics⟩ :: ⟨some gf, 4, [.bool f]⟩ :: M) w') := by
  refine enterR Tryz.func85 rfl rfl rfl fun a hs hm => ?_
  clear hm
  have hm := hm0
  repeat (first | (refine ovXAsr0_ ?_; clear hs a; intro a hs) | ((with_reducible apply lCons); first | (refine dv hs gw_ rfl rfl da_ ?_; clear hs hm a; rintro _ w ⟨g, rfl, -, hm⟩ a hs) | (refine stn hs rfl rfl ds_ ?_; clear hs hm a; rintro - w hm a hs)) | refine sc_ ?_)
  exact gRet1 hs rfl rfl ⟨rfl, hm⟩
set_option maxHeartbeats 8000000 in
theorem tk_cons (gw gi gf pos : Nat) (b o : Nat) (c : Nat) (s : Tx) (t : List Tx) (ics : List Value) (f : Bool) (pre : Tx) (most : Int) (wB : World) (hm0 : Mm D w0 (⟨some gw, 40, [.slice (some ⟨b, o, none⟩) (t.length + 1) c]⟩ :: ⟨some gi, 54, ics⟩ :: ⟨some gf, 4, [.bool f]⟩ :: M) wB)
    (hro : Ro w0 b o ((s :: t).map txv)) (hnb : ¬ D b) (hl : s.length ≤ 5000) (hi : ics.length = 5) (hp : pos < 5) :
    Ret Tryz.prog 85 [txv pre, .int .i64 most, .pointer (some ⟨gi, pos, none⟩), .pointer (some ⟨gw, 0, none⟩), .pointer (some ⟨gf, 0, none⟩)] wB (fun u w' => u = .bool (pre.isPrefixOf s && (decF (Lib.trimPrefix s pre)).isSome) ∧ Mm D w0 (⟨some gw, 40, [.slice (if c = 1 then some ⟨b, o, none⟩ else some ⟨b, o + 1, none⟩) t.length (c - 1)]⟩ :: ⟨some gi, 54, ics.set pos (.int .i64 ((decF (Lib.trimPrefix s pre)).getD 0))⟩ :: ⟨some gf, 4, [.bool (f || decide (most < (decF (Lib.trimPrefix s pre)).getD 0))]⟩ :: M) w') := by
  have hcp := fun w => cutp_c s pre w
  have hdc := fun w => dec_c (Lib.trimPrefix s pre) w (by have := trimP_len s pre; omega)
  unfold dcV at hdc
  obtain ⟨pf, hpf⟩ : ∃ z, pre.isPrefixOf s = z := ⟨_, rfl⟩
  obtain ⟨rs, hrs⟩ : ∃ z, Lib.trimPrefix s pre = z := ⟨_, rfl⟩
  obtain ⟨is, his⟩ : ∃ z, (decF (Lib.trimPrefix s pre)).isSome = z := ⟨_, rfl⟩
  obtain ⟨n, hn⟩ : ∃ z, (decF (Lib.trimPrefix s pre)).getD 0 = z := ⟨_, rfl⟩
  rw [hpf] at hcp
  rw [his, hn] at hdc
  rw [hpf, his, hn]
  rw [hrs] at hcp hdc
  clear hpf hrs his hn
  have e1 : ((s :: t).map txv)[0]? = some (txv s) := rfl
  have hA : (if c = (1 : Int).toNat then some ⟨b, o, none⟩ else (some ⟨b, o, none⟩ : Option Addr).map (·.add ((1 : Int).toNat * 1))) = (if c = 1 then some ⟨b, o, none⟩ else some ⟨b, o + 1, none⟩ : Option Addr) := by
    show (if c = 1 then _ else _) = _
    split <;> rfl
  rw [← hA]
  by_cases q : most < n
  · rw [decide_eq_true q]
    cases f <;> cases pf <;> cases is
    all_goals
      refine enterR Tryz.func85 rfl rfl rfl fun a hs hm => ?_
      clear hm
      have hm := hm0
      repeat (first | (refine ovXAsr0_ ?_; clear hs a; intro a hs) | ((with_reducible apply lCons); first | (refine dv hs gw_ rfl rfl da_ ?_; clear hs hm a; rintro _ w ⟨g, rfl, -, hm⟩ a hs) | (refine stn hs rfl rfl ds_ ?_; clear hs hm a; rintro - w hm a hs) | (refine dvc hs hm gw_ rfl rfl rfl rfl rfl (pl 86 rfl) (hcp _) ?_; clear hs hm a; intro w hm a hs) | (refine dvc hs hm gw_ rfl rfl rfl rfl rfl (pl 83 rfl) (hdc _) ?_; clear hs hm a; intro w hm a hs)) | refine sc_ ?_)
      exact gRet1 hs rfl rfl ⟨rfl, hm⟩
  · rw [decide_eq_false q]
    cases f <;> cases pf <;> cases is
    all_goals
      refine enterR Tryz.func85 rfl rfl rfl fun a hs hm => ?_
      clear hm
      have hm := hm0
      repeat (first | (refine ovXAsr0_ ?_; clear hs a; intro a hs) | ((with_reducible apply lCons); first | (refine dv hs gw_ rfl rfl da_ ?_; clear hs hm a; rintro _ w ⟨g, rfl, -, hm⟩ a hs) | (refine stn hs rfl rfl ds_ ?_; clear hs hm a; rintro - w hm a hs) | (refine dvc hs hm gw_ rfl rfl rfl rfl rfl (pl 86 rfl) (hcp _) ?_; clear hs hm a; intro w hm a hs) | (refine dvc hs hm gw_ rfl rfl rfl rfl rfl (pl 83 rfl) (hdc _) ?_; clear hs hm a; intro w hm a hs)) | refine sc_ ?_)
      exact gRet1 hs rfl rfl ⟨rfl, hm⟩
end

set_option maxHeartbeats 4000000 in
theorem nm_c (s : Tx) (wB : World) (hl : s.length ≤ 100000) : Ret Tryz.prog 66 [txv s] wB (fun u w' => u = .bool (nmB s) ∧ Pu wB w') := by
  have hsz := ba_s s
  have htr := fun w => trim_c s alns w (by omega) (by decide) (by decide)
  have htd := trim_alns s
  by_cases h8 : 8 < s.length
  · rw [show nmB s = false by unfold nmB; rw [decide_eq_false (by omega), Bool.and_false]]
    refine enterR Tryz.func66 rfl rfl rfl fun a hs hm => ?_
    repeat (first | (refine oqXAsr1_ ?_; clear hs a; intro a hs) | ((with_reducible apply lCons); first | (refine dv hs gw_ rfl rfl da_ ?_; clear hs hm a; rintro _ w ⟨g, rfl, -, hm⟩ a hs) | (refine stn hs rfl rfl ds_ ?_; clear hs hm a; rintro - w hm a hs)) | ((with_reducible apply qNil); clear hm; intro w hm) | refine cQ_ ?_ | refine sc_ ?_)
    exact gRet1 hs rfl rfl ⟨rfl, hm.fr⟩
  cases s with
  | nil =>
    refine enterR Tryz.func66 rfl rfl rfl fun a hs hm => ?_
    rw [List.length_nil] at hsz
    repeat (first | (refine oqXAsr1_ ?_; clear hs a; intro a hs) | ((with_reducible apply lCons); first | (refine dv hs gw_ rfl rfl da_ ?_; clear hs hm a; rintro _ w ⟨g, rfl, -, hm⟩ a hs) | (refine stn hs rfl rfl ds_ ?_; clear hs hm a; rintro - w hm a hs)) | ((with_reducible apply qNil); clear hm; intro w hm) | refine cQ_ ?_ | refine sc_ ?_)
    exact gRet1 hs rfl rfl ⟨rfl, hm.fr⟩
  | cons c t =>
    have hc : (c :: t)[0]? = some c := rfl
    have hln : (c :: t).length = t.length + 1 := rfl
    have hn1 : nmB (c :: t) = (lowB c && (c :: t).all alnB) := by unfold nmB; rw [decide_eq_true (by omega), Bool.and_true]; rfl
    rw [hn1]
    clear hn1
    have hlc : lowB c = decide (97 ≤ c.toNat ∧ c.toNat ≤ 122) := rfl
    have ha : (c :: t).all alnB = decide ((c :: t).all alnB = true) := by cases (c :: t).all alnB <;> rfl
    generalize (c :: t) = s at *
    by_cases h1 : c.toNat < 97
    · rw [hlc, decide_eq_false (by omega), Bool.false_and]
      refine enterR Tryz.func66 rfl rfl rfl fun a hs hm => ?_
      repeat (first | (refine oqXAsr1_ ?_; clear hs a; intro a hs) | ((with_reducible apply lCons); first | (refine dv hs gw_ rfl rfl da_ ?_; clear hs hm a; rintro _ w ⟨g, rfl, -, hm⟩ a hs) | (refine stn hs rfl rfl ds_ ?_; clear hs hm a; rintro - w hm a hs)) | ((with_reducible apply qNil); clear hm; intro w hm) | refine cQ_ ?_ | refine sc_ ?_)
      exact gRet1 hs rfl rfl ⟨rfl, hm.fr⟩
    by_cases h2 : 122 < c.toNat
    · rw [hlc, decide_eq_false (by omega), Bool.false_and]
      refine enterR Tryz.func66 rfl rfl rfl fun a hs hm => ?_
      repeat (first | (refine oqXAsr1_ ?_; clear hs a; intro a hs) | ((with_reducible apply lCons); first | (refine dv hs gw_ rfl rfl da_ ?_; clear hs hm a; rintro _ w ⟨g, rfl, -, hm⟩ a hs) | (refine stn hs rfl rfl ds_ ?_; clear hs hm a; rintro - w hm a hs)) | ((with_reducible apply qNil); clear hm; intro w hm) | refine cQ_ ?_ | refine sc_ ?_)
      exact gRet1 hs rfl rfl ⟨rfl, hm.fr⟩
    rw [hlc, decide_eq_true (by omega), Bool.true_and]
    by_cases h3 : s.all alnB = true
    · rw [h3]
      rw [htd.2 h3] at htr
      refine enterR Tryz.func66 rfl rfl rfl fun a hs hm => ?_
      repeat (first | (refine oqXAsr1_ ?_; clear hs a; intro a hs) | ((with_reducible apply lCons); first | (refine dv hs gw_ rfl rfl da_ ?_; clear hs hm a; rintro _ w ⟨g, rfl, -, hm⟩ a hs) | (refine stn hs rfl rfl ds_ ?_; clear hs hm a; rintro - w hm a hs) | (refine dvc hs hm gw_ rfl rfl rfl rfl rfl (pl 82 rfl) (htr _) ?_; clear hs hm a; intro w hm a hs)) | ((with_reducible apply qCons); first | (refine qwc hs gw_ rfl rfl rfl rfl rfl (pl 82 rfl) (fun w hm => htr _) ?_; clear hs a; intro a hs)) | ((with_reducible apply qNil); clear hm; intro w hm) | refine cQ_ ?_ | refine sc_ ?_)
      rw [sEE] at hs
      repeat (first | (refine oqXAsr1_ ?_; clear hs a; intro a hs) | ((with_reducible apply lCons); first | (refine dv hs gw_ rfl rfl da_ ?_; clear hs hm a; rintro _ w ⟨g, rfl, -, hm⟩ a hs) | (refine stn hs rfl rfl ds_ ?_; clear hs hm a; rintro - w hm a hs)) | ((with_reducible apply qNil); clear hm; intro w hm) | refine cQ_ ?_ | refine sc_ ?_)
      exact gRet1 hs rfl rfl ⟨rfl, hm.fr⟩
    · have h4 := sEqF (l := Lib.trimS s alns) (m := []) fun e => h3 (htd.1 e)
      rw [ha, decide_eq_false h3]
      refine enterR Tryz.func66 rfl rfl rfl fun a hs hm => ?_
      repeat (first | (refine oqXAsr1_ ?_; clear hs a; intro a hs) | ((with_reducible apply lCons); first | (refine dv hs gw_ rfl rfl da_ ?_; clear hs hm a; rintro _ w ⟨g, rfl, -, hm⟩ a hs) | (refine stn hs rfl rfl ds_ ?_; clear hs hm a; rintro - w hm a hs) | (refine dvc hs hm gw_ rfl rfl rfl rfl rfl (pl 82 rfl) (htr _) ?_; clear hs hm a; intro w hm a hs)) | ((with_reducible apply qCons); first | (refine qwc hs gw_ rfl rfl rfl rfl rfl (pl 82 rfl) (fun w hm => htr _) ?_; clear hs a; intro a hs)) | ((with_reducible apply qNil); clear hm; intro w hm) | refine cQ_ ?_ | refine sc_ ?_)
      rw [h4] at hs
      repeat (first | (refine oqXAsr1_ ?_; clear hs a; intro a hs) | ((with_reducible apply lCons); first | (refine dv hs gw_ rfl rfl da_ ?_; clear hs hm a; rintro _ w ⟨g, rfl, -, hm⟩ a hs) | (refine stn hs rfl rfl ds_ ?_; clear hs hm a; rintro - w hm a hs)) | ((with_reducible apply qNil); clear hm; intro w hm) | refine cQ_ ?_ | refine sc_ ?_)
      exact gRet1 hs rfl rfl ⟨rfl, hm.fr⟩
end Go.Proofs.YtajkekhnfobgiaaGreatDoor

/- A line of an instruction, by the program. -/
namespace Go.Proofs.YtajkekhnfobgiaaGreatDoor
set_option maxRecDepth 20000
open Go.RowKit
theorem ovXAss0_ {G H : Prop} (k : H) (s : H → G := by intro k; (with_reducible refine toL hm ?_); first | exact oneV hs gw_ rfl rfl (by intro w hm; (first | exact kv_ | exact ksl_)) k | exact oneN hs rfl rfl rfl rfl rfl rfl rfl k | exact oneU hs rfl rfl rfl rfl rfl rfl k) : G := s k
theorem oqXAss1_ {G H : Prop} (k : H) (s : H → G := by intro k; (with_reducible first | refine toL hm ?_ | refine toQ ?_); first | exact oneV hs gw_ rfl rfl (by intro w hm; (first | exact kv_ | exact ksl_)) k | exact oneN hs rfl rfl rfl rfl rfl rfl rfl k | exact oneU hs rfl rfl rfl rfl rfl rfl k) : G := s k

def rk1 (op : Int) (ws : List Tx) : Option (Int × Int × Int × Bool × List Tx) :=
  match tkR (usesF op).1 [114] 7 ws with
  | none => none
  | some (a, f, w) => some (a, 0, 0, f, w)
def rk2 (op : Int) (ws : List Tx) : Option (Int × Int × Int × Bool × List Tx) :=
  match rk1 op ws with
  | none => none
  | some (a, _, _, f, w) => match tkR (usesF op).2.1 [114] 7 w with
    | none => none
    | some (b, f2, w2) => some (a, b, 0, f || f2, w2)
def rk3 (op : Int) (ws : List Tx) : Option (Int × Int × Int × Bool × List Tx) :=
  match rk2 op ws with
  | none => none
  | some (a, b, _, f, w) => match tkR (usesF op).2.2.1 [114] 7 w with
    | none => none
    | some (c, f3, w3) => some (a, b, c, f || f3, w3)
/-- registers that have been read -/
def rkF (op : Int) (ws : List Tx) : Nat → Option (Int × Int × Int × Bool × List Tx)
  | 0 => some (0, 0, 0, false, ws)
  | 1 => rk1 op ws
  | 2 => rk2 op ws
  | _ => rk3 op ws
/-- all words but that there may be more of them -/
def opsG (op : Int) (ns : Nat) (ws : List Tx) : Option (In × Bool × Tx × List Tx) :=
  match rkF op ws 3 with
  | none => none
  | some (a, b, c, f, w) => match lstF op (usesF op).2.2.2 ns w with
    | none => none
    | some (m, f4, l, w4) => some (⟨op, a, b, c, m⟩, f || f4, l, w4)
theorem opsF_G (op : Int) (ns : Nat) (ws : List Tx) : opsF op ns ws = match opsG op ns ws with
    | none => none
    | some (i, f, l, w) => if w = [] then some (i, f, l) else none := by
  unfold opsF opsG
  rw [show rkF op ws 3 = rk3 op ws from rfl]
  unfold rk3 rk2 rk1
  cases tkR (usesF op).1 [114] 7 ws with
  | none => rfl
  | some p1 =>
    obtain ⟨a, f1, w1⟩ := p1
    dsimp only
    cases tkR (usesF op).2.1 [114] 7 w1 with
    | none => rfl
    | some p2 =>
      obtain ⟨b, f2, w2⟩ := p2
      dsimp only
      cases tkR (usesF op).2.2.1 [114] 7 w2 with
      | none => rfl
      | some p3 =>
        obtain ⟨c, f3, w3⟩ := p3
        dsimp only
        cases hl : lstF op (usesF op).2.2.2 ns w3 with
        | none => rfl
        | some p4 => rfl
theorem tkF_cons (pre : Tx) (most : Int) (s : Tx) (t : List Tx) : tkF pre most (s :: t) = if (pre.isPrefixOf s && (decF (Lib.trimPrefix s pre)).isSome) = true then some ((decF (Lib.trimPrefix s pre)).getD 0, decide (most < (decF (Lib.trimPrefix s pre)).getD 0), t) else none := by
  unfold tkF Lib.trimPrefix Lib.hasPrefix
  dsimp only
  cases h : pre.isPrefixOf s
  · rfl
  · rw [if_pos rfl, if_pos rfl, Bool.true_and]
    cases decF (s.drop pre.length) <;> rfl
theorem tkF_bd {pre : Tx} {most : Int} {ws : List Tx} {n : Int} {f : Bool} {t : List Tx} (h : tkF pre most ws = some (n, f, t)) : (∃ s, ws = s :: t) ∧ 0 ≤ n ∧ n ≤ 65536 := by
  cases ws with
  | nil => cases h
  | cons s r =>
    unfold tkF at h
    dsimp only at h
    split at h
    · cases hd : decF (s.drop pre.length) with
      | none => rw [hd] at h; cases h
      | some v =>
        rw [hd] at h
        cases h
        exact ⟨⟨s, rfl⟩, decF_le hd⟩
    · cases h
theorem wd_tail {w : World} {B b o c : Nat} {s : Tx} {t : List Tx} (h : Rd w B (some ⟨b, o, none⟩) ((s :: t).map txv)) (hr : (s :: t).length ≤ c) : Rd w B (if c = 1 then some ⟨b, o, none⟩ else some ⟨b, o + 1, none⟩) (t.map txv) := by
  have := h.drop (k := 1) (by rw [List.length_map]; exact Nat.succ_pos _) (c := c) (by rw [List.length_map]; exact hr)
  by_cases e : c = 1
  · rw [if_pos e] at this ⊢; exact this
  · rw [if_neg e] at this ⊢; exact this
theorem wd_tailA {S : Nat → Prop} {b o c : Nat} (h : ¬ S b) : ∀ a : Addr, (if c = 1 then some ⟨b, o, none⟩ else some ⟨b, o + 1, none⟩ : Option Addr) = some a → ¬ S a.block := fun a e => by
  split at e <;> (cases e; exact h)
theorem rk_no1 {op : Int} {ws : List Tx} (h : rkF op ws 0 = none) : rkF op ws 1 = none := by cases h
theorem rk_no2 {op : Int} {ws : List Tx} (h : rkF op ws 1 = none) : rkF op ws 2 = none := by
  have h' : rk1 op ws = none := h
  show rk2 op ws = none
  unfold rk2
  rw [h']
theorem rk_no3 {op : Int} {ws : List Tx} (h : rkF op ws 2 = none) : rkF op ws 3 = none := by
  have h' : rk2 op ws = none := h
  show rk3 op ws = none
  unfold rk3
  rw [h']
theorem rk_st1 {op : Int} {ws w : List Tx} {a1 a2 a3 : Int} {f : Bool} (h : rkF op ws 0 = some (a1, a2, a3, f, w)) : a1 = 0 ∧ a2 = 0 ∧ a3 = 0 ∧ rkF op ws 1 = match tkR (usesF op).1 [114] 7 w with | none => none | some (a, f', w') => some (a, a2, a3, f || f', w') := by
  cases h
  refine ⟨rfl, rfl, rfl, ?_⟩
  show rk1 op ws = _
  unfold rk1
  cases tkR (usesF op).1 [114] 7 ws with
  | none => rfl
  | some p => obtain ⟨a, f, w⟩ := p; dsimp only; rw [Bool.false_or]
theorem rk_st2 {op : Int} {ws w : List Tx} {a1 a2 a3 : Int} {f : Bool} (h : rkF op ws 1 = some (a1, a2, a3, f, w)) : a2 = 0 ∧ a3 = 0 ∧ rkF op ws 2 = match tkR (usesF op).2.1 [114] 7 w with | none => none | some (b, f', w') => some (a1, b, a3, f || f', w') := by
  have h' : rk1 op ws = some (a1, a2, a3, f, w) := h
  have h1 : a2 = 0 ∧ a3 = 0 := by
    unfold rk1 at h'
    cases ht : tkR (usesF op).1 [114] 7 ws with
    | none => rw [ht] at h'; cases h'
    | some p => rw [ht] at h'; cases h'; exact ⟨rfl, rfl⟩
  refine ⟨h1.1, h1.2, ?_⟩
  show rk2 op ws = _
  unfold rk2
  rw [h', h1.2]
theorem rk_st3 {op : Int} {ws w : List Tx} {a1 a2 a3 : Int} {f : Bool} (h : rkF op ws 2 = some (a1, a2, a3, f, w)) : a3 = 0 ∧ rkF op ws 3 = match tkR (usesF op).2.2.1 [114] 7 w with | none => none | some (c, f', w') => some (a1, a2, c, f || f', w') := by
  have h' : rk2 op ws = some (a1, a2, a3, f, w) := h
  have h1 : a3 = 0 := by
    unfold rk2 at h'
    cases hp : rk1 op ws with
    | none => rw [hp] at h'; cases h'
    | some p =>
      obtain ⟨p1, p2, p3, p4, p5⟩ := p
      rw [hp] at h'
      dsimp only at h'
      cases ht : tkR (usesF op).2.1 [114] 7 p5 with
      | none => rw [ht] at h'; cases h'
      | some q => rw [ht] at h'; cases h'; rfl
  refine ⟨h1, ?_⟩
  show rk3 op ws = _
  unfold rk3
  rw [h']
theorem RdX.fin {x y : RdX} {wB w' : World} (h : x.ok wB) (hm : Mm (own x.M) wB y.M w') (eg : y.g = x.g) (em : y.m = x.m) (el : y.line = x.line) (c : Row y.cA y.r.code.length y.cc 5 (y.r.code.flatMap inV) y.ccs) (s : Row y.sA y.r.ss.length y.sc 1 (ints y.r.ss) y.scs) (d : Row y.dA y.ws.length y.dc 1 (y.ws.map WS.v) y.dcs) (j : Row y.jA y.r.js.length y.jc 3 (y.r.js.flatMap jmV) y.jcs) (ew : y.ws = x.ws) (er : y.r.ws = x.r.ws) (ea : y.r.lab = x.r.lab) (sz : y.r.code.length ≤ 64 ∧ y.r.ss.length ≤ 4 ∧ y.ws.length = y.r.ss.length ∧ y.r.js.length ≤ y.r.code.length ∧ y.r.lab.length ≤ 5000) : RdN x wB w' y.r y := by
  obtain ⟨p1, p2, p3, p4, p5⟩ := RdX.after h hm em
  exact ⟨eg, em, el, rfl, ⟨p4, by rw [ea]; exact p3, p2, c, s, d, j, by rw [er, ew]; exact h.ws, fun r hr => p5 r (by rw [← ew]; exact hr), sz⟩, p1⟩
structure InX where
  k : Nat
  ok : Bool
  A : Option Addr
  c : Nat
  ws : List Tx
  a1 : Int
  a2 : Int
  a3 : Int
  f : Bool
set_option maxHeartbeats 32000000 in
theorem inst_c (x : RdX) (op : Int) (A : Option Addr) (c : Nat) (words : List Tx) (wB : World) (h : x.ok wB) (hr : words.length ≤ c) (hrd : Rd wB wB.heap.size A (words.map txv)) (hnA : ∀ a, A = some a → ¬ own x.M a.block) (hlen : ∀ t ∈ words, t.length ≤ 5000) :
    Ret Tryz.prog 69 [.pointer (some ⟨x.g, 0, none⟩), .int .i64 op, .slice A words.length c] wB (fun u w' => ∃ e : Int, u = .int .i64 e ∧ e = (insF x.r op words x.line).2 ∧ Fr (own x.M) wB w' ∧ (e = 0 → ∃ y, RdN x wB w' (insF x.r op words x.line).1 y)) := by
  obtain ⟨z1, z2, z3, z4, z5⟩ := h.sz
  have hm0 : Mm (own x.M) wB [⟨some x.g, 87, [slv x.cA x.r.code.length x.cc, slv x.sA x.r.ss.length x.sc, slv x.dA x.ws.length x.dc, .map (some x.m), slv x.jA x.r.js.length x.jc, .int .i64 (x.line : Int), .bool x.r.last]⟩, ⟨x.cA, 54, x.ccs⟩, ⟨x.sA, 3, x.scs⟩, ⟨x.dA, 56, x.dcs⟩, ⟨x.jA, 90, x.jcs⟩] wB := h.mm
  have hnm := h.nm
  obtain ⟨S0, hS0⟩ : ∃ S0 : Nat → Prop, own x.M = S0 := ⟨_, rfl⟩
  rw [hS0] at hm0 hnA hnm ⊢
  have hfl := fun w => flds_c op w
  have hjm := fun w => jmps_c op w
  obtain ⟨⟨u1, u2, u3, u4⟩, hu⟩ : ∃ u, usesF op = u := ⟨_, rfl⟩
  obtain ⟨jb, hjb⟩ : ∃ b, jumpB op = b := ⟨_, rfl⟩
  rw [hu] at hfl
  rw [hjb] at hjm
  unfold u4V at hfl
  dsimp only at hfl
  refine enterR Tryz.func69 rfl rfl rfl fun a hs hm => ?_
  clear hm
  have hm := hm0
  repeat (first | (refine ovXAss0_ ?_; clear hs a; intro a hs) | ((with_reducible apply lCons); first | (refine dv hs gw_ rfl rfl da_ ?_; clear hs hm a; rintro _ w ⟨g, rfl, -, hm⟩ a hs) | (refine stn hs rfl rfl ds_ ?_; clear hs hm a; rintro - w hm a hs) | (refine dvc hs hm gw_ rfl rfl rfl rfl rfl (pl 58 rfl) (hfl _) ?_; clear hs hm a; intro w hm a hs)) | refine sc_ ?_)
  obtain ⟨g5, en_⟩ := hs.pt 5 (by exact rfl); subst en_
  obtain ⟨g7, en_⟩ := hs.pt 7 (by exact rfl); subst en_
  obtain ⟨g8, en_⟩ := hs.pt 8 (by exact rfl); subst en_
  obtain ⟨g9, en_⟩ := hs.pt 9 (by exact rfl); subst en_
  obtain ⟨g33, en_⟩ := hs.ps 33 (by exact rfl); subst en_
  replace hm := hm.sel (M' := [⟨some g5, 40, [.slice A words.length c]⟩, ⟨some g8, 54, [.int .i64 op, .int .i64 0, .int .i64 0, .int .i64 0, .int .i64 0]⟩, ⟨some g9, 4, [.bool false]⟩, ⟨some g7, 101, [.bool u1, .bool u2, .bool u3, .bool u4]⟩, ⟨some g33, 136, [.bool u1, .pointer (some ⟨g8, 1, none⟩), .bool u2, .pointer (some ⟨g8, 2, none⟩), .bool u3, .pointer (some ⟨g8, 3, none⟩)]⟩, ⟨some x.g, 87, [slv x.cA x.r.code.length x.cc, slv x.sA x.r.ss.length x.sc, slv x.dA x.ws.length x.dc, .map (some x.m), slv x.jA x.r.js.length x.jc, .int .i64 (x.line : Int), .bool x.r.last]⟩, ⟨x.cA, 54, x.ccs⟩, ⟨x.sA, 3, x.scs⟩, ⟨x.dA, 56, x.dcs⟩, ⟨x.jA, 90, x.jcs⟩]) [4, 2, 1, 3, 0, 5, 6, 7, 8, 9] (by decide) rfl
  refine cLoop (X := InX) (fun X a w' => Sl Tryz.f69.ntmps [(0, .pointer (some ⟨x.g, 0, none⟩)), (1, .int .i64 op), (5, .pointer (some ⟨g5, 0, none⟩)), (7, .pointer (some ⟨g7, 0, none⟩)), (8, .pointer (some ⟨g8, 0, none⟩)), (9, .pointer (some ⟨g9, 0, none⟩)), (10, .func (.func 85) #[] #[.pointer (some ⟨g5, 0, none⟩), .pointer (some ⟨g9, 0, none⟩)]), (11, .bool X.ok), (33, .slice (some ⟨g33, 0, none⟩) 3 3), (34, .int .i64 3), (35, .int .i64 (X.k : Int))] a ∧ X.k ≤ 3 ∧ Pu wB wB ∧ (X.ok = true → rkF op words X.k = some (X.a1, X.a2, X.a3, X.f, X.ws) ∧ Rd wB wB.heap.size X.A (X.ws.map txv) ∧ X.ws.length ≤ X.c ∧ (∀ a, X.A = some a → ¬ S0 a.block) ∧ (∀ t ∈ X.ws, t.length ≤ 5000) ∧ Mm S0 wB [⟨some g5, 40, [.slice X.A X.ws.length X.c]⟩, ⟨some g8, 54, [.int .i64 op, .int .i64 X.a1, .int .i64 X.a2, .int .i64 X.a3, .int .i64 0]⟩, ⟨some g9, 4, [.bool X.f]⟩, ⟨some g7, 101, [.bool u1, .bool u2, .bool u3, .bool u4]⟩, ⟨some g33, 136, [.bool u1, .pointer (some ⟨g8, 1, none⟩), .bool u2, .pointer (some ⟨g8, 2, none⟩), .bool u3, .pointer (some ⟨g8, 3, none⟩)]⟩, ⟨some x.g, 87, [slv x.cA x.r.code.length x.cc, slv x.sA x.r.ss.length x.sc, slv x.dA x.ws.length x.dc, .map (some x.m), slv x.jA x.r.js.length x.jc, .int .i64 (x.line : Int), .bool x.r.last]⟩, ⟨x.cA, 54, x.ccs⟩, ⟨x.sA, 3, x.scs⟩, ⟨x.dA, 56, x.dcs⟩, ⟨x.jA, 90, x.jcs⟩] w') ∧ (X.ok = false → rkF op words X.k = none ∧ ∃ (v1 v3 : Value) (ics : List Value), Mm S0 wB [⟨some g5, 40, [v1]⟩, ⟨some g8, 54, ics⟩, ⟨some g9, 4, [v3]⟩, ⟨some g7, 101, [.bool u1, .bool u2, .bool u3, .bool u4]⟩, ⟨some g33, 136, [.bool u1, .pointer (some ⟨g8, 1, none⟩), .bool u2, .pointer (some ⟨g8, 2, none⟩), .bool u3, .pointer (some ⟨g8, 3, none⟩)]⟩, ⟨some x.g, 87, [slv x.cA x.r.code.length x.cc, slv x.sA x.r.ss.length x.sc, slv x.dA x.ws.length x.dc, .map (some x.m), slv x.jA x.r.js.length x.jc, .int .i64 (x.line : Int), .bool x.r.last]⟩, ⟨x.cA, 54, x.ccs⟩, ⟨x.sA, 3, x.scs⟩, ⟨x.dA, 56, x.dcs⟩, ⟨x.jA, 90, x.jcs⟩] w')) (fun X => 3 - X.k) ⟨0, true, A, c, words, 0, 0, 0, false⟩ ⟨hs.sub (Has.all ⟨rfl, rfl, rfl, rfl, rfl, rfl, rfl, rfl, rfl, rfl, rfl, trivial⟩), Nat.zero_le _, Fr.refl _ _, fun _ => ⟨rfl, hrd, hr, hnA, hlen, hm⟩, (fun e => by cases e)⟩ ?_
  clear hs hm hm0 a
  rintro ⟨k, ok, bA, bc, bs, a1, a2, a3, f⟩ a w' ⟨hs, hk, -, hok, hno⟩
  dsimp only at hs hk hok hno
  rcases (by omega : k = 0 ∨ k = 1 ∨ k = 2 ∨ k = 3) with rfl | rfl | rfl | rfl
  · cases ok
    · obtain ⟨hrk, v1, v3, ics, hm⟩ := hno rfl
      repeat (first | (refine ovXAss0_ ?_; clear hs a; intro a hs) | ((with_reducible apply lCons); first | (refine dv hs gw_ rfl rfl da_ ?_; clear hs hm a; rintro _ w ⟨g, rfl, -, hm⟩ a hs) | (refine stn hs rfl rfl ds_ ?_; clear hs hm a; rintro - w hm a hs)) | refine sc_ ?_)
      exact ⟨⟨1, false, none, 0, [], 0, 0, 0, false⟩, by dsimp only; omega, hs.sub (Has.all ⟨rfl, rfl, rfl, rfl, rfl, rfl, rfl, rfl, rfl, rfl, rfl, trivial⟩), by dsimp only; omega, Fr.refl _ _, (fun e => by cases e), fun _ => ⟨rk_no1 hrk, v1, v3, ics, hm.sub sub_⟩⟩
    · obtain ⟨hrk, hbr, hbl, hbn, hbs, hm⟩ := hok rfl
      clear hok hno
      obtain ⟨z1_, z2_, z3_, hst⟩ := rk_st1 hrk
      rw [hu] at hst
      unfold tkR at hst
      dsimp only at hst
      cases u1
      · rw [if_neg (by decide)] at hst
        dsimp only at hst
        repeat (first | (refine ovXAss0_ ?_; clear hs a; intro a hs) | ((with_reducible apply lCons); first | (refine dv hs gw_ rfl rfl da_ ?_; clear hs hm a; rintro _ w ⟨g, rfl, -, hm⟩ a hs) | (refine stn hs rfl rfl ds_ ?_; clear hs hm a; rintro - w hm a hs)) | refine sc_ ?_)
        exact ⟨⟨1, true, bA, bc, bs, a1, a2, a3, f⟩, by dsimp only; omega, hs.sub (Has.all ⟨rfl, rfl, rfl, rfl, rfl, rfl, rfl, rfl, rfl, rfl, rfl, trivial⟩), by dsimp only; omega, Fr.refl _ _, fun _ => ⟨by dsimp only; rw [hst, Bool.or_false]; rw [z1_], hbr, hbl, hbn, hbs, hm.sub sub_⟩, (fun e => by cases e)⟩
      · rw [if_pos rfl] at hst
        repeat (first | (refine ovXAss0_ ?_; clear hs a; intro a hs) | ((with_reducible apply lCons); first | (refine dv hs gw_ rfl rfl da_ ?_; clear hs hm a; rintro _ w ⟨g, rfl, -, hm⟩ a hs) | (refine stn hs rfl rfl ds_ ?_; clear hs hm a; rintro - w hm a hs)) | refine sc_ ?_)
        obtain ⟨g13, en_⟩ := hs.pt 13 (by exact rfl); subst en_
        replace hm := hm.sel (M' := [⟨some g5, 40, [.slice bA bs.length bc]⟩, ⟨some g8, 54, [.int .i64 op, .int .i64 a1, .int .i64 a2, .int .i64 a3, .int .i64 0]⟩, ⟨some g9, 4, [.bool f]⟩, ⟨some g13, 136, [.bool true, .pointer (some ⟨g8, 1, none⟩)]⟩, ⟨some g7, 101, [.bool true, .bool u2, .bool u3, .bool u4]⟩, ⟨some g33, 136, [.bool true, .pointer (some ⟨g8, 1, none⟩), .bool u2, .pointer (some ⟨g8, 2, none⟩), .bool u3, .pointer (some ⟨g8, 3, none⟩)]⟩, ⟨some x.g, 87, [slv x.cA x.r.code.length x.cc, slv x.sA x.r.ss.length x.sc, slv x.dA x.ws.length x.dc, .map (some x.m), slv x.jA x.r.js.length x.jc, .int .i64 (x.line : Int), .bool x.r.last]⟩, ⟨x.cA, 54, x.ccs⟩, ⟨x.sA, 3, x.scs⟩, ⟨x.dA, 56, x.dcs⟩, ⟨x.jA, 90, x.jcs⟩]) [1, 2, 3, 0, 4, 5, 6, 7, 8, 9, 10] (by decide) rfl
        cases bs with
        | nil =>
          refine dv hs gw_ rfl rfl (d_callC hs rfl rfl rfl (pl 85 rfl) (tk_nil g5 g8 g9 1 bA bc [.int .i64 op, .int .i64 a1, .int .i64 a2, .int .i64 a3, .int .i64 0] f [114] 7 _ hm)) ?_
          clear hs hm
          rintro _ w1 ⟨rfl, hm⟩ a hs
          repeat (first | (refine ovXAss0_ ?_; clear hs a; intro a hs) | ((with_reducible apply lCons); first | (refine dv hs gw_ rfl rfl da_ ?_; clear hs hm a; rintro _ w ⟨g, rfl, -, hm⟩ a hs) | (refine stn hs rfl rfl ds_ ?_; clear hs hm a; rintro - w hm a hs)) | refine sc_ ?_)
          have hst2 : rkF op words 1 = none := hst
          exact ⟨⟨1, false, none, 0, [], 0, 0, 0, false⟩, by dsimp only; omega, hs.sub (Has.all ⟨rfl, rfl, rfl, rfl, rfl, rfl, rfl, rfl, rfl, rfl, rfl, trivial⟩), by dsimp only; omega, Fr.refl _ _, (fun e => by cases e), fun _ => ⟨hst2, _, _, _, hm.sub sub_⟩⟩
        | cons s t =>
          obtain ⟨b1, o1, rfl, hb1, r1⟩ := hbr.ro (by rw [List.length_map]; exact Nat.succ_pos _)
          have hnb := hbn _ rfl
          refine dv hs gw_ rfl rfl (d_callC hs rfl rfl rfl (pl 85 rfl) (tk_cons g5 g8 g9 1 b1 o1 bc s t [.int .i64 op, .int .i64 a1, .int .i64 a2, .int .i64 a3, .int .i64 0] f [114] 7 _ hm r1 hnb (hbs s (List.mem_cons_self ..)) rfl (by omega))) ?_
          clear hs hm
          rintro _ w1 ⟨rfl, hm⟩ a hs
          rw [tkF_cons] at hst
          obtain ⟨n, hn_⟩ : ∃ z, (decF (Lib.trimPrefix s [114])).getD 0 = z := ⟨_, rfl⟩
          obtain ⟨q, hq⟩ : ∃ z, (List.isPrefixOf [114] s && (decF (Lib.trimPrefix s [114])).isSome) = z := ⟨_, rfl⟩
          rw [hn_] at hm hst
          rw [hq] at hs hst
          clear hn_ hq
          cases q
          · rw [if_neg (by decide)] at hst
            repeat (first | (refine ovXAss0_ ?_; clear hs a; intro a hs) | ((with_reducible apply lCons); first | (refine dv hs gw_ rfl rfl da_ ?_; clear hs hm a; rintro _ w ⟨g, rfl, -, hm⟩ a hs) | (refine stn hs rfl rfl ds_ ?_; clear hs hm a; rintro - w hm a hs)) | refine sc_ ?_)
            exact ⟨⟨1, false, none, 0, [], 0, 0, 0, false⟩, by dsimp only; omega, hs.sub (Has.all ⟨rfl, rfl, rfl, rfl, rfl, rfl, rfl, rfl, rfl, rfl, rfl, trivial⟩), by dsimp only; omega, Fr.refl _ _, (fun e => by cases e), fun _ => ⟨hst, _, _, _, hm.sub sub_⟩⟩
          · rw [if_pos rfl] at hst
            dsimp only at hst
            repeat (first | (refine ovXAss0_ ?_; clear hs a; intro a hs) | ((with_reducible apply lCons); first | (refine dv hs gw_ rfl rfl da_ ?_; clear hs hm a; rintro _ w ⟨g, rfl, -, hm⟩ a hs) | (refine stn hs rfl rfl ds_ ?_; clear hs hm a; rintro - w hm a hs)) | refine sc_ ?_)
            exact ⟨⟨1, true, (if bc = 1 then some ⟨b1, o1, none⟩ else some ⟨b1, o1 + 1, none⟩), bc - 1, t, n, a2, a3, f || decide (7 < n)⟩, by dsimp only; omega, hs.sub (Has.all ⟨rfl, rfl, rfl, rfl, rfl, rfl, rfl, rfl, rfl, rfl, rfl, trivial⟩), by dsimp only; omega, Fr.refl _ _, fun _ => ⟨hst, wd_tail hbr hbl, by dsimp only; rw [List.length_cons] at hbl; omega, wd_tailA hnb, fun t ht => hbs t (List.mem_cons_of_mem _ ht), hm.sub sub_⟩, (fun e => by cases e)⟩
  · cases ok
    · obtain ⟨hrk, v1, v3, ics, hm⟩ := hno rfl
      repeat (first | (refine ovXAss0_ ?_; clear hs a; intro a hs) | ((with_reducible apply lCons); first | (refine dv hs gw_ rfl rfl da_ ?_; clear hs hm a; rintro _ w ⟨g, rfl, -, hm⟩ a hs) | (refine stn hs rfl rfl ds_ ?_; clear hs hm a; rintro - w hm a hs)) | refine sc_ ?_)
      exact ⟨⟨2, false, none, 0, [], 0, 0, 0, false⟩, by dsimp only; omega, hs.sub (Has.all ⟨rfl, rfl, rfl, rfl, rfl, rfl, rfl, rfl, rfl, rfl, rfl, trivial⟩), by dsimp only; omega, Fr.refl _ _, (fun e => by cases e), fun _ => ⟨rk_no2 hrk, v1, v3, ics, hm.sub sub_⟩⟩
    · obtain ⟨hrk, hbr, hbl, hbn, hbs, hm⟩ := hok rfl
      clear hok hno
      obtain ⟨z2_, z3_, hst⟩ := rk_st2 hrk
      rw [hu] at hst
      unfold tkR at hst
      dsimp only at hst
      cases u2
      · rw [if_neg (by decide)] at hst
        dsimp only at hst
        repeat (first | (refine ovXAss0_ ?_; clear hs a; intro a hs) | ((with_reducible apply lCons); first | (refine dv hs gw_ rfl rfl da_ ?_; clear hs hm a; rintro _ w ⟨g, rfl, -, hm⟩ a hs) | (refine stn hs rfl rfl ds_ ?_; clear hs hm a; rintro - w hm a hs)) | refine sc_ ?_)
        exact ⟨⟨2, true, bA, bc, bs, a1, a2, a3, f⟩, by dsimp only; omega, hs.sub (Has.all ⟨rfl, rfl, rfl, rfl, rfl, rfl, rfl, rfl, rfl, rfl, rfl, trivial⟩), by dsimp only; omega, Fr.refl _ _, fun _ => ⟨by dsimp only; rw [hst, Bool.or_false]; rw [z2_], hbr, hbl, hbn, hbs, hm.sub sub_⟩, (fun e => by cases e)⟩
      · rw [if_pos rfl] at hst
        repeat (first | (refine ovXAss0_ ?_; clear hs a; intro a hs) | ((with_reducible apply lCons); first | (refine dv hs gw_ rfl rfl da_ ?_; clear hs hm a; rintro _ w ⟨g, rfl, -, hm⟩ a hs) | (refine stn hs rfl rfl ds_ ?_; clear hs hm a; rintro - w hm a hs)) | refine sc_ ?_)
        obtain ⟨g13, en_⟩ := hs.pt 13 (by exact rfl); subst en_
        replace hm := hm.sel (M' := [⟨some g5, 40, [.slice bA bs.length bc]⟩, ⟨some g8, 54, [.int .i64 op, .int .i64 a1, .int .i64 a2, .int .i64 a3, .int .i64 0]⟩, ⟨some g9, 4, [.bool f]⟩, ⟨some g13, 136, [.bool true, .pointer (some ⟨g8, 2, none⟩)]⟩, ⟨some g7, 101, [.bool u1, .bool true, .bool u3, .bool u4]⟩, ⟨some g33, 136, [.bool u1, .pointer (some ⟨g8, 1, none⟩), .bool true, .pointer (some ⟨g8, 2, none⟩), .bool u3, .pointer (some ⟨g8, 3, none⟩)]⟩, ⟨some x.g, 87, [slv x.cA x.r.code.length x.cc, slv x.sA x.r.ss.length x.sc, slv x.dA x.ws.length x.dc, .map (some x.m), slv x.jA x.r.js.length x.jc, .int .i64 (x.line : Int), .bool x.r.last]⟩, ⟨x.cA, 54, x.ccs⟩, ⟨x.sA, 3, x.scs⟩, ⟨x.dA, 56, x.dcs⟩, ⟨x.jA, 90, x.jcs⟩]) [1, 2, 3, 0, 4, 5, 6, 7, 8, 9, 10] (by decide) rfl
        cases bs with
        | nil =>
          refine dv hs gw_ rfl rfl (d_callC hs rfl rfl rfl (pl 85 rfl) (tk_nil g5 g8 g9 2 bA bc [.int .i64 op, .int .i64 a1, .int .i64 a2, .int .i64 a3, .int .i64 0] f [114] 7 _ hm)) ?_
          clear hs hm
          rintro _ w1 ⟨rfl, hm⟩ a hs
          repeat (first | (refine ovXAss0_ ?_; clear hs a; intro a hs) | ((with_reducible apply lCons); first | (refine dv hs gw_ rfl rfl da_ ?_; clear hs hm a; rintro _ w ⟨g, rfl, -, hm⟩ a hs) | (refine stn hs rfl rfl ds_ ?_; clear hs hm a; rintro - w hm a hs)) | refine sc_ ?_)
          have hst2 : rkF op words 2 = none := hst
          exact ⟨⟨2, false, none, 0, [], 0, 0, 0, false⟩, by dsimp only; omega, hs.sub (Has.all ⟨rfl, rfl, rfl, rfl, rfl, rfl, rfl, rfl, rfl, rfl, rfl, trivial⟩), by dsimp only; omega, Fr.refl _ _, (fun e => by cases e), fun _ => ⟨hst2, _, _, _, hm.sub sub_⟩⟩
        | cons s t =>
          obtain ⟨b1, o1, rfl, hb1, r1⟩ := hbr.ro (by rw [List.length_map]; exact Nat.succ_pos _)
          have hnb := hbn _ rfl
          refine dv hs gw_ rfl rfl (d_callC hs rfl rfl rfl (pl 85 rfl) (tk_cons g5 g8 g9 2 b1 o1 bc s t [.int .i64 op, .int .i64 a1, .int .i64 a2, .int .i64 a3, .int .i64 0] f [114] 7 _ hm r1 hnb (hbs s (List.mem_cons_self ..)) rfl (by omega))) ?_
          clear hs hm
          rintro _ w1 ⟨rfl, hm⟩ a hs
          rw [tkF_cons] at hst
          obtain ⟨n, hn_⟩ : ∃ z, (decF (Lib.trimPrefix s [114])).getD 0 = z := ⟨_, rfl⟩
          obtain ⟨q, hq⟩ : ∃ z, (List.isPrefixOf [114] s && (decF (Lib.trimPrefix s [114])).isSome) = z := ⟨_, rfl⟩
          rw [hn_] at hm hst
          rw [hq] at hs hst
          clear hn_ hq
          cases q
          · rw [if_neg (by decide)] at hst
            repeat (first | (refine ovXAss0_ ?_; clear hs a; intro a hs) | ((with_reducible apply lCons); first | (refine dv hs gw_ rfl rfl da_ ?_; clear hs hm a; rintro _ w ⟨g, rfl, -, hm⟩ a hs) | (refine stn hs rfl rfl ds_ ?_; clear hs hm a; rintro - w hm a hs)) | refine sc_ ?_)
            exact ⟨⟨2, false, none, 0, [], 0, 0, 0, false⟩, by dsimp only; omega, hs.sub (Has.all ⟨rfl, rfl, rfl, rfl, rfl, rfl, rfl, rfl, rfl, rfl, rfl, trivial⟩), by dsimp only; omega, Fr.refl _ _, (fun e => by cases e), fun _ => ⟨hst, _, _, _, hm.sub sub_⟩⟩
          · rw [if_pos rfl] at hst
            dsimp only at hst
            repeat (first | (refine ovXAss0_ ?_; clear hs a; intro a hs) | ((with_reducible apply lCons); first | (refine dv hs gw_ rfl rfl da_ ?_; clear hs hm a; rintro _ w ⟨g, rfl, -, hm⟩ a hs) | (refine stn hs rfl rfl ds_ ?_; clear hs hm a; rintro - w hm a hs)) | refine sc_ ?_)
            exact ⟨⟨2, true, (if bc = 1 then some ⟨b1, o1, none⟩ else some ⟨b1, o1 + 1, none⟩), bc - 1, t, a1, n, a3, f || decide (7 < n)⟩, by dsimp only; omega, hs.sub (Has.all ⟨rfl, rfl, rfl, rfl, rfl, rfl, rfl, rfl, rfl, rfl, rfl, trivial⟩), by dsimp only; omega, Fr.refl _ _, fun _ => ⟨hst, wd_tail hbr hbl, by dsimp only; rw [List.length_cons] at hbl; omega, wd_tailA hnb, fun t ht => hbs t (List.mem_cons_of_mem _ ht), hm.sub sub_⟩, (fun e => by cases e)⟩
  · cases ok
    · obtain ⟨hrk, v1, v3, ics, hm⟩ := hno rfl
      repeat (first | (refine ovXAss0_ ?_; clear hs a; intro a hs) | ((with_reducible apply lCons); first | (refine dv hs gw_ rfl rfl da_ ?_; clear hs hm a; rintro _ w ⟨g, rfl, -, hm⟩ a hs) | (refine stn hs rfl rfl ds_ ?_; clear hs hm a; rintro - w hm a hs)) | refine sc_ ?_)
      exact ⟨⟨3, false, none, 0, [], 0, 0, 0, false⟩, by dsimp only; omega, hs.sub (Has.all ⟨rfl, rfl, rfl, rfl, rfl, rfl, rfl, rfl, rfl, rfl, rfl, trivial⟩), by dsimp only; omega, Fr.refl _ _, (fun e => by cases e), fun _ => ⟨rk_no3 hrk, v1, v3, ics, hm.sub sub_⟩⟩
    · obtain ⟨hrk, hbr, hbl, hbn, hbs, hm⟩ := hok rfl
      clear hok hno
      obtain ⟨z3_, hst⟩ := rk_st3 hrk
      rw [hu] at hst
      unfold tkR at hst
      dsimp only at hst
      cases u3
      · rw [if_neg (by decide)] at hst
        dsimp only at hst
        repeat (first | (refine ovXAss0_ ?_; clear hs a; intro a hs) | ((with_reducible apply lCons); first | (refine dv hs gw_ rfl rfl da_ ?_; clear hs hm a; rintro _ w ⟨g, rfl, -, hm⟩ a hs) | (refine stn hs rfl rfl ds_ ?_; clear hs hm a; rintro - w hm a hs)) | refine sc_ ?_)
        exact ⟨⟨3, true, bA, bc, bs, a1, a2, a3, f⟩, by dsimp only; omega, hs.sub (Has.all ⟨rfl, rfl, rfl, rfl, rfl, rfl, rfl, rfl, rfl, rfl, rfl, trivial⟩), by dsimp only; omega, Fr.refl _ _, fun _ => ⟨by dsimp only; rw [hst, Bool.or_false]; rw [z3_], hbr, hbl, hbn, hbs, hm.sub sub_⟩, (fun e => by cases e)⟩
      · rw [if_pos rfl] at hst
        repeat (first | (refine ovXAss0_ ?_; clear hs a; intro a hs) | ((with_reducible apply lCons); first | (refine dv hs gw_ rfl rfl da_ ?_; clear hs hm a; rintro _ w ⟨g, rfl, -, hm⟩ a hs) | (refine stn hs rfl rfl ds_ ?_; clear hs hm a; rintro - w hm a hs)) | refine sc_ ?_)
        obtain ⟨g13, en_⟩ := hs.pt 13 (by exact rfl); subst en_
        replace hm := hm.sel (M' := [⟨some g5, 40, [.slice bA bs.length bc]⟩, ⟨some g8, 54, [.int .i64 op, .int .i64 a1, .int .i64 a2, .int .i64 a3, .int .i64 0]⟩, ⟨some g9, 4, [.bool f]⟩, ⟨some g13, 136, [.bool true, .pointer (some ⟨g8, 3, none⟩)]⟩, ⟨some g7, 101, [.bool u1, .bool u2, .bool true, .bool u4]⟩, ⟨some g33, 136, [.bool u1, .pointer (some ⟨g8, 1, none⟩), .bool u2, .pointer (some ⟨g8, 2, none⟩), .bool true, .pointer (some ⟨g8, 3, none⟩)]⟩, ⟨some x.g, 87, [slv x.cA x.r.code.length x.cc, slv x.sA x.r.ss.length x.sc, slv x.dA x.ws.length x.dc, .map (some x.m), slv x.jA x.r.js.length x.jc, .int .i64 (x.line : Int), .bool x.r.last]⟩, ⟨x.cA, 54, x.ccs⟩, ⟨x.sA, 3, x.scs⟩, ⟨x.dA, 56, x.dcs⟩, ⟨x.jA, 90, x.jcs⟩]) [1, 2, 3, 0, 4, 5, 6, 7, 8, 9, 10] (by decide) rfl
        cases bs with
        | nil =>
          refine dv hs gw_ rfl rfl (d_callC hs rfl rfl rfl (pl 85 rfl) (tk_nil g5 g8 g9 3 bA bc [.int .i64 op, .int .i64 a1, .int .i64 a2, .int .i64 a3, .int .i64 0] f [114] 7 _ hm)) ?_
          clear hs hm
          rintro _ w1 ⟨rfl, hm⟩ a hs
          repeat (first | (refine ovXAss0_ ?_; clear hs a; intro a hs) | ((with_reducible apply lCons); first | (refine dv hs gw_ rfl rfl da_ ?_; clear hs hm a; rintro _ w ⟨g, rfl, -, hm⟩ a hs) | (refine stn hs rfl rfl ds_ ?_; clear hs hm a; rintro - w hm a hs)) | refine sc_ ?_)
          have hst2 : rkF op words 3 = none := hst
          exact ⟨⟨3, false, none, 0, [], 0, 0, 0, false⟩, by dsimp only; omega, hs.sub (Has.all ⟨rfl, rfl, rfl, rfl, rfl, rfl, rfl, rfl, rfl, rfl, rfl, trivial⟩), by dsimp only; omega, Fr.refl _ _, (fun e => by cases e), fun _ => ⟨hst2, _, _, _, hm.sub sub_⟩⟩
        | cons s t =>
          obtain ⟨b1, o1, rfl, hb1, r1⟩ := hbr.ro (by rw [List.length_map]; exact Nat.succ_pos _)
          have hnb := hbn _ rfl
          refine dv hs gw_ rfl rfl (d_callC hs rfl rfl rfl (pl 85 rfl) (tk_cons g5 g8 g9 3 b1 o1 bc s t [.int .i64 op, .int .i64 a1, .int .i64 a2, .int .i64 a3, .int .i64 0] f [114] 7 _ hm r1 hnb (hbs s (List.mem_cons_self ..)) rfl (by omega))) ?_
          clear hs hm
          rintro _ w1 ⟨rfl, hm⟩ a hs
          rw [tkF_cons] at hst
          obtain ⟨n, hn_⟩ : ∃ z, (decF (Lib.trimPrefix s [114])).getD 0 = z := ⟨_, rfl⟩
          obtain ⟨q, hq⟩ : ∃ z, (List.isPrefixOf [114] s && (decF (Lib.trimPrefix s [114])).isSome) = z := ⟨_, rfl⟩
          rw [hn_] at hm hst
          rw [hq] at hs hst
          clear hn_ hq
          cases q
          · rw [if_neg (by decide)] at hst
            repeat (first | (refine ovXAss0_ ?_; clear hs a; intro a hs) | ((with_reducible apply lCons); first | (refine dv hs gw_ rfl rfl da_ ?_; clear hs hm a; rintro _ w ⟨g, rfl, -, hm⟩ a hs) | (refine stn hs rfl rfl ds_ ?_; clear hs hm a; rintro - w hm a hs)) | refine sc_ ?_)
            exact ⟨⟨3, false, none, 0, [], 0, 0, 0, false⟩, by dsimp only; omega, hs.sub (Has.all ⟨rfl, rfl, rfl, rfl, rfl, rfl, rfl, rfl, rfl, rfl, rfl, trivial⟩), by dsimp only; omega, Fr.refl _ _, (fun e => by cases e), fun _ => ⟨hst, _, _, _, hm.sub sub_⟩⟩
          · rw [if_pos rfl] at hst
            dsimp only at hst
            repeat (first | (refine ovXAss0_ ?_; clear hs a; intro a hs) | ((with_reducible apply lCons); first | (refine dv hs gw_ rfl rfl da_ ?_; clear hs hm a; rintro _ w ⟨g, rfl, -, hm⟩ a hs) | (refine stn hs rfl rfl ds_ ?_; clear hs hm a; rintro - w hm a hs)) | refine sc_ ?_)
            exact ⟨⟨3, true, (if bc = 1 then some ⟨b1, o1, none⟩ else some ⟨b1, o1 + 1, none⟩), bc - 1, t, a1, a2, n, f || decide (7 < n)⟩, by dsimp only; omega, hs.sub (Has.all ⟨rfl, rfl, rfl, rfl, rfl, rfl, rfl, rfl, rfl, rfl, rfl, trivial⟩), by dsimp only; omega, Fr.refl _ _, fun _ => ⟨hst, wd_tail hbr hbl, by dsimp only; rw [List.length_cons] at hbl; omega, wd_tailA hnb, fun t ht => hbs t (List.mem_cons_of_mem _ ht), hm.sub sub_⟩, (fun e => by cases e)⟩
  cases ok
  · obtain ⟨hrk, v1, v3, ics, hm⟩ := hno rfl
    clear hok hno
    have hF : (insF x.r op words x.line).2 = 2 := by
      unfold insF
      rw [opsF_G]
      unfold opsG
      rw [hrk]
    repeat (first | (refine ovXAss0_ ?_; clear hs a; intro a hs) | ((with_reducible apply lCons); first | (refine dv hs gw_ rfl rfl da_ ?_; clear hs hm a; rintro _ w ⟨g, rfl, -, hm⟩ a hs) | (refine stn hs rfl rfl ds_ ?_; clear hs hm a; rintro - w hm a hs)) | refine sc_ ?_)
    refine cMid (fun a w => ∃ g14 : Nat, Sl Tryz.f69.ntmps [(0, .pointer (some ⟨x.g, 0, none⟩)), (1, .int .i64 op), (5, .pointer (some ⟨g5, 0, none⟩)), (7, .pointer (some ⟨g7, 0, none⟩)), (8, .pointer (some ⟨g8, 0, none⟩)), (9, .pointer (some ⟨g9, 0, none⟩)), (10, .func (.func 85) #[] #[.pointer (some ⟨g5, 0, none⟩), .pointer (some ⟨g9, 0, none⟩)]), (11, .bool false), (14, .pointer (some ⟨g14, 0, none⟩))] a ∧ Mm S0 wB [⟨some g5, 40, [v1]⟩, ⟨some g8, 54, ics⟩, ⟨some g9, 4, [v3]⟩, ⟨some g14, 90, [.int .i64 (x.r.code.length : Int), .int .i64 (x.line : Int), txv []]⟩, ⟨some g7, 101, [.bool u1, .bool u2, .bool u3, .bool u4]⟩, ⟨some x.g, 87, [slv x.cA x.r.code.length x.cc, slv x.sA x.r.ss.length x.sc, slv x.dA x.ws.length x.dc, .map (some x.m), slv x.jA x.r.js.length x.jc, .int .i64 (x.line : Int), .bool x.r.last]⟩, ⟨x.cA, 54, x.ccs⟩, ⟨x.sA, 3, x.scs⟩, ⟨x.dA, 56, x.dcs⟩, ⟨x.jA, 90, x.jcs⟩] w) ?_ ?_
    · skip
      refine cDraw (n := 13) [⟨some x.g, 87, [slv x.cA x.r.code.length x.cc, slv x.sA x.r.ss.length x.sc, slv x.dA x.ws.length x.dc, .map (some x.m), slv x.jA x.r.js.length x.jc, .int .i64 (x.line : Int), .bool x.r.last]⟩] hm rfl rfl ?_
      clear hm
      intro w2 hm
      refine hV_ 0 ?_; clear hs a; intro a hs
      refine hV_ 1 ?_; clear hs a; intro a hs
      refine hV_ 2 ?_; clear hs a; intro a hs
      refine hV_ 3 ?_; clear hs a; intro a hs
      refine hTake 4 hs rfl (by kernel_rfl) (Wnt.none rfl) rfl rfl (by intro w hm; replace hm : Mm _ _ _ w := hm; exact kl_) (hm.sub sub_) ?_; clear hs a; intro a hs
      refine hTake 5 hs rfl (by kernel_rfl) (Wnt.none rfl) rfl rfl (by intro w hm; replace hm : Mm _ _ _ w := hm; (first | exact r_val hs tab rfl | exact r_bi hs rfl | exact r_pick hs rfl rfl rfl rfl)) (hm.sub sub_) ?_; clear hs a; intro a hs
      refine hV_ 6 ?_; clear hs a; intro a hs
      refine hV_ 7 ?_; clear hs a; intro a hs
      refine hV_ 8 ?_; clear hs a; intro a hs
      refine hTake 9 hs rfl (by kernel_rfl) (Wnt.none rfl) rfl rfl (by intro w hm; replace hm : Mm _ _ _ w := hm; exact kl_) (hm.sub sub_) ?_; clear hs a; intro a hs
      refine hV_ 10 ?_; clear hs a; intro a hs
      refine hEach [11] (by kernel_rfl) (eDo hs rfl (Wnt.none rfl) rfl rfl (by exact d_alloc rfl tab rfl rfl hm) ?_ eNil)
      clear hs hm a
      rintro _ w31 ⟨g14, rfl, -, hm⟩ a hs
      refine ⟨hm.sub sub_, ?_⟩
      refine hEach [12] (by kernel_rfl) (eDoN hs rfl (Wnt.none rfl) rfl ds_ ?_ eNil)
      clear hs hm
      rintro - w32 hm a hs
      refine ⟨hm.sub sub_, ?_⟩
      refine hDone (by kernel_rfl) ?_
      obtain ⟨g14, en_⟩ := hs.pt 14 (by exact rfl); subst en_
      exact And.intro rfl ⟨g14, hs.sub (Has.all ⟨rfl, rfl, rfl, rfl, rfl, rfl, rfl, rfl, rfl, trivial⟩), hm.sel [1, 2, 3, 0, 4, 6, 7, 8, 9, 10] (by decide) rfl⟩
    clear hs hm a
    rintro a w ⟨g14, hs, hm⟩
    repeat (first | (refine ovXAss0_ ?_; clear hs a; intro a hs) | ((with_reducible apply lCons); first | (refine dv hs gw_ rfl rfl da_ ?_; clear hs hm a; rintro _ w ⟨g, rfl, -, hm⟩ a hs) | (refine stn hs rfl rfl ds_ ?_; clear hs hm a; rintro - w hm a hs)) | refine sc_ ?_)
    exact gRet1 hs rfl rfl ⟨_, rfl, hF.symm, hm.fr, (fun e => by cases e)⟩
  · obtain ⟨hrk, hbr, hbl, hbn, hbs, hm⟩ := hok rfl
    clear hok hno
    repeat (first | (refine ovXAss0_ ?_; clear hs a; intro a hs) | ((with_reducible apply lCons); first | (refine dv hs gw_ rfl rfl da_ ?_; clear hs hm a; rintro _ w ⟨g, rfl, -, hm⟩ a hs) | (refine stn hs rfl rfl ds_ ?_; clear hs hm a; rintro - w hm a hs)) | refine sc_ ?_)
    refine cMid (fun a w => ∃ g14 : Nat, Sl Tryz.f69.ntmps [(0, .pointer (some ⟨x.g, 0, none⟩)), (1, .int .i64 op), (5, .pointer (some ⟨g5, 0, none⟩)), (7, .pointer (some ⟨g7, 0, none⟩)), (8, .pointer (some ⟨g8, 0, none⟩)), (9, .pointer (some ⟨g9, 0, none⟩)), (10, .func (.func 85) #[] #[.pointer (some ⟨g5, 0, none⟩), .pointer (some ⟨g9, 0, none⟩)]), (11, .bool true), (14, .pointer (some ⟨g14, 0, none⟩))] a ∧ Mm S0 wB [⟨some g5, 40, [.slice bA bs.length bc]⟩, ⟨some g8, 54, [.int .i64 op, .int .i64 a1, .int .i64 a2, .int .i64 a3, .int .i64 0]⟩, ⟨some g9, 4, [.bool f]⟩, ⟨some g14, 90, [.int .i64 (x.r.code.length : Int), .int .i64 (x.line : Int), txv []]⟩, ⟨some g7, 101, [.bool u1, .bool u2, .bool u3, .bool u4]⟩, ⟨some x.g, 87, [slv x.cA x.r.code.length x.cc, slv x.sA x.r.ss.length x.sc, slv x.dA x.ws.length x.dc, .map (some x.m), slv x.jA x.r.js.length x.jc, .int .i64 (x.line : Int), .bool x.r.last]⟩, ⟨x.cA, 54, x.ccs⟩, ⟨x.sA, 3, x.scs⟩, ⟨x.dA, 56, x.dcs⟩, ⟨x.jA, 90, x.jcs⟩] w) ?_ ?_
    · skip
      refine cDraw (n := 13) [⟨some x.g, 87, [slv x.cA x.r.code.length x.cc, slv x.sA x.r.ss.length x.sc, slv x.dA x.ws.length x.dc, .map (some x.m), slv x.jA x.r.js.length x.jc, .int .i64 (x.line : Int), .bool x.r.last]⟩] hm rfl rfl ?_
      clear hm
      intro w2 hm
      refine hV_ 0 ?_; clear hs a; intro a hs
      refine hV_ 1 ?_; clear hs a; intro a hs
      refine hV_ 2 ?_; clear hs a; intro a hs
      refine hV_ 3 ?_; clear hs a; intro a hs
      refine hTake 4 hs rfl (by kernel_rfl) (Wnt.none rfl) rfl rfl (by intro w hm; replace hm : Mm _ _ _ w := hm; exact kl_) (hm.sub sub_) ?_; clear hs a; intro a hs
      refine hTake 5 hs rfl (by kernel_rfl) (Wnt.none rfl) rfl rfl (by intro w hm; replace hm : Mm _ _ _ w := hm; (first | exact r_val hs tab rfl | exact r_bi hs rfl | exact r_pick hs rfl rfl rfl rfl)) (hm.sub sub_) ?_; clear hs a; intro a hs
      refine hV_ 6 ?_; clear hs a; intro a hs
      refine hV_ 7 ?_; clear hs a; intro a hs
      refine hV_ 8 ?_; clear hs a; intro a hs
      refine hTake 9 hs rfl (by kernel_rfl) (Wnt.none rfl) rfl rfl (by intro w hm; replace hm : Mm _ _ _ w := hm; exact kl_) (hm.sub sub_) ?_; clear hs a; intro a hs
      refine hV_ 10 ?_; clear hs a; intro a hs
      refine hEach [11] (by kernel_rfl) (eDo hs rfl (Wnt.none rfl) rfl rfl (by exact d_alloc rfl tab rfl rfl hm) ?_ eNil)
      clear hs hm a
      rintro _ w31 ⟨g14, rfl, -, hm⟩ a hs
      refine ⟨hm.sub sub_, ?_⟩
      refine hEach [12] (by kernel_rfl) (eDoN hs rfl (Wnt.none rfl) rfl ds_ ?_ eNil)
      clear hs hm
      rintro - w32 hm a hs
      refine ⟨hm.sub sub_, ?_⟩
      refine hDone (by kernel_rfl) ?_
      obtain ⟨g14, en_⟩ := hs.pt 14 (by exact rfl); subst en_
      exact And.intro rfl ⟨g14, hs.sub (Has.all ⟨rfl, rfl, rfl, rfl, rfl, rfl, rfl, rfl, rfl, trivial⟩), hm.sel [1, 2, 3, 0, 4, 6, 7, 8, 9, 10] (by decide) rfl⟩
    clear hs hm a
    rintro a w ⟨g14, hs, hm⟩
    have hG : opsG op x.r.ss.length words = match lstF op u4 x.r.ss.length bs with | none => none | some (m, f4, l, w4) => some (⟨op, a1, a2, a3, m⟩, f || f4, l, w4) := by
      unfold opsG
      rw [hrk, hu]
    with_reducible repeat (first | apply gThen | apply wp_seq)
    refine cMid (fun a w => ∃ ok : Bool, Sl Tryz.f69.ntmps [(0, .pointer (some ⟨x.g, 0, none⟩)), (1, .int .i64 op), (5, .pointer (some ⟨g5, 0, none⟩)), (7, .pointer (some ⟨g7, 0, none⟩)), (8, .pointer (some ⟨g8, 0, none⟩)), (9, .pointer (some ⟨g9, 0, none⟩)), (10, .func (.func 85) #[] #[.pointer (some ⟨g5, 0, none⟩), .pointer (some ⟨g9, 0, none⟩)]), (11, .bool ok), (14, .pointer (some ⟨g14, 0, none⟩))] a ∧ (ok = true → ∃ (i : In) (f : Bool) (l : Tx) (w4 : List Tx) (A : Option Addr) (c : Nat), opsG op x.r.ss.length words = some (i, f, l, w4) ∧ Mm S0 wB [⟨some g5, 40, [.slice A w4.length c]⟩, ⟨some g8, 54, inV i⟩, ⟨some g9, 4, [.bool f]⟩, ⟨some g14, 90, [.int .i64 (x.r.code.length : Int), .int .i64 (x.line : Int), txv l]⟩, ⟨some x.g, 87, [slv x.cA x.r.code.length x.cc, slv x.sA x.r.ss.length x.sc, slv x.dA x.ws.length x.dc, .map (some x.m), slv x.jA x.r.js.length x.jc, .int .i64 (x.line : Int), .bool x.r.last]⟩, ⟨x.cA, 54, x.ccs⟩, ⟨x.sA, 3, x.scs⟩, ⟨x.dA, 56, x.dcs⟩, ⟨x.jA, 90, x.jcs⟩] w) ∧ (ok = false → opsG op x.r.ss.length words = none ∧ Fr S0 wB w)) ?_ ?_
    · cases u4
      · rw [show lstF op false x.r.ss.length bs = some (0, false, [], bs) from rfl] at hG
        dsimp only at hG
        repeat (first | (refine ovXAss0_ ?_; clear hs a; intro a hs) | ((with_reducible apply lCons); first | (refine dv hs gw_ rfl rfl da_ ?_; clear hs hm a; rintro _ w ⟨g, rfl, -, hm⟩ a hs) | (refine stn hs rfl rfl ds_ ?_; clear hs hm a; rintro - w hm a hs)) | refine sc_ ?_)
        exact ⟨rfl, true, hs.sub (Has.all ⟨rfl, rfl, rfl, rfl, rfl, rfl, rfl, rfl, rfl, trivial⟩), fun _ => ⟨_, _, _, _, _, _, hG, by rw [Bool.or_false]; exact hm.sel [0, 1, 2, 3, 5, 6, 7, 8, 9] (by decide) rfl⟩, (fun e => by cases e)⟩
      · cases jb
        · have hG2 : opsG op x.r.ss.length words = match tkF [] (mostF op x.r.ss.length) bs with | none => none | some (m, f4, t) => some (⟨op, a1, a2, a3, m⟩, f || f4, [], t) := by
            rw [hG]
            unfold lstF
            rw [hjb]
            cases tkF [] (mostF op x.r.ss.length) bs with
            | none => rfl
            | some p => rfl
          clear hG
          by_cases h15 : op = 15
          · skip
            have hmo : mostF op x.r.ss.length = (x.r.ss.length : Int) - 1 := by unfold mostF; rw [if_pos h15]
            rw [hmo] at hG2
            repeat (first | (refine ovXAss0_ ?_; clear hs a; intro a hs) | ((with_reducible apply lCons); first | (refine dv hs gw_ rfl rfl da_ ?_; clear hs hm a; rintro _ w ⟨g, rfl, -, hm⟩ a hs) | (refine stn hs rfl rfl ds_ ?_; clear hs hm a; rintro - w hm a hs) | (refine dvc hs hm gw_ rfl rfl rfl rfl rfl (pl 35 rfl) (hjm _) ?_; clear hs hm a; intro w hm a hs)) | refine sc_ ?_)
            cases bs with
            | nil =>
              refine dv hs gw_ rfl rfl (d_callC hs rfl rfl rfl (pl 85 rfl) (tk_nil g5 g8 g9 4 bA bc [.int .i64 op, .int .i64 a1, .int .i64 a2, .int .i64 a3, .int .i64 0] f [] ((x.r.ss.length : Int) - 1) _ hm)) ?_
              clear hs hm
              rintro _ w1 ⟨rfl, hm⟩ a hs
              repeat (first | (refine ovXAss0_ ?_; clear hs a; intro a hs) | ((with_reducible apply lCons); first | (refine dv hs gw_ rfl rfl da_ ?_; clear hs hm a; rintro _ w ⟨g, rfl, -, hm⟩ a hs) | (refine stn hs rfl rfl ds_ ?_; clear hs hm a; rintro - w hm a hs)) | refine sc_ ?_)
              exact ⟨rfl, false, hs.sub (Has.all ⟨rfl, rfl, rfl, rfl, rfl, rfl, rfl, rfl, rfl, trivial⟩), (fun e => by cases e), fun _ => ⟨hG2, hm.fr⟩⟩
            | cons s t =>
              obtain ⟨b1, o1, rfl, hb1, r1⟩ := hbr.ro (by rw [List.length_map]; exact Nat.succ_pos _)
              have hnb := hbn _ rfl
              refine dv hs gw_ rfl rfl (d_callC hs rfl rfl rfl (pl 85 rfl) (tk_cons g5 g8 g9 4 b1 o1 bc s t [.int .i64 op, .int .i64 a1, .int .i64 a2, .int .i64 a3, .int .i64 0] f [] ((x.r.ss.length : Int) - 1) _ hm r1 hnb (hbs s (List.mem_cons_self ..)) rfl (by omega))) ?_
              clear hs hm
              rintro _ w1 ⟨rfl, hm⟩ a hs
              rw [tkF_cons] at hG2
              obtain ⟨n, hn_⟩ : ∃ z, (decF (Lib.trimPrefix s [])).getD 0 = z := ⟨_, rfl⟩
              obtain ⟨q, hq⟩ : ∃ z, (List.isPrefixOf [] s && (decF (Lib.trimPrefix s [])).isSome) = z := ⟨_, rfl⟩
              rw [hn_] at hm hG2
              rw [hq] at hs hG2
              clear hn_ hq
              cases q
              · rw [if_neg (by decide)] at hG2
                repeat (first | (refine ovXAss0_ ?_; clear hs a; intro a hs) | ((with_reducible apply lCons); first | (refine dv hs gw_ rfl rfl da_ ?_; clear hs hm a; rintro _ w ⟨g, rfl, -, hm⟩ a hs) | (refine stn hs rfl rfl ds_ ?_; clear hs hm a; rintro - w hm a hs)) | refine sc_ ?_)
                exact ⟨rfl, false, hs.sub (Has.all ⟨rfl, rfl, rfl, rfl, rfl, rfl, rfl, rfl, rfl, trivial⟩), (fun e => by cases e), fun _ => ⟨hG2, hm.fr⟩⟩
              · rw [if_pos rfl] at hG2
                dsimp only at hG2
                repeat (first | (refine ovXAss0_ ?_; clear hs a; intro a hs) | ((with_reducible apply lCons); first | (refine dv hs gw_ rfl rfl da_ ?_; clear hs hm a; rintro _ w ⟨g, rfl, -, hm⟩ a hs) | (refine stn hs rfl rfl ds_ ?_; clear hs hm a; rintro - w hm a hs)) | refine sc_ ?_)
                exact ⟨rfl, true, hs.sub (Has.all ⟨rfl, rfl, rfl, rfl, rfl, rfl, rfl, rfl, rfl, trivial⟩), fun _ => ⟨_, _, _, _, _, _, hG2, hm.sel [0, 1, 2, 3, 5, 6, 7, 8, 9] (by decide) rfl⟩, (fun e => by cases e)⟩
          by_cases h23 : op = 23
          · skip
            have hmo : mostF op x.r.ss.length = 15 := by unfold mostF; rw [if_neg h15, if_pos h23]
            rw [hmo] at hG2
            repeat (first | (refine ovXAss0_ ?_; clear hs a; intro a hs) | ((with_reducible apply lCons); first | (refine dv hs gw_ rfl rfl da_ ?_; clear hs hm a; rintro _ w ⟨g, rfl, -, hm⟩ a hs) | (refine stn hs rfl rfl ds_ ?_; clear hs hm a; rintro - w hm a hs) | (refine dvc hs hm gw_ rfl rfl rfl rfl rfl (pl 35 rfl) (hjm _) ?_; clear hs hm a; intro w hm a hs)) | refine sc_ ?_)
            cases bs with
            | nil =>
              refine dv hs gw_ rfl rfl (d_callC hs rfl rfl rfl (pl 85 rfl) (tk_nil g5 g8 g9 4 bA bc [.int .i64 op, .int .i64 a1, .int .i64 a2, .int .i64 a3, .int .i64 0] f [] (15) _ hm)) ?_
              clear hs hm
              rintro _ w1 ⟨rfl, hm⟩ a hs
              repeat (first | (refine ovXAss0_ ?_; clear hs a; intro a hs) | ((with_reducible apply lCons); first | (refine dv hs gw_ rfl rfl da_ ?_; clear hs hm a; rintro _ w ⟨g, rfl, -, hm⟩ a hs) | (refine stn hs rfl rfl ds_ ?_; clear hs hm a; rintro - w hm a hs)) | refine sc_ ?_)
              exact ⟨rfl, false, hs.sub (Has.all ⟨rfl, rfl, rfl, rfl, rfl, rfl, rfl, rfl, rfl, trivial⟩), (fun e => by cases e), fun _ => ⟨hG2, hm.fr⟩⟩
            | cons s t =>
              obtain ⟨b1, o1, rfl, hb1, r1⟩ := hbr.ro (by rw [List.length_map]; exact Nat.succ_pos _)
              have hnb := hbn _ rfl
              refine dv hs gw_ rfl rfl (d_callC hs rfl rfl rfl (pl 85 rfl) (tk_cons g5 g8 g9 4 b1 o1 bc s t [.int .i64 op, .int .i64 a1, .int .i64 a2, .int .i64 a3, .int .i64 0] f [] (15) _ hm r1 hnb (hbs s (List.mem_cons_self ..)) rfl (by omega))) ?_
              clear hs hm
              rintro _ w1 ⟨rfl, hm⟩ a hs
              rw [tkF_cons] at hG2
              obtain ⟨n, hn_⟩ : ∃ z, (decF (Lib.trimPrefix s [])).getD 0 = z := ⟨_, rfl⟩
              obtain ⟨q, hq⟩ : ∃ z, (List.isPrefixOf [] s && (decF (Lib.trimPrefix s [])).isSome) = z := ⟨_, rfl⟩
              rw [hn_] at hm hG2
              rw [hq] at hs hG2
              clear hn_ hq
              cases q
              · rw [if_neg (by decide)] at hG2
                repeat (first | (refine ovXAss0_ ?_; clear hs a; intro a hs) | ((with_reducible apply lCons); first | (refine dv hs gw_ rfl rfl da_ ?_; clear hs hm a; rintro _ w ⟨g, rfl, -, hm⟩ a hs) | (refine stn hs rfl rfl ds_ ?_; clear hs hm a; rintro - w hm a hs)) | refine sc_ ?_)
                exact ⟨rfl, false, hs.sub (Has.all ⟨rfl, rfl, rfl, rfl, rfl, rfl, rfl, rfl, rfl, trivial⟩), (fun e => by cases e), fun _ => ⟨hG2, hm.fr⟩⟩
              · rw [if_pos rfl] at hG2
                dsimp only at hG2
                repeat (first | (refine ovXAss0_ ?_; clear hs a; intro a hs) | ((with_reducible apply lCons); first | (refine dv hs gw_ rfl rfl da_ ?_; clear hs hm a; rintro _ w ⟨g, rfl, -, hm⟩ a hs) | (refine stn hs rfl rfl ds_ ?_; clear hs hm a; rintro - w hm a hs)) | refine sc_ ?_)
                exact ⟨rfl, true, hs.sub (Has.all ⟨rfl, rfl, rfl, rfl, rfl, rfl, rfl, rfl, rfl, trivial⟩), fun _ => ⟨_, _, _, _, _, _, hG2, hm.sel [0, 1, 2, 3, 5, 6, 7, 8, 9] (by decide) rfl⟩, (fun e => by cases e)⟩
          · skip
            have hmo : mostF op x.r.ss.length = 65535 := by unfold mostF; rw [if_neg h15, if_neg h23]
            rw [hmo] at hG2
            repeat (first | (refine ovXAss0_ ?_; clear hs a; intro a hs) | ((with_reducible apply lCons); first | (refine dv hs gw_ rfl rfl da_ ?_; clear hs hm a; rintro _ w ⟨g, rfl, -, hm⟩ a hs) | (refine stn hs rfl rfl ds_ ?_; clear hs hm a; rintro - w hm a hs) | (refine dvc hs hm gw_ rfl rfl rfl rfl rfl (pl 35 rfl) (hjm _) ?_; clear hs hm a; intro w hm a hs)) | refine sc_ ?_)
            cases bs with
            | nil =>
              refine dv hs gw_ rfl rfl (d_callC hs rfl rfl rfl (pl 85 rfl) (tk_nil g5 g8 g9 4 bA bc [.int .i64 op, .int .i64 a1, .int .i64 a2, .int .i64 a3, .int .i64 0] f [] (65535) _ hm)) ?_
              clear hs hm
              rintro _ w1 ⟨rfl, hm⟩ a hs
              repeat (first | (refine ovXAss0_ ?_; clear hs a; intro a hs) | ((with_reducible apply lCons); first | (refine dv hs gw_ rfl rfl da_ ?_; clear hs hm a; rintro _ w ⟨g, rfl, -, hm⟩ a hs) | (refine stn hs rfl rfl ds_ ?_; clear hs hm a; rintro - w hm a hs)) | refine sc_ ?_)
              exact ⟨rfl, false, hs.sub (Has.all ⟨rfl, rfl, rfl, rfl, rfl, rfl, rfl, rfl, rfl, trivial⟩), (fun e => by cases e), fun _ => ⟨hG2, hm.fr⟩⟩
            | cons s t =>
              obtain ⟨b1, o1, rfl, hb1, r1⟩ := hbr.ro (by rw [List.length_map]; exact Nat.succ_pos _)
              have hnb := hbn _ rfl
              refine dv hs gw_ rfl rfl (d_callC hs rfl rfl rfl (pl 85 rfl) (tk_cons g5 g8 g9 4 b1 o1 bc s t [.int .i64 op, .int .i64 a1, .int .i64 a2, .int .i64 a3, .int .i64 0] f [] (65535) _ hm r1 hnb (hbs s (List.mem_cons_self ..)) rfl (by omega))) ?_
              clear hs hm
              rintro _ w1 ⟨rfl, hm⟩ a hs
              rw [tkF_cons] at hG2
              obtain ⟨n, hn_⟩ : ∃ z, (decF (Lib.trimPrefix s [])).getD 0 = z := ⟨_, rfl⟩
              obtain ⟨q, hq⟩ : ∃ z, (List.isPrefixOf [] s && (decF (Lib.trimPrefix s [])).isSome) = z := ⟨_, rfl⟩
              rw [hn_] at hm hG2
              rw [hq] at hs hG2
              clear hn_ hq
              cases q
              · rw [if_neg (by decide)] at hG2
                repeat (first | (refine ovXAss0_ ?_; clear hs a; intro a hs) | ((with_reducible apply lCons); first | (refine dv hs gw_ rfl rfl da_ ?_; clear hs hm a; rintro _ w ⟨g, rfl, -, hm⟩ a hs) | (refine stn hs rfl rfl ds_ ?_; clear hs hm a; rintro - w hm a hs)) | refine sc_ ?_)
                exact ⟨rfl, false, hs.sub (Has.all ⟨rfl, rfl, rfl, rfl, rfl, rfl, rfl, rfl, rfl, trivial⟩), (fun e => by cases e), fun _ => ⟨hG2, hm.fr⟩⟩
              · rw [if_pos rfl] at hG2
                dsimp only at hG2
                repeat (first | (refine ovXAss0_ ?_; clear hs a; intro a hs) | ((with_reducible apply lCons); first | (refine dv hs gw_ rfl rfl da_ ?_; clear hs hm a; rintro _ w ⟨g, rfl, -, hm⟩ a hs) | (refine stn hs rfl rfl ds_ ?_; clear hs hm a; rintro - w hm a hs)) | refine sc_ ?_)
                exact ⟨rfl, true, hs.sub (Has.all ⟨rfl, rfl, rfl, rfl, rfl, rfl, rfl, rfl, rfl, trivial⟩), fun _ => ⟨_, _, _, _, _, _, hG2, hm.sel [0, 1, 2, 3, 5, 6, 7, 8, 9] (by decide) rfl⟩, (fun e => by cases e)⟩
        · have hG2 : opsG op x.r.ss.length words = match (match bs with | [] => none | w :: t => if nmB w then some ((0 : Int), false, w, t) else none) with | none => none | some (m, f4, l, w4) => some (⟨op, a1, a2, a3, m⟩, f || f4, l, w4) := by
            rw [hG]
            unfold lstF
            rw [hjb]
            rfl
          clear hG
          cases bs with
          | nil =>
            repeat (first | (refine ovXAss0_ ?_; clear hs a; intro a hs) | ((with_reducible apply lCons); first | (refine dv hs gw_ rfl rfl da_ ?_; clear hs hm a; rintro _ w ⟨g, rfl, -, hm⟩ a hs) | (refine stn hs rfl rfl ds_ ?_; clear hs hm a; rintro - w hm a hs) | (refine dvc hs hm gw_ rfl rfl rfl rfl rfl (pl 35 rfl) (hjm _) ?_; clear hs hm a; intro w hm a hs)) | refine sc_ ?_)
            exact ⟨rfl, false, hs.sub (Has.all ⟨rfl, rfl, rfl, rfl, rfl, rfl, rfl, rfl, rfl, trivial⟩), (fun e => by cases e), fun _ => ⟨hG2, hm.fr⟩⟩
          | cons s t =>
            obtain ⟨b1, o1, rfl, hb1, r1⟩ := hbr.ro (by rw [List.length_map]; exact Nat.succ_pos _)
            have hnb := hbn _ rfl
            have e1 : ((s :: t).map txv)[0]? = some (txv s) := rfl
            have hnm_ := fun w => nm_c s w (by have := hbs s (List.mem_cons_self ..); omega)
            have hl1 : (s :: t).length = t.length + 1 := rfl
            dsimp only at hG2
            cases hq : nmB s
            · rw [hq] at hG2 hnm_
              repeat (first | (refine oqXAss1_ ?_; clear hs a; intro a hs) | ((with_reducible apply lCons); first | (refine dv hs gw_ rfl rfl da_ ?_; clear hs hm a; rintro _ w ⟨g, rfl, -, hm⟩ a hs) | (refine stn hs rfl rfl ds_ ?_; clear hs hm a; rintro - w hm a hs) | (refine dvc hs hm gw_ rfl rfl rfl rfl rfl (pl 35 rfl) (hjm _) ?_; clear hs hm a; intro w hm a hs) | (refine dvc hs hm gw_ rfl rfl rfl rfl rfl (pl 66 rfl) (hnm_ _) ?_; clear hs hm a; intro w hm a hs)) | ((with_reducible apply qCons); first | (refine qwc hs gw_ rfl rfl rfl rfl rfl (pl 35 rfl) (fun w hm => hjm _) ?_; clear hs a; intro a hs) | (refine qwc hs gw_ rfl rfl rfl rfl rfl (pl 66 rfl) (fun w hm => hnm_ _) ?_; clear hs a; intro a hs)) | ((with_reducible apply qNil); clear hm; intro w hm) | refine cQ_ ?_ | refine sc_ ?_)
              exact ⟨rfl, false, hs.sub (Has.all ⟨rfl, rfl, rfl, rfl, rfl, rfl, rfl, rfl, rfl, trivial⟩), (fun e => by cases e), fun _ => ⟨hG2, hm.fr⟩⟩
            · rw [hq] at hG2 hnm_
              repeat (first | (refine oqXAss1_ ?_; clear hs a; intro a hs) | ((with_reducible apply lCons); first | (refine dv hs gw_ rfl rfl da_ ?_; clear hs hm a; rintro _ w ⟨g, rfl, -, hm⟩ a hs) | (refine stn hs rfl rfl ds_ ?_; clear hs hm a; rintro - w hm a hs) | (refine dvc hs hm gw_ rfl rfl rfl rfl rfl (pl 35 rfl) (hjm _) ?_; clear hs hm a; intro w hm a hs) | (refine dvc hs hm gw_ rfl rfl rfl rfl rfl (pl 66 rfl) (hnm_ _) ?_; clear hs hm a; intro w hm a hs)) | ((with_reducible apply qCons); first | (refine qwc hs gw_ rfl rfl rfl rfl rfl (pl 35 rfl) (fun w hm => hjm _) ?_; clear hs a; intro a hs) | (refine qwc hs gw_ rfl rfl rfl rfl rfl (pl 66 rfl) (fun w hm => hnm_ _) ?_; clear hs a; intro a hs)) | ((with_reducible apply qNil); clear hm; intro w hm) | refine cQ_ ?_ | refine sc_ ?_)
              refine cMid (fun a w => Sl Tryz.f69.ntmps [(0, .pointer (some ⟨x.g, 0, none⟩)), (1, .int .i64 op), (5, .pointer (some ⟨g5, 0, none⟩)), (7, .pointer (some ⟨g7, 0, none⟩)), (8, .pointer (some ⟨g8, 0, none⟩)), (9, .pointer (some ⟨g9, 0, none⟩)), (10, .func (.func 85) #[] #[.pointer (some ⟨g5, 0, none⟩), .pointer (some ⟨g9, 0, none⟩)]), (11, .bool true), (14, .pointer (some ⟨g14, 0, none⟩))] a ∧ Mm S0 wB [⟨some g5, 40, [.slice (if bc = 1 then some ⟨b1, o1, none⟩ else some ⟨b1, o1 + 1, none⟩) t.length (bc - 1)]⟩, ⟨some g8, 54, [.int .i64 op, .int .i64 a1, .int .i64 a2, .int .i64 a3, .int .i64 0]⟩, ⟨some g9, 4, [.bool f]⟩, ⟨some g14, 90, [.int .i64 (x.r.code.length : Int), .int .i64 (x.line : Int), txv s]⟩, ⟨some x.g, 87, [slv x.cA x.r.code.length x.cc, slv x.sA x.r.ss.length x.sc, slv x.dA x.ws.length x.dc, .map (some x.m), slv x.jA x.r.js.length x.jc, .int .i64 (x.line : Int), .bool x.r.last]⟩, ⟨x.cA, 54, x.ccs⟩, ⟨x.sA, 3, x.scs⟩, ⟨x.dA, 56, x.dcs⟩, ⟨x.jA, 90, x.jcs⟩] w) ?_ ?_
              · skip
                refine cDraw (n := 8) [] hm rfl rfl ?_
                clear hm
                intro w2 hm
                refine hEach [0, 3] (by kernel_rfl) (eDo hs rfl (Wnt.none rfl) rfl rfl (RunV.does kv_) ?_ (eDo hs rfl (Wnt.none rfl) rfl rfl (RunV.does kv_) ?_ eNil))
                · skip
                  clear hs a
                  rintro _ _ ⟨rfl, rfl⟩ a hs
                  refine ⟨hm.sub sub_, ?_⟩
                  refine hTake 1 hs rfl (by kernel_rfl) (Wnt.none rfl) rfl rfl (by intro w hm; replace hm : Mm _ _ _ w := hm; (first | exact r_iz hs tab rfl rfl (by omega) | exact r_iy hs tab rfl rfl (by omega))) (hm.sub (List.nil_sublist _)) ?_; clear hs a; intro a hs
                  refine hTake 2 hs rfl (by kernel_rfl) (Wnt.none rfl) rfl rfl (by intro w hm; replace hm : Mm _ _ _ w := hm; exact kl_) (hm.sub (List.nil_sublist _)) ?_; clear hs a; intro a hs
                  refine hV_ 5 ?_; clear hs a; intro a hs
                  refine hEach [3, 6] (by kernel_rfl) (eDo hs rfl (Wnt.none rfl) rfl rfl (RunV.does kv_) ?_ (eDoN hs rfl (Wnt.none rfl) rfl ds_ ?_ eNil))
                  · skip
                    clear hs a
                    rintro _ _ ⟨rfl, rfl⟩ a hs
                    refine ⟨hm.sub sub_, ?_⟩
                    refine hTake 4 hs rfl (by kernel_rfl) (Wnt.none rfl) rfl rfl (by intro w hm; replace hm : Mm _ _ _ w := hm; (first | exact kv_ | exact ksl_)) (hm.sub (List.nil_sublist _)) ?_; clear hs a; intro a hs
                    refine hEach [6] (by kernel_rfl) (eDoN hs rfl (Wnt.none rfl) rfl ds_ ?_ eNil)
                    clear hs hm
                    rintro - w26 hm a hs
                    refine ⟨hm.sub sub_, ?_⟩
                    refine hEach [7] (by kernel_rfl) (eDoN hs rfl (Wnt.none rfl) rfl ds_ ?_ eNil)
                    clear hs hm
                    rintro - w27 hm a hs
                    refine ⟨hm.sub sub_, ?_⟩
                    refine hDone (by kernel_rfl) ?_
                    exact And.intro rfl ⟨hs.sub (Has.all ⟨rfl, rfl, rfl, rfl, rfl, rfl, rfl, rfl, rfl, trivial⟩), hm.sel [0, 1, 2, 3, 5, 6, 7, 8, 9] (by decide) rfl⟩
                  · skip
                    clear hs hm
                    rintro - w26 hm a hs
                    refine ⟨hm.sub sub_, ?_⟩
                    refine hEach [3] (by kernel_rfl) (eDo hs rfl (Wnt.none rfl) rfl rfl (RunV.does kv_) ?_ eNil)
                    clear hs a
                    rintro _ _ ⟨rfl, rfl⟩ a hs
                    refine ⟨hm.sub sub_, ?_⟩
                    refine hTake 4 hs rfl (by kernel_rfl) (Wnt.none rfl) rfl rfl (by intro w hm; replace hm : Mm _ _ _ w := hm; (first | exact kv_ | exact ksl_)) (hm.sub (List.nil_sublist _)) ?_; clear hs a; intro a hs
                    refine hEach [7] (by kernel_rfl) (eDoN hs rfl (Wnt.none rfl) rfl ds_ ?_ eNil)
                    clear hs hm
                    rintro - w27 hm a hs
                    refine ⟨hm.sub sub_, ?_⟩
                    refine hDone (by kernel_rfl) ?_
                    exact And.intro rfl ⟨hs.sub (Has.all ⟨rfl, rfl, rfl, rfl, rfl, rfl, rfl, rfl, rfl, trivial⟩), hm.sel [0, 1, 2, 3, 5, 6, 7, 8, 9] (by decide) rfl⟩
                · skip
                  clear hs a
                  rintro _ _ ⟨rfl, rfl⟩ a hs
                  refine ⟨hm.sub sub_, ?_⟩
                  refine hTake 4 hs rfl (by kernel_rfl) (Wnt.none rfl) rfl rfl (by intro w hm; replace hm : Mm _ _ _ w := hm; (first | exact kv_ | exact ksl_)) (hm.sub (List.nil_sublist _)) ?_; clear hs a; intro a hs
                  refine hEach [0] (by kernel_rfl) (eDo hs rfl (Wnt.none rfl) rfl rfl (RunV.does kv_) ?_ eNil)
                  clear hs a
                  rintro _ _ ⟨rfl, rfl⟩ a hs
                  refine ⟨hm.sub sub_, ?_⟩
                  refine hTake 1 hs rfl (by kernel_rfl) (Wnt.none rfl) rfl rfl (by intro w hm; replace hm : Mm _ _ _ w := hm; (first | exact r_iz hs tab rfl rfl (by omega) | exact r_iy hs tab rfl rfl (by omega))) (hm.sub (List.nil_sublist _)) ?_; clear hs a; intro a hs
                  refine hTake 2 hs rfl (by kernel_rfl) (Wnt.none rfl) rfl rfl (by intro w hm; replace hm : Mm _ _ _ w := hm; exact kl_) (hm.sub (List.nil_sublist _)) ?_; clear hs a; intro a hs
                  refine hV_ 5 ?_; clear hs a; intro a hs
                  refine hEach [6] (by kernel_rfl) (eDoN hs rfl (Wnt.none rfl) rfl ds_ ?_ eNil)
                  clear hs hm
                  rintro - w26 hm a hs
                  refine ⟨hm.sub sub_, ?_⟩
                  refine hEach [7] (by kernel_rfl) (eDoN hs rfl (Wnt.none rfl) rfl ds_ ?_ eNil)
                  clear hs hm
                  rintro - w27 hm a hs
                  refine ⟨hm.sub sub_, ?_⟩
                  refine hDone (by kernel_rfl) ?_
                  exact And.intro rfl ⟨hs.sub (Has.all ⟨rfl, rfl, rfl, rfl, rfl, rfl, rfl, rfl, rfl, trivial⟩), hm.sel [0, 1, 2, 3, 5, 6, 7, 8, 9] (by decide) rfl⟩
              clear hs hm a
              rintro a w ⟨hs, hm⟩
              repeat (first | (refine ovXAss0_ ?_; clear hs a; intro a hs) | ((with_reducible apply lCons); first | (refine dv hs gw_ rfl rfl da_ ?_; clear hs hm a; rintro _ w ⟨g, rfl, -, hm⟩ a hs) | (refine stn hs rfl rfl ds_ ?_; clear hs hm a; rintro - w hm a hs)) | refine sc_ ?_)
              exact ⟨rfl, true, hs.sub (Has.all ⟨rfl, rfl, rfl, rfl, rfl, rfl, rfl, rfl, rfl, trivial⟩), fun _ => ⟨_, _, _, _, _, _, hG2, by rw [Bool.or_false]; exact hm⟩, (fun e => by cases e)⟩
    clear hs hm a hG
    rintro a w ⟨ok, hs, hok, hno⟩
    cases ok
    · obtain ⟨hG, hfr⟩ := hno rfl
      have hF : (insF x.r op words x.line).2 = 2 := by
        unfold insF
        rw [opsF_G, hG]
      have hm := Mm.nil (fun _ => False) w
      repeat (first | (refine ovXAss0_ ?_; clear hs a; intro a hs) | ((with_reducible apply lCons); first | (refine dv hs gw_ rfl rfl da_ ?_; clear hs hm a; rintro _ w ⟨g, rfl, -, hm⟩ a hs) | (refine stn hs rfl rfl ds_ ?_; clear hs hm a; rintro - w hm a hs)) | refine sc_ ?_)
      exact gRet1 hs rfl rfl ⟨_, rfl, hF.symm, hfr.pu hm.fr, (fun e => by cases e)⟩
    · obtain ⟨i, f, l, w4, A4, c4, hG, hm⟩ := hok rfl
      clear hok hno
      cases w4 with
      | cons s t =>
        have hF : (insF x.r op words x.line).2 = 2 := by
          unfold insF
          rw [opsF_G, hG]
          dsimp only
          rw [if_neg (fun e => by cases e)]
        have hl1 : (s :: t).length = t.length + 1 := rfl
        repeat (first | (refine ovXAss0_ ?_; clear hs a; intro a hs) | ((with_reducible apply lCons); first | (refine dv hs gw_ rfl rfl da_ ?_; clear hs hm a; rintro _ w ⟨g, rfl, -, hm⟩ a hs) | (refine stn hs rfl rfl ds_ ?_; clear hs hm a; rintro - w hm a hs)) | refine sc_ ?_)
        exact gRet1 hs rfl rfl ⟨_, rfl, hF.symm, hm.fr, (fun e => by cases e)⟩
      | nil =>
        have hG1 : opsF op x.r.ss.length words = some (i, f, l) := by
          rw [opsF_G, hG]
          dsimp only
          rw [if_pos rfl]
        have h0 : ([] : List Tx).length = 0 := rfl
        cases f
        case true =>
          have hF : (insF x.r op words x.line).2 = 6 := by
            unfold insF
            rw [hG1]
            dsimp only
            rw [if_pos (.inl rfl)]
          repeat (first | (refine ovXAss0_ ?_; clear hs a; intro a hs) | ((with_reducible apply lCons); first | (refine dv hs gw_ rfl rfl da_ ?_; clear hs hm a; rintro _ w ⟨g, rfl, -, hm⟩ a hs) | (refine stn hs rfl rfl ds_ ?_; clear hs hm a; rintro - w hm a hs)) | refine sc_ ?_)
          exact gRet1 hs rfl rfl ⟨_, rfl, hF.symm, hm.fr, (fun e => by cases e)⟩
        by_cases h64 : 64 ≤ x.r.code.length
        · have hF : (insF x.r op words x.line).2 = 6 := by
            unfold insF
            rw [hG1]
            dsimp only
            rw [if_pos (.inr h64)]
          repeat (first | (refine ovXAss0_ ?_; clear hs a; intro a hs) | ((with_reducible apply lCons); first | (refine dv hs gw_ rfl rfl da_ ?_; clear hs hm a; rintro _ w ⟨g, rfl, -, hm⟩ a hs) | (refine stn hs rfl rfl ds_ ?_; clear hs hm a; rintro - w hm a hs)) | refine sc_ ?_)
          exact gRet1 hs rfl rfl ⟨_, rfl, hF.symm, hm.fr, (fun e => by cases e)⟩
        have hF : insF x.r op words x.line = ({ x.r with code := x.r.code ++ [i], js := if l = [] then x.r.js else x.r.js ++ [(x.r.code.length, x.line, l)] }, 0) := by
          unfold insF
          rw [hG1]
          dsimp only
          rw [if_neg (by rintro (h1 | h1); cases h1; exact h64 h1)]
        rw [hF]
        clear hF hG1 hG
        repeat (first | (refine ovXAss0_ ?_; clear hs a; intro a hs) | ((with_reducible apply lCons); first | (refine dv hs gw_ rfl rfl da_ ?_; clear hs hm a; rintro _ w ⟨g, rfl, -, hm⟩ a hs) | (refine stn hs rfl rfl ds_ ?_; clear hs hm a; rintro - w hm a hs)) | refine sc_ ?_)
        have hxc := h.c
        have hxj := h.j
        refine cMid (fun a w => ∃ (cA2 : Option Nat) (cc2 : Nat) (ccs2 : List Value), Row cA2 (x.r.code.length + 1) cc2 5 (x.r.code.flatMap inV ++ inV i) ccs2 ∧ Sl Tryz.f69.ntmps [(0, .pointer (some ⟨x.g, 0, none⟩)), (14, .pointer (some ⟨g14, 0, none⟩))] a ∧ Mm S0 wB [⟨some g14, 90, [.int .i64 (x.r.code.length : Int), .int .i64 (x.line : Int), txv l]⟩, ⟨some x.g, 87, [slv cA2 (x.r.code.length + 1) cc2, slv x.sA x.r.ss.length x.sc, slv x.dA x.ws.length x.dc, .map (some x.m), slv x.jA x.r.js.length x.jc, .int .i64 (x.line : Int), .bool x.r.last]⟩, ⟨cA2, 54, ccs2⟩, ⟨x.sA, 3, x.scs⟩, ⟨x.dA, 56, x.dcs⟩, ⟨x.jA, 90, x.jcs⟩] w) ?_ ?_
        · skip
          refine cDraw (n := 13) [⟨some g8, 54, inV i⟩] hm rfl rfl ?_
          clear hm
          intro w2 hm
          refine hV_ 0 ?_; clear hs a; intro a hs
          refine hV_ 1 ?_; clear hs a; intro a hs
          refine hV_ 2 ?_; clear hs a; intro a hs
          refine hV_ 3 ?_; clear hs a; intro a hs
          refine hV_ 4 ?_; clear hs a; intro a hs
          refine hTake 6 hs rfl (by kernel_rfl) (Wnt.none rfl) rfl rfl (by intro w hm; replace hm : Mm _ _ _ w := hm; exact kl_) (hm.sub sub_) ?_; clear hs a; intro a hs
          refine hEach [5, 7] (by kernel_rfl) (eDo hs rfl (Wnt.none rfl) rfl rfl (RunV.does kv_) ?_ (eDo hs rfl (Wnt.none rfl) rfl rfl (by exact d_buildSlice hs rfl tab rfl rfl rfl rfl rfl rfl rfl rfl rfl hm) ?_ eNil))
          · skip
            clear hs a
            rintro _ _ ⟨rfl, rfl⟩ a hs
            refine ⟨hm.sub sub_, ?_⟩
            refine hEach [7] (by kernel_rfl) (eDo hs rfl (Wnt.none rfl) rfl rfl (by exact d_buildSlice hs rfl tab rfl rfl rfl rfl rfl rfl rfl rfl rfl hm) ?_ eNil)
            clear hs hm a
            rintro _ w27 ⟨g130, rfl, -, hm⟩ a hs
            refine ⟨hm.sub sub_, ?_⟩
            refine hEach [8] (by kernel_rfl) (eDo hs rfl (Wnt.none rfl) rfl rfl (d_append (A := x.cA) (n := x.r.code.length) (c := x.cc) (news := inV i) hs rfl rfl rfl rfl rfl tab rfl rfl rfl rfl rfl hm mem_ hxc rfl (hm.ro (n := 5) mem_ (cutF_ok rfl)) rfl (by show (x.r.code.length + 1) * 40 ≤ _; omega) (by omega)) ?_ eNil)
            clear hs
            rintro _ w1 ⟨cA2, cc2, ccs2, rfl, hr8, hM⟩ a hs
            replace hm := hM _ rep_
            clear hM
            refine ⟨hm.sub sub_, ?_⟩
            refine hV_ 9 ?_; clear hs a; intro a hs
            refine hV_ 10 ?_; clear hs a; intro a hs
            refine hV_ 11 ?_; clear hs a; intro a hs
            refine hEach [12] (by kernel_rfl) (eDoN hs rfl (Wnt.none rfl) rfl ds_ ?_ eNil)
            clear hs hm
            rintro - w32 hm a hs
            refine ⟨hm.sub sub_, ?_⟩
            refine hDone (by kernel_rfl) ?_
            exact And.intro rfl ⟨cA2, cc2, ccs2, hr8, hs.sub (Has.all ⟨rfl, rfl, trivial⟩), hm.sub sub_⟩
          · skip
            clear hs hm a
            rintro _ w27 ⟨g130, rfl, -, hm⟩ a hs
            refine ⟨hm.sub sub_, ?_⟩
            refine hEach [5] (by kernel_rfl) (eDo hs rfl (Wnt.none rfl) rfl rfl (RunV.does kv_) ?_ eNil)
            clear hs a
            rintro _ _ ⟨rfl, rfl⟩ a hs
            refine ⟨hm.sub sub_, ?_⟩
            refine hEach [8] (by kernel_rfl) (eDo hs rfl (Wnt.none rfl) rfl rfl (d_append (A := x.cA) (n := x.r.code.length) (c := x.cc) (news := inV i) hs rfl rfl rfl rfl rfl tab rfl rfl rfl rfl rfl hm mem_ hxc rfl (hm.ro (n := 5) mem_ (cutF_ok rfl)) rfl (by show (x.r.code.length + 1) * 40 ≤ _; omega) (by omega)) ?_ eNil)
            clear hs
            rintro _ w1 ⟨cA2, cc2, ccs2, rfl, hr8, hM⟩ a hs
            replace hm := hM _ rep_
            clear hM
            refine ⟨hm.sub sub_, ?_⟩
            refine hV_ 9 ?_; clear hs a; intro a hs
            refine hV_ 10 ?_; clear hs a; intro a hs
            refine hV_ 11 ?_; clear hs a; intro a hs
            refine hEach [12] (by kernel_rfl) (eDoN hs rfl (Wnt.none rfl) rfl ds_ ?_ eNil)
            clear hs hm
            rintro - w32 hm a hs
            refine ⟨hm.sub sub_, ?_⟩
            refine hDone (by kernel_rfl) ?_
            exact And.intro rfl ⟨cA2, cc2, ccs2, hr8, hs.sub (Has.all ⟨rfl, rfl, trivial⟩), hm.sub sub_⟩
        clear hs hm a
        rintro a w ⟨cA2, cc2, ccs2, hr8, hs, hm⟩
        have hfm : x.r.code.flatMap inV ++ inV i = (x.r.code ++ [i]).flatMap inV := by rw [List.flatMap_append]; simp
        have l1 : (x.r.code ++ [i]).length = x.r.code.length + 1 := by rw [List.length_append]; rfl
        rw [hfm, ← l1] at hr8
        by_cases hl : l = []
        · subst hl
          rw [if_pos rfl]
          repeat (first | (refine ovXAss0_ ?_; clear hs a; intro a hs) | ((with_reducible apply lCons); first | (refine dv hs gw_ rfl rfl da_ ?_; clear hs hm a; rintro _ w ⟨g, rfl, -, hm⟩ a hs) | (refine stn hs rfl rfl ds_ ?_; clear hs hm a; rintro - w hm a hs)) | refine sc_ ?_)
          rw [sEE] at hs
          repeat (first | (refine ovXAss0_ ?_; clear hs a; intro a hs) | ((with_reducible apply lCons); first | (refine dv hs gw_ rfl rfl da_ ?_; clear hs hm a; rintro _ w ⟨g, rfl, -, hm⟩ a hs) | (refine stn hs rfl rfl ds_ ?_; clear hs hm a; rintro - w hm a hs)) | refine sc_ ?_)
          refine gRet1 hs rfl rfl ⟨_, rfl, rfl, hm.fr, fun _ => ?_⟩
          obtain ⟨y, hy⟩ : ∃ y : RdX, y = ⟨x.g, x.m, cA2, cc2, ccs2, x.sA, x.sc, x.scs, x.dA, x.dc, x.dcs, x.jA, x.jc, x.jcs, x.ws, x.line, { x.r with code := x.r.code ++ [i], js := x.r.js }⟩ := ⟨_, rfl⟩
          have hmy : Mm S0 wB y.M w := by
            rw [hy]
            unfold RdX.M RdX.hd
            dsimp only
            rw [l1]
            exact hm.sub sub_
          rw [← hS0] at hmy
          have key := RdX.fin h hmy (by rw [hy]) (by rw [hy]) (by rw [hy]) (by rw [hy]; exact hr8) (by rw [hy]; exact h.s) (by rw [hy]; exact h.d) (by rw [hy]; exact hxj) (by rw [hy]) (by rw [hy]) (by rw [hy]) (by rw [hy]; dsimp only; rw [l1]; exact ⟨by omega, z2, z3, by omega, z5⟩)
          exact ⟨y, by rw [hy] at key ⊢; exact key⟩
        · have hl2 := sEqF hl
          rw [if_neg hl]
          repeat (first | (refine ovXAss0_ ?_; clear hs a; intro a hs) | ((with_reducible apply lCons); first | (refine dv hs gw_ rfl rfl da_ ?_; clear hs hm a; rintro _ w ⟨g, rfl, -, hm⟩ a hs) | (refine stn hs rfl rfl ds_ ?_; clear hs hm a; rintro - w hm a hs)) | refine sc_ ?_)
          rw [hl2] at hs
          repeat (first | (refine ovXAss0_ ?_; clear hs a; intro a hs) | ((with_reducible apply lCons); first | (refine dv hs gw_ rfl rfl da_ ?_; clear hs hm a; rintro _ w ⟨g, rfl, -, hm⟩ a hs) | (refine stn hs rfl rfl ds_ ?_; clear hs hm a; rintro - w hm a hs)) | refine sc_ ?_)
          refine cMid (fun a w => ∃ (jA2 : Option Nat) (jc2 : Nat) (jcs2 : List Value), Row jA2 (x.r.js.length + 1) jc2 3 (x.r.js.flatMap jmV ++ jmV (x.r.code.length, x.line, l)) jcs2 ∧ Sl Tryz.f69.ntmps [(0, .pointer (some ⟨x.g, 0, none⟩))] a ∧ Mm S0 wB [⟨some x.g, 87, [slv cA2 (x.r.code.length + 1) cc2, slv x.sA x.r.ss.length x.sc, slv x.dA x.ws.length x.dc, .map (some x.m), slv jA2 (x.r.js.length + 1) jc2, .int .i64 (x.line : Int), .bool x.r.last]⟩, ⟨cA2, 54, ccs2⟩, ⟨x.sA, 3, x.scs⟩, ⟨x.dA, 56, x.dcs⟩, ⟨jA2, 90, jcs2⟩] w) ?_ ?_
          · skip
            refine cDraw (n := 11) [⟨some g14, 90, [.int .i64 (x.r.code.length : Int), .int .i64 (x.line : Int), txv l]⟩] hm rfl rfl ?_
            clear hm
            intro w2 hm
            refine hV_ 0 ?_; clear hs a; intro a hs
            refine hV_ 1 ?_; clear hs a; intro a hs
            refine hV_ 2 ?_; clear hs a; intro a hs
            refine hV_ 3 ?_; clear hs a; intro a hs
            refine hTake 5 hs rfl (by kernel_rfl) (Wnt.none rfl) rfl rfl (by intro w hm; replace hm : Mm _ _ _ w := hm; exact kl_) (hm.sub sub_) ?_; clear hs a; intro a hs
            refine hEach [4, 6] (by kernel_rfl) (eDo hs rfl (Wnt.none rfl) rfl rfl (RunV.does kv_) ?_ (eDo hs rfl (Wnt.none rfl) rfl rfl (by exact d_buildSlice hs rfl tab rfl rfl rfl rfl rfl rfl rfl rfl rfl hm) ?_ eNil))
            · skip
              clear hs a
              rintro _ _ ⟨rfl, rfl⟩ a hs
              refine ⟨hm.sub sub_, ?_⟩
              refine hEach [6] (by kernel_rfl) (eDo hs rfl (Wnt.none rfl) rfl rfl (by exact d_buildSlice hs rfl tab rfl rfl rfl rfl rfl rfl rfl rfl rfl hm) ?_ eNil)
              clear hs hm a
              rintro _ w26 ⟨g144, rfl, -, hm⟩ a hs
              refine ⟨hm.sub sub_, ?_⟩
              refine hEach [7] (by kernel_rfl) (eDo hs rfl (Wnt.none rfl) rfl rfl (d_append (A := x.jA) (n := x.r.js.length) (c := x.jc) (news := jmV (x.r.code.length, x.line, l)) hs rfl rfl rfl rfl rfl tab rfl rfl rfl rfl rfl hm mem_ hxj rfl (hm.ro (n := 3) mem_ (cutF_ok rfl)) rfl (by show (x.r.js.length + 1) * 32 ≤ _; omega) (by omega)) ?_ eNil)
              clear hs
              rintro _ w1 ⟨jA2, jc2, jcs2, rfl, hr7, hM⟩ a hs
              replace hm := hM _ rep_
              clear hM
              refine ⟨hm.sub sub_, ?_⟩
              refine hV_ 8 ?_; clear hs a; intro a hs
              refine hV_ 9 ?_; clear hs a; intro a hs
              refine hEach [10] (by kernel_rfl) (eDoN hs rfl (Wnt.none rfl) rfl ds_ ?_ eNil)
              clear hs hm
              rintro - w30 hm a hs
              refine ⟨hm.sub sub_, ?_⟩
              refine hDone (by kernel_rfl) ?_
              exact And.intro rfl ⟨jA2, jc2, jcs2, hr7, hs.sub (Has.all ⟨rfl, trivial⟩), hm.sub sub_⟩
            · skip
              clear hs hm a
              rintro _ w26 ⟨g144, rfl, -, hm⟩ a hs
              refine ⟨hm.sub sub_, ?_⟩
              refine hEach [4] (by kernel_rfl) (eDo hs rfl (Wnt.none rfl) rfl rfl (RunV.does kv_) ?_ eNil)
              clear hs a
              rintro _ _ ⟨rfl, rfl⟩ a hs
              refine ⟨hm.sub sub_, ?_⟩
              refine hEach [7] (by kernel_rfl) (eDo hs rfl (Wnt.none rfl) rfl rfl (d_append (A := x.jA) (n := x.r.js.length) (c := x.jc) (news := jmV (x.r.code.length, x.line, l)) hs rfl rfl rfl rfl rfl tab rfl rfl rfl rfl rfl hm mem_ hxj rfl (hm.ro (n := 3) mem_ (cutF_ok rfl)) rfl (by show (x.r.js.length + 1) * 32 ≤ _; omega) (by omega)) ?_ eNil)
              clear hs
              rintro _ w1 ⟨jA2, jc2, jcs2, rfl, hr7, hM⟩ a hs
              replace hm := hM _ rep_
              clear hM
              refine ⟨hm.sub sub_, ?_⟩
              refine hV_ 8 ?_; clear hs a; intro a hs
              refine hV_ 9 ?_; clear hs a; intro a hs
              refine hEach [10] (by kernel_rfl) (eDoN hs rfl (Wnt.none rfl) rfl ds_ ?_ eNil)
              clear hs hm
              rintro - w30 hm a hs
              refine ⟨hm.sub sub_, ?_⟩
              refine hDone (by kernel_rfl) ?_
              exact And.intro rfl ⟨jA2, jc2, jcs2, hr7, hs.sub (Has.all ⟨rfl, trivial⟩), hm.sub sub_⟩
          clear hs hm a
          rintro a w ⟨jA2, jc2, jcs2, hr7, hs, hm⟩
          have hfj : x.r.js.flatMap jmV ++ jmV (x.r.code.length, x.line, l) = (x.r.js ++ [(x.r.code.length, x.line, l)]).flatMap jmV := by rw [List.flatMap_append]; simp
          have l2 : (x.r.js ++ [(x.r.code.length, x.line, l)]).length = x.r.js.length + 1 := by rw [List.length_append]; rfl
          rw [hfj, ← l2] at hr7
          repeat (first | (refine ovXAss0_ ?_; clear hs a; intro a hs) | ((with_reducible apply lCons); first | (refine dv hs gw_ rfl rfl da_ ?_; clear hs hm a; rintro _ w ⟨g, rfl, -, hm⟩ a hs) | (refine stn hs rfl rfl ds_ ?_; clear hs hm a; rintro - w hm a hs)) | refine sc_ ?_)
          refine gRet1 hs rfl rfl ⟨_, rfl, rfl, hm.fr, fun _ => ?_⟩
          obtain ⟨y, hy⟩ : ∃ y : RdX, y = ⟨x.g, x.m, cA2, cc2, ccs2, x.sA, x.sc, x.scs, x.dA, x.dc, x.dcs, jA2, jc2, jcs2, x.ws, x.line, { x.r with code := x.r.code ++ [i], js := x.r.js ++ [(x.r.code.length, x.line, l)] }⟩ := ⟨_, rfl⟩
          have hmy : Mm S0 wB y.M w := by
            rw [hy]
            unfold RdX.M RdX.hd
            dsimp only
            rw [l1, l2]
            exact hm.sub sub_
          rw [← hS0] at hmy
          have key := RdX.fin h hmy (by rw [hy]) (by rw [hy]) (by rw [hy]) (by rw [hy]; exact hr8) (by rw [hy]; exact h.s) (by rw [hy]; exact h.d) (by rw [hy]; exact hr7) (by rw [hy]) (by rw [hy]) (by rw [hy]) (by rw [hy]; dsimp only; rw [l1, l2]; exact ⟨by omega, z2, z3, by omega, z5⟩)
          exact ⟨y, by rw [hy] at key ⊢; exact key⟩
end Go.Proofs.YtajkekhnfobgiaaGreatDoor

/- A drawn region goes on from a later world. -/
namespace Go.Proofs.YtajkekhnfobgiaaGreatDoor
set_option maxRecDepth 20000
open Go.RowKit

section
variable {P : Program} {a : Act} {w w0 : World} {S : Nat → Prop} {M M1 : List Hp} {Q : Exit → Act → World → Prop} {ops : Array Oper} {l : Array Bool} {n : Nat}
theorem wpAnyH_imp {Q : Exit → Act → World → Prop} {A B : World → Prop} (h : ∀ w, B w → A w) : ∀ (n : Nat) (l : Array Bool) (a : Act) (w : World), wpAnyH P .any ops Q B n l a w → wpAnyH P .any ops Q A n l a w
  | 0, _, _, _, hB => hB
  | n + 1, _, _, _, hB => ⟨hB.1, fun i hi => wpOp_mono (fun _ _ hk => ⟨h _ hk.1, wpAnyH_imp h n _ _ _ hk.2⟩) (hB.2 i hi)⟩
theorem hRebase (hm : Mm S w0 M w) (k : Drawn P ops Q (fun w' => Mm (own M) w M1 w') n l a w) : Drawn P ops Q (fun w' => Mm S w0 M1 w') n l a w :=
  ⟨wpAnyH_imp (fun _ h => hm.trans h) n l a w k.h⟩
end
end Go.Proofs.YtajkekhnfobgiaaGreatDoor

/- A line, by the program. -/
namespace Go.Proofs.YtajkekhnfobgiaaGreatDoor
set_option maxRecDepth 20000
open Go.RowKit
theorem ovXAst0_ {G H : Prop} (k : H) (s : H → G := by intro k; (with_reducible refine toL hm ?_); first | exact oneV hs gw_ rfl rfl (by intro w hm; (first | exact kv_ | exact ksl_)) k | exact oneN hs rfl rfl rfl rfl rfl rfl rfl k | exact oneU hs rfl rfl rfl rfl rfl rfl k) : G := s k

theorem split_n (c : UInt8) (l : List UInt8) (w : World) (hl : l.length < 4294967281) (ht : TW w) : Ret Tryz.prog 18 [txv l, txv [c]] w (fun u w' => ∃ r : SS, u = r.v ∧ r.ok w' ∧ r.xs = spl c l ∧ Pu w w' ∧ ∀ a, r.A = some a → w.heap.size ≤ a.block) := by
  obtain ⟨m, hm⟩ := ht.mxl
  refine ⟨Calls.mono (Tryz.strings_Split ⟨l.toArray⟩ ⟨[c].toArray⟩ m w (by rw [ba_s]; exact hl) hm (by rw [ba_s]; exact Nat.le_refl 1)) ?_⟩
  rintro e w' ⟨rfl, rfl⟩
  rw [splitB_spl, ← spl_len c l]
  exact ⟨_, rfl, ⟨some ⟨w.heap.size, 0, none⟩, (spl c l).length, spl c l⟩, rfl, ss_new w _ _ (Nat.le_refl _), rfl, (Fr.refl _ w).alloc _, fun a e => by cases e; exact Nat.le_refl _⟩
theorem Mm.far {S : Nat → Prop} {w0 w w' : World} {M : List Hp} {g : Nat} (hm : Mm S w0 M w) (hf : Fr (fun k => k = g) w w') (hg : S g) (hM : ∀ h ∈ M, h.g ≠ some g) : Mm S w0 M w' :=
  ⟨fun x hx => Hp.sat_fr hf (hm.me x hx) (fun k hk (e : k = g) => hM x hx (by rw [hk, e])), hm.fr.then hf (fun i _ (e : i = g) => e ▸ hg), hm.dj, hm.ow⟩
theorem Mm.wide {S T : Nat → Prop} {w0 w : World} {M : List Hp} (hm : Mm S w0 M w) (h : ∀ i, S i → T i) : Mm T w0 M w :=
  ⟨hm.me, hm.fr.mono (fun i _ t => h i t), hm.dj, fun x hx g hg => (hm.ow x hx g hg).imp id (h g)⟩
theorem RdN.trans {x y z : RdX} {wB w w' : World} {r r' : RdS} (h : RdN x wB w r y) (k : RdN y w w' r' z) (hs : wB.heap.size ≤ w.heap.size) : RdN x wB w' r' z :=
  ⟨k.g.trans h.g, k.m.trans h.m, k.l.trans h.l, k.r, k.ok, fun i hi => by
    rcases k.nw i hi with h1 | h1
    · exact h.nw i h1
    · exact .inr (Nat.le_trans hs h1)⟩
theorem RdX.ok.lt {x : RdX} {w : World} (h : x.ok w) {i : Nat} (hi : own x.M i) : i < w.heap.size := by
  obtain ⟨z, hz, e⟩ := hi
  exact Hp.lt (h.mm.me z hz) e
theorem RdX.same {x : RdX} {wB w : World} (h : x.ok wB) (hm : Mm (own x.M) wB x.M w) : RdN x wB w x.r x :=
  RdX.fin h hm rfl rfl rfl h.c h.s h.d h.j rfl rfl rfl h.sz
theorem any_atL (n : Tx) : ∀ lab : List (Tx × Nat), lab.any (fun x => decide (x.1 = n)) = (atL lab n).isSome
  | [] => rfl
  | (k, v) :: t => by
    rw [List.any_cons, any_atL n t, atL_cons]
    by_cases h : k = n
    · simp [h]
    · simp [h]
theorem cDrawP {P : Program} {Q : Exit → Act → World → Prop} {a : Act} {w w0 : World} {S : Nat → Prop} {M : List Hp} {ops : Array Oper} {n id : Nat} (M1 : List Hp) (hm : Mm S w0 M w) (hf : P.follows .mixedOrders = true) (hn : ops.size = n) (k : ∀ w', Mm S w0 M w' → Pu w w' → Drawn P ops Q (fun w' => Mm S w0 M1 w') n (Array.replicate n false) a w') : (Code.region id ops true).wp P Q a w := by
  refine wp_region_noPanic (wp_region_held (S := fun w' => Mm S w0 M1 w') hf ?_)
  rw [hn]
  exact (k _ hm.drew (Fr.refl _ w).drew).h
theorem RdX.own_iff {x : RdX} {i : Nat} : own x.M i ↔ some x.g = some i ∨ x.cA = some i ∨ x.sA = some i ∨ x.dA = some i ∨ x.jA = some i := by
  unfold own RdX.M RdX.hd
  simp
theorem RdN.pu {x y : RdX} {wB w w' : World} {r : RdS} (h : RdN x wB w r y) (hf : Pu w w') : RdN x wB w' r y := by
  have k := RdX.same h.ok (h.ok.mm.pu hf)
  exact ⟨h.g, h.m, h.l, h.r, k.ok, h.nw⟩
theorem ow_lt {S : Nat → Prop} {w0 w : World} {M : List Hp} (hm : Mm S w0 M w) {i : Nat} (hi : own M i) : i < w.heap.size := by
  obtain ⟨z, hz, e⟩ := hi
  exact Hp.lt (hm.me z hz) e
theorem spl_mem_le (c : UInt8) : ∀ (l : Tx) (t : Tx), t ∈ spl c l → t.length ≤ l.length
  | [], t, h => by rcases List.mem_singleton.1 h with rfl; exact Nat.le_refl _
  | b :: l, t, h => by
    rw [spl_cons] at h
    split at h
    · rcases List.mem_cons.1 h with rfl | h
      · exact Nat.zero_le _
      · have := spl_mem_le c l t h
        rw [List.length_cons]; omega
    · cases hs : spl c l with
      | nil => exact absurd hs (spl_ne c l)
      | cons x r =>
        rw [hs] at h
        dsimp only at h
        rcases List.mem_cons.1 h with rfl | h
        · have := spl_mem_le c l x (by rw [hs]; exact List.mem_cons_self ..)
          rw [List.length_cons, List.length_cons]; omega
        · have := spl_mem_le c l t (by rw [hs]; exact List.mem_cons_of_mem _ h)
          rw [List.length_cons]; omega
theorem spl_cnt_le (c : UInt8) : ∀ l : Tx, (spl c l).length ≤ l.length + 1
  | [] => Nat.le_refl _
  | b :: l => by
    have h1 := spl_cnt_le c l
    rw [spl_cons]
    split
    · rw [List.length_cons, List.length_cons]; omega
    · cases hs : spl c l with
      | nil => exact absurd hs (spl_ne c l)
      | cons x r =>
        rw [hs, List.length_cons] at h1
        dsimp only
        rw [List.length_cons, List.length_cons]; omega
theorem idxF_lt (w : Tx) : ∀ (xs : List Tx) (k n : Nat), idxF w xs k = some n → n < k + xs.length
  | [], _, _, h => by cases h
  | x :: t, k, n, h => by
    unfold idxF at h
    split at h
    · cases h; rw [List.length_cons]; omega
    · have := idxF_lt w t (k + 1) n h
      rw [List.length_cons]; omega
set_option maxHeartbeats 32000000 in
theorem read_c (x : RdX) (s : Tx) (wB : World) (h : x.ok wB) (hl : s.length ≤ 4500) (hlb : x.r.lab.length < 5000) (ht : ∀ w', Fr x.D wB w' → TW w') :
    Ret Tryz.prog 45 [.pointer (some ⟨x.g, 0, none⟩), txv s] wB (fun u w' => ∃ e : Int, u = .int .i64 e ∧ e = (rdF x.r s x.line).2 ∧ Fr x.D wB w' ∧ (e = 0 → ∃ y, RdN x wB w' (rdF x.r s x.line).1 y)) := by
  have hm0 : Mm (own x.M) wB [⟨some x.g, 87, [slv x.cA x.r.code.length x.cc, slv x.sA x.r.ss.length x.sc, slv x.dA x.ws.length x.dc, .map (some x.m), slv x.jA x.r.js.length x.jc, .int .i64 (x.line : Int), .bool x.r.last]⟩, ⟨x.cA, 54, x.ccs⟩, ⟨x.sA, 3, x.scs⟩, ⟨x.dA, 56, x.dcs⟩, ⟨x.jA, 90, x.jcs⟩] wB := h.mm
  have hcs := fun w => cuts_c s [58] w (by omega)
  refine enterR Tryz.func45 rfl rfl rfl fun a hs hm => ?_
  clear hm
  have hm := hm0
  clear hm0
  obtain ⟨x1, hx1⟩ : ∃ x1 : RdX, x1 = { x with r := { x.r with last := false } } := ⟨_, rfl⟩
  have hx1g : x1.g = x.g := by rw [hx1]
  have hx1M : x1.M = [⟨some x.g, 87, [slv x.cA x.r.code.length x.cc, slv x.sA x.r.ss.length x.sc, slv x.dA x.ws.length x.dc, .map (some x.m), slv x.jA x.r.js.length x.jc, .int .i64 (x.line : Int), .bool false]⟩, ⟨x.cA, 54, x.ccs⟩, ⟨x.sA, 3, x.scs⟩, ⟨x.dA, 56, x.dcs⟩, ⟨x.jA, 90, x.jcs⟩] := by rw [hx1]; rfl
  repeat (first | (refine ovXAst0_ ?_; clear hs a; intro a hs) | ((with_reducible apply lCons); first | (refine dv hs gw_ rfl rfl da_ ?_; clear hs hm a; rintro _ w ⟨g, rfl, -, hm⟩ a hs) | (refine stn hs rfl rfl ds_ ?_; clear hs hm a; rintro - w hm a hs) | (refine dvc hs hm gw_ rfl rfl rfl rfl rfl (pl 65 rfl) (hcs _) ?_; clear hs hm a; intro w hm a hs)) | refine sc_ ?_)
  cases hsx : [58].isSuffixOf s
  · rw [hsx] at hs
    have hL : labF s = none := by unfold labF; rw [hsx]; rfl
    repeat (first | (refine ovXAst0_ ?_; clear hs a; intro a hs) | ((with_reducible apply lCons); first | (refine dv hs gw_ rfl rfl da_ ?_; clear hs hm a; rintro _ w ⟨g, rfl, -, hm⟩ a hs) | (refine stn hs rfl rfl ds_ ?_; clear hs hm a; rintro - w hm a hs)) | refine sc_ ?_)
    have hR : rdF x.r s x.line = if (spl 32 s).headD [] = rgN then regF x1.r (spl 32 s).tail else match idxF ((spl 32 s).headD []) nmL 0 with | none => (x1.r, 2) | some op => insF x1.r (op : Int) (spl 32 s).tail x1.line := by
      rw [hx1]
      unfold rdF
      rw [hL]
      rfl
    have htw := ht _ (hm.fr.mono fun i _ t => .inl t)
    have hlt1 := fun i (hi : own x1.M i) => ow_lt hm (hx1M ▸ hi)
    refine st hs rfl rfl rfl (d_call hs rfl rfl rfl (pl 18 rfl) ((split_n 32 s _ (by omega) htw))) ?_; clear hs a; rintro _ w2 ⟨⟨A, c, xs⟩, rfl, hr, hx, hf, hnw⟩ a hs
    replace hm := hm.pu hf
    clear hf htw
    dsimp only at hx hnw
    subst hx
    have k1 : RdN x wB w2 x1.r x1 := RdX.fin h (by rw [hx1M]; exact hm) (by rw [hx1]) (by rw [hx1]) (by rw [hx1]) (by rw [hx1]; exact h.c) (by rw [hx1]; exact h.s) (by rw [hx1]; exact h.d) (by rw [hx1]; exact h.j) (by rw [hx1]) (by rw [hx1]) (by rw [hx1]) (by rw [hx1]; exact h.sz)
    have hF2 := hm.fr
    have hsz2 := hF2.size
    clear hm
    have hm := Mm.nil (fun _ => False) w2
    have k1M : ∀ i, own x1.M i → i < wB.heap.size → own x.M i := fun i hi hlt => by
      rcases k1.nw i (.inl hi) with h1 | h1
      · rcases h1 with h1 | h1
        · exact h1
        · rw [h1, ← k1.m] at hi; exact absurd hi k1.ok.nm
      · omega
    unfold SS.v at hs
    dsimp only at hs
    cases hsp : spl 32 s with
    | nil => exact absurd hsp (spl_ne 32 s)
    | cons wd wds_ =>
      have hlen : ∀ t ∈ wd :: wds_, t.length ≤ 5000 := fun t ht_ => by
        have := spl_mem_le 32 s t (by rw [hsp]; exact ht_)
        omega
      have hcnt : wds_.length ≤ 5000 := by
        have := spl_cnt_le 32 s
        rw [hsp, List.length_cons] at this
        omega
      rw [hsp] at hs hr hR
      replace hR : rdF x.r s x.line = if wd = rgN then regF x1.r wds_ else match idxF wd nmL 0 with | none => (x1.r, 2) | some op => insF x1.r (op : Int) wds_ x1.line := hR
      obtain ⟨b1, o1, rfl, hb1, r1⟩ := hr.2.ro (by show 0 < ((wd :: wds_).map txv).length; rw [List.length_map]; exact Nat.succ_pos _)
      have hbl : (wd :: wds_).length ≤ c := hr.1
      have hb1n : ¬ own x1.M b1 := fun hi => by
        have h1 := hlt1 _ hi
        have h2 := hnw _ rfl
        dsimp only at h2
        omega
      have hl1 : (wd :: wds_).length = wds_.length + 1 := rfl
      have e1 : ((wd :: wds_).map txv)[0]? = some (txv wd) := rfl
      have hA1 : (if c = (1 : Int).toNat then some ⟨b1, o1, none⟩ else (some ⟨b1, o1, none⟩ : Option Addr).map (·.add ((1 : Int).toNat * 1))) = (if c = 1 then some ⟨b1, o1, none⟩ else some ⟨b1, o1 + 1, none⟩) := by
        show (if c = 1 then _ else _) = _
        split <;> rfl
      have htl : Rd w2 w2.heap.size (if c = 1 then some ⟨b1, o1, none⟩ else some ⟨b1, o1 + 1, none⟩) (wds_.map txv) := wd_tail hr.2 hbl
      dsimp only at r1
      repeat (first | (refine ovXAst0_ ?_; clear hs a; intro a hs) | ((with_reducible apply lCons); first | (refine dv hs gw_ rfl rfl da_ ?_; clear hs hm a; rintro _ w ⟨g, rfl, -, hm⟩ a hs) | (refine stn hs rfl rfl ds_ ?_; clear hs hm a; rintro - w hm a hs)) | refine sc_ ?_)
      by_cases hrg : wd = rgN
      · rw [if_pos hrg] at hR
        have hse := sEqT hrg
        unfold rgN at hse
        rw [hse] at hs
        repeat (first | (refine ovXAst0_ ?_; clear hs a; intro a hs) | ((with_reducible apply lCons); first | (refine dv hs gw_ rfl rfl da_ ?_; clear hs hm a; rintro _ w ⟨g, rfl, -, hm⟩ a hs) | (refine stn hs rfl rfl ds_ ?_; clear hs hm a; rintro - w hm a hs)) | refine sc_ ?_)
        rw [hA1] at hs
        have hc := reg_c x1 (if c = 1 then some ⟨b1, o1, none⟩ else some ⟨b1, o1 + 1, none⟩) (c - 1) wds_ _ ((k1.pu hm.fr).ok) (hm.fr.rd' htl) (wd_tailA hb1n) (fun t ht_ => hlen t (List.mem_cons_of_mem _ ht_)) hcnt
        rw [hx1g] at hc
        refine st hs rfl rfl rfl (d_call hs rfl rfl rfl (pl 67 rfl) (hc)) ?_; clear hs a; rintro _ w3 ⟨e, rfl, he, hfr, hy⟩ a hs
        have hk := (k1.pu hm.fr)
        have hszm := hm.fr.size
        have hF3 : Fr x.D wB w3 := ((hF2.pu hm.fr).then hfr (fun i hi hi2 => k1M i hi2 hi)).mono (fun i _ t => .inl t)
        clear hm
        have hm := Mm.nil (fun _ => False) w3
        repeat (first | (refine ovXAst0_ ?_; clear hs a; intro a hs) | ((with_reducible apply lCons); first | (refine dv hs gw_ rfl rfl da_ ?_; clear hs hm a; rintro _ w ⟨g, rfl, -, hm⟩ a hs) | (refine stn hs rfl rfl ds_ ?_; clear hs hm a; rintro - w hm a hs)) | refine sc_ ?_)
        rw [hR]
        refine gRet1 hs rfl rfl ⟨e, rfl, he, hF3.pu hm.fr, fun e0 => ?_⟩
        obtain ⟨y, hy⟩ := hy e0
        exact ⟨y, (hk.trans hy (by omega)).pu hm.fr⟩
      · rw [if_neg hrg] at hR
        have hse := sEqF hrg
        unfold rgN at hse
        rw [hse] at hs
        repeat (first | (refine ovXAst0_ ?_; clear hs a; intro a hs) | ((with_reducible apply lCons); first | (refine dv hs gw_ rfl rfl da_ ?_; clear hs hm a; rintro _ w ⟨g, rfl, -, hm⟩ a hs) | (refine stn hs rfl rfl ds_ ?_; clear hs hm a; rintro - w hm a hs)) | refine sc_ ?_)
        have htw := ht _ ((hF2.pu hm.fr).mono fun i _ t => .inl t)
        refine cMid (fun a w => Sl Tryz.f45.ntmps [(0, .pointer (some ⟨x.g, 0, none⟩)), (9, .slice (some ⟨b1, o1, none⟩) (wd :: wds_).length c), (10, .int .i64 (((idxF wd nmL 0).map fun k : Nat => (k : Int)).getD (-1)))] a ∧ Pu w2 w) ?_ ?_
        · skip
          refine cDrawP (n := 6) [] hm rfl rfl ?_
          clear hm
          intro w2 hm hdr
          have htw2 := htw.pu hdr
          refine hV_ 1 ?_; clear hs a; intro a hs
          refine hTake 2 hs rfl (by kernel_rfl) (Wnt.none rfl) rfl rfl (by intro w hm; replace hm : Mm _ _ _ w := hm; (first | exact r_iz hs tab rfl rfl (by omega) | exact r_iy hs tab rfl rfl (by omega))) (hm.sub (List.nil_sublist _)) ?_; clear hs a; intro a hs
          refine hTake 3 hs rfl (by kernel_rfl) (Wnt.none rfl) rfl rfl (by intro w hm; replace hm : Mm _ _ _ w := hm; exact kl_) (hm.sub (List.nil_sublist _)) ?_; clear hs a; intro a hs
          refine hEach [0] (by kernel_rfl) (eDo hs rfl (Wnt.none rfl) rfl rfl (by exact d_call hs rfl rfl rfl (pl 41 rfl) ((fields_c nmS _ (by decide) nm_ascii htw2))) ?_ eNil)
          clear hs
          rintro _ w1 ⟨⟨A0, c0, ys⟩, rfl, hr0, hx0, hf⟩ a hs
          replace hm := hm.pu hf
          clear hf
          dsimp only at hx0
          rw [nm_fields] at hx0
          subst hx0
          refine ⟨hm.sub sub_, ?_⟩
          refine hEach [4] (by kernel_rfl) (eDo hs rfl (Wnt.none rfl) rfl rfl (by exact d_call hs rfl rfl rfl (pl 68 rfl) ((idx_c ⟨A0, c0, nmL⟩ wd _ hr0 (by show 25 ≤ 1000000; omega)))) ?_ eNil)
          clear hs
          rintro _ w1 ⟨rfl, hf⟩ a hs
          replace hm := hm.pu hf
          clear hf
          refine ⟨hm.sub sub_, ?_⟩
          refine hV_ 5 ?_; clear hs a; intro a hs
          refine hDone (by kernel_rfl) ?_
          exact And.intro rfl ⟨hs.sub (Has.all ⟨rfl, rfl, rfl, trivial⟩), hm.fr⟩
        clear hs hm a
        rintro a w4 ⟨hs, hf4⟩
        have hm := (Mm.nil (fun _ => False) w2).pu hf4
        cases hid : idxF wd nmL 0 with
        | none =>
          rw [hid] at hs hR
          have hs2 : Sl Tryz.f45.ntmps [(10, .int .i64 (-1)), (0, .pointer (some ⟨x.g, 0, none⟩))] a := hs.sub (Has.all ⟨rfl, rfl, trivial⟩)
          clear hs
          have hs := hs2
          clear hs2
          repeat (first | (refine ovXAst0_ ?_; clear hs a; intro a hs) | ((with_reducible apply lCons); first | (refine dv hs gw_ rfl rfl da_ ?_; clear hs hm a; rintro _ w ⟨g, rfl, -, hm⟩ a hs) | (refine stn hs rfl rfl ds_ ?_; clear hs hm a; rintro - w hm a hs)) | refine sc_ ?_)
          rw [hR]
          exact gRet1 hs rfl rfl ⟨2, rfl, rfl, (hF2.pu hm.fr).mono (fun i _ t => .inl t), (fun e => by cases e)⟩
        | some op =>
          rw [hid] at hs hR
          have hs2 : Sl Tryz.f45.ntmps [(10, .int .i64 (op : Int)), (0, .pointer (some ⟨x.g, 0, none⟩)), (9, .slice (some ⟨b1, o1, none⟩) (wd :: wds_).length c)] a := hs.sub (Has.all ⟨rfl, rfl, rfl, trivial⟩)
          clear hs
          have hs := hs2
          clear hs2
          have hop := idxF_lt _ _ _ _ hid
          have hop2 : op < 25 := hop
          dsimp only at hR
          repeat (first | (refine ovXAst0_ ?_; clear hs a; intro a hs) | ((with_reducible apply lCons); first | (refine dv hs gw_ rfl rfl da_ ?_; clear hs hm a; rintro _ w ⟨g, rfl, -, hm⟩ a hs) | (refine stn hs rfl rfl ds_ ?_; clear hs hm a; rintro - w hm a hs)) | refine sc_ ?_)
          rw [hA1] at hs
          have hc := inst_c x1 (op : Int) (if c = 1 then some ⟨b1, o1, none⟩ else some ⟨b1, o1 + 1, none⟩) (c - 1) wds_ _ ((k1.pu hm.fr).ok) (by rw [hl1] at hbl; omega) (hm.fr.rd' htl) (wd_tailA hb1n) (fun t ht_ => hlen t (List.mem_cons_of_mem _ ht_))
          rw [hx1g] at hc
          refine st hs rfl rfl rfl (d_call hs rfl rfl rfl (pl 69 rfl) (hc)) ?_; clear hs a; rintro _ w3 ⟨e, rfl, he, hfr, hy⟩ a hs
          have hk := (k1.pu hm.fr)
          have hszm := hm.fr.size
          have hF3 : Fr x.D wB w3 := ((hF2.pu hm.fr).then hfr (fun i hi hi2 => k1M i hi2 hi)).mono (fun i _ t => .inl t)
          clear hm
          have hm := Mm.nil (fun _ => False) w3
          repeat (first | (refine ovXAst0_ ?_; clear hs a; intro a hs) | ((with_reducible apply lCons); first | (refine dv hs gw_ rfl rfl da_ ?_; clear hs hm a; rintro _ w ⟨g, rfl, -, hm⟩ a hs) | (refine stn hs rfl rfl ds_ ?_; clear hs hm a; rintro - w hm a hs)) | refine sc_ ?_)
          rw [hR]
          refine gRet1 hs rfl rfl ⟨e, rfl, he, hF3.pu hm.fr, fun e0 => ?_⟩
          obtain ⟨y, hy⟩ := hy e0
          exact ⟨y, (hk.trans hy (by omega)).pu hm.fr⟩
  rw [hsx] at hs
  have htr : Lib.trimSuffix s [58] = s.take (s.length - 1) := by unfold Lib.trimSuffix Lib.hasSuffix; rw [hsx]; rfl
  have hnc := fun w => nm_c (Lib.trimSuffix s [58]) w (by rw [htr, List.length_take]; omega)
  cases hnm : nmB (Lib.trimSuffix s [58])
  · rw [hnm] at hnc
    have hL : labF s = none := by unfold labF; rw [hsx, ← htr, hnm]; rfl
    repeat (first | (refine ovXAst0_ ?_; clear hs a; intro a hs) | ((with_reducible apply lCons); first | (refine dv hs gw_ rfl rfl da_ ?_; clear hs hm a; rintro _ w ⟨g, rfl, -, hm⟩ a hs) | (refine stn hs rfl rfl ds_ ?_; clear hs hm a; rintro - w hm a hs) | (refine dvc hs hm gw_ rfl rfl rfl rfl rfl (pl 66 rfl) (hnc _) ?_; clear hs hm a; intro w hm a hs)) | refine sc_ ?_)
    have hR : rdF x.r s x.line = if (spl 32 s).headD [] = rgN then regF x1.r (spl 32 s).tail else match idxF ((spl 32 s).headD []) nmL 0 with | none => (x1.r, 2) | some op => insF x1.r (op : Int) (spl 32 s).tail x1.line := by
      rw [hx1]
      unfold rdF
      rw [hL]
      rfl
    have htw := ht _ (hm.fr.mono fun i _ t => .inl t)
    have hlt1 := fun i (hi : own x1.M i) => ow_lt hm (hx1M ▸ hi)
    refine st hs rfl rfl rfl (d_call hs rfl rfl rfl (pl 18 rfl) ((split_n 32 s _ (by omega) htw))) ?_; clear hs a; rintro _ w2 ⟨⟨A, c, xs⟩, rfl, hr, hx, hf, hnw⟩ a hs
    replace hm := hm.pu hf
    clear hf htw
    dsimp only at hx hnw
    subst hx
    have k1 : RdN x wB w2 x1.r x1 := RdX.fin h (by rw [hx1M]; exact hm) (by rw [hx1]) (by rw [hx1]) (by rw [hx1]) (by rw [hx1]; exact h.c) (by rw [hx1]; exact h.s) (by rw [hx1]; exact h.d) (by rw [hx1]; exact h.j) (by rw [hx1]) (by rw [hx1]) (by rw [hx1]) (by rw [hx1]; exact h.sz)
    have hF2 := hm.fr
    have hsz2 := hF2.size
    clear hm
    have hm := Mm.nil (fun _ => False) w2
    have k1M : ∀ i, own x1.M i → i < wB.heap.size → own x.M i := fun i hi hlt => by
      rcases k1.nw i (.inl hi) with h1 | h1
      · rcases h1 with h1 | h1
        · exact h1
        · rw [h1, ← k1.m] at hi; exact absurd hi k1.ok.nm
      · omega
    unfold SS.v at hs
    dsimp only at hs
    cases hsp : spl 32 s with
    | nil => exact absurd hsp (spl_ne 32 s)
    | cons wd wds_ =>
      have hlen : ∀ t ∈ wd :: wds_, t.length ≤ 5000 := fun t ht_ => by
        have := spl_mem_le 32 s t (by rw [hsp]; exact ht_)
        omega
      have hcnt : wds_.length ≤ 5000 := by
        have := spl_cnt_le 32 s
        rw [hsp, List.length_cons] at this
        omega
      rw [hsp] at hs hr hR
      replace hR : rdF x.r s x.line = if wd = rgN then regF x1.r wds_ else match idxF wd nmL 0 with | none => (x1.r, 2) | some op => insF x1.r (op : Int) wds_ x1.line := hR
      obtain ⟨b1, o1, rfl, hb1, r1⟩ := hr.2.ro (by show 0 < ((wd :: wds_).map txv).length; rw [List.length_map]; exact Nat.succ_pos _)
      have hbl : (wd :: wds_).length ≤ c := hr.1
      have hb1n : ¬ own x1.M b1 := fun hi => by
        have h1 := hlt1 _ hi
        have h2 := hnw _ rfl
        dsimp only at h2
        omega
      have hl1 : (wd :: wds_).length = wds_.length + 1 := rfl
      have e1 : ((wd :: wds_).map txv)[0]? = some (txv wd) := rfl
      have hA1 : (if c = (1 : Int).toNat then some ⟨b1, o1, none⟩ else (some ⟨b1, o1, none⟩ : Option Addr).map (·.add ((1 : Int).toNat * 1))) = (if c = 1 then some ⟨b1, o1, none⟩ else some ⟨b1, o1 + 1, none⟩) := by
        show (if c = 1 then _ else _) = _
        split <;> rfl
      have htl : Rd w2 w2.heap.size (if c = 1 then some ⟨b1, o1, none⟩ else some ⟨b1, o1 + 1, none⟩) (wds_.map txv) := wd_tail hr.2 hbl
      dsimp only at r1
      repeat (first | (refine ovXAst0_ ?_; clear hs a; intro a hs) | ((with_reducible apply lCons); first | (refine dv hs gw_ rfl rfl da_ ?_; clear hs hm a; rintro _ w ⟨g, rfl, -, hm⟩ a hs) | (refine stn hs rfl rfl ds_ ?_; clear hs hm a; rintro - w hm a hs)) | refine sc_ ?_)
      by_cases hrg : wd = rgN
      · rw [if_pos hrg] at hR
        have hse := sEqT hrg
        unfold rgN at hse
        rw [hse] at hs
        repeat (first | (refine ovXAst0_ ?_; clear hs a; intro a hs) | ((with_reducible apply lCons); first | (refine dv hs gw_ rfl rfl da_ ?_; clear hs hm a; rintro _ w ⟨g, rfl, -, hm⟩ a hs) | (refine stn hs rfl rfl ds_ ?_; clear hs hm a; rintro - w hm a hs)) | refine sc_ ?_)
        rw [hA1] at hs
        have hc := reg_c x1 (if c = 1 then some ⟨b1, o1, none⟩ else some ⟨b1, o1 + 1, none⟩) (c - 1) wds_ _ ((k1.pu hm.fr).ok) (hm.fr.rd' htl) (wd_tailA hb1n) (fun t ht_ => hlen t (List.mem_cons_of_mem _ ht_)) hcnt
        rw [hx1g] at hc
        refine st hs rfl rfl rfl (d_call hs rfl rfl rfl (pl 67 rfl) (hc)) ?_; clear hs a; rintro _ w3 ⟨e, rfl, he, hfr, hy⟩ a hs
        have hk := (k1.pu hm.fr)
        have hszm := hm.fr.size
        have hF3 : Fr x.D wB w3 := ((hF2.pu hm.fr).then hfr (fun i hi hi2 => k1M i hi2 hi)).mono (fun i _ t => .inl t)
        clear hm
        have hm := Mm.nil (fun _ => False) w3
        repeat (first | (refine ovXAst0_ ?_; clear hs a; intro a hs) | ((with_reducible apply lCons); first | (refine dv hs gw_ rfl rfl da_ ?_; clear hs hm a; rintro _ w ⟨g, rfl, -, hm⟩ a hs) | (refine stn hs rfl rfl ds_ ?_; clear hs hm a; rintro - w hm a hs)) | refine sc_ ?_)
        rw [hR]
        refine gRet1 hs rfl rfl ⟨e, rfl, he, hF3.pu hm.fr, fun e0 => ?_⟩
        obtain ⟨y, hy⟩ := hy e0
        exact ⟨y, (hk.trans hy (by omega)).pu hm.fr⟩
      · rw [if_neg hrg] at hR
        have hse := sEqF hrg
        unfold rgN at hse
        rw [hse] at hs
        repeat (first | (refine ovXAst0_ ?_; clear hs a; intro a hs) | ((with_reducible apply lCons); first | (refine dv hs gw_ rfl rfl da_ ?_; clear hs hm a; rintro _ w ⟨g, rfl, -, hm⟩ a hs) | (refine stn hs rfl rfl ds_ ?_; clear hs hm a; rintro - w hm a hs)) | refine sc_ ?_)
        have htw := ht _ ((hF2.pu hm.fr).mono fun i _ t => .inl t)
        refine cMid (fun a w => Sl Tryz.f45.ntmps [(0, .pointer (some ⟨x.g, 0, none⟩)), (9, .slice (some ⟨b1, o1, none⟩) (wd :: wds_).length c), (10, .int .i64 (((idxF wd nmL 0).map fun k : Nat => (k : Int)).getD (-1)))] a ∧ Pu w2 w) ?_ ?_
        · skip
          refine cDrawP (n := 6) [] hm rfl rfl ?_
          clear hm
          intro w2 hm hdr
          have htw2 := htw.pu hdr
          refine hV_ 1 ?_; clear hs a; intro a hs
          refine hTake 2 hs rfl (by kernel_rfl) (Wnt.none rfl) rfl rfl (by intro w hm; replace hm : Mm _ _ _ w := hm; (first | exact r_iz hs tab rfl rfl (by omega) | exact r_iy hs tab rfl rfl (by omega))) (hm.sub (List.nil_sublist _)) ?_; clear hs a; intro a hs
          refine hTake 3 hs rfl (by kernel_rfl) (Wnt.none rfl) rfl rfl (by intro w hm; replace hm : Mm _ _ _ w := hm; exact kl_) (hm.sub (List.nil_sublist _)) ?_; clear hs a; intro a hs
          refine hEach [0] (by kernel_rfl) (eDo hs rfl (Wnt.none rfl) rfl rfl (by exact d_call hs rfl rfl rfl (pl 41 rfl) ((fields_c nmS _ (by decide) nm_ascii htw2))) ?_ eNil)
          clear hs
          rintro _ w1 ⟨⟨A0, c0, ys⟩, rfl, hr0, hx0, hf⟩ a hs
          replace hm := hm.pu hf
          clear hf
          dsimp only at hx0
          rw [nm_fields] at hx0
          subst hx0
          refine ⟨hm.sub sub_, ?_⟩
          refine hEach [4] (by kernel_rfl) (eDo hs rfl (Wnt.none rfl) rfl rfl (by exact d_call hs rfl rfl rfl (pl 68 rfl) ((idx_c ⟨A0, c0, nmL⟩ wd _ hr0 (by show 25 ≤ 1000000; omega)))) ?_ eNil)
          clear hs
          rintro _ w1 ⟨rfl, hf⟩ a hs
          replace hm := hm.pu hf
          clear hf
          refine ⟨hm.sub sub_, ?_⟩
          refine hV_ 5 ?_; clear hs a; intro a hs
          refine hDone (by kernel_rfl) ?_
          exact And.intro rfl ⟨hs.sub (Has.all ⟨rfl, rfl, rfl, trivial⟩), hm.fr⟩
        clear hs hm a
        rintro a w4 ⟨hs, hf4⟩
        have hm := (Mm.nil (fun _ => False) w2).pu hf4
        cases hid : idxF wd nmL 0 with
        | none =>
          rw [hid] at hs hR
          have hs2 : Sl Tryz.f45.ntmps [(10, .int .i64 (-1)), (0, .pointer (some ⟨x.g, 0, none⟩))] a := hs.sub (Has.all ⟨rfl, rfl, trivial⟩)
          clear hs
          have hs := hs2
          clear hs2
          repeat (first | (refine ovXAst0_ ?_; clear hs a; intro a hs) | ((with_reducible apply lCons); first | (refine dv hs gw_ rfl rfl da_ ?_; clear hs hm a; rintro _ w ⟨g, rfl, -, hm⟩ a hs) | (refine stn hs rfl rfl ds_ ?_; clear hs hm a; rintro - w hm a hs)) | refine sc_ ?_)
          rw [hR]
          exact gRet1 hs rfl rfl ⟨2, rfl, rfl, (hF2.pu hm.fr).mono (fun i _ t => .inl t), (fun e => by cases e)⟩
        | some op =>
          rw [hid] at hs hR
          have hs2 : Sl Tryz.f45.ntmps [(10, .int .i64 (op : Int)), (0, .pointer (some ⟨x.g, 0, none⟩)), (9, .slice (some ⟨b1, o1, none⟩) (wd :: wds_).length c)] a := hs.sub (Has.all ⟨rfl, rfl, rfl, trivial⟩)
          clear hs
          have hs := hs2
          clear hs2
          have hop := idxF_lt _ _ _ _ hid
          have hop2 : op < 25 := hop
          dsimp only at hR
          repeat (first | (refine ovXAst0_ ?_; clear hs a; intro a hs) | ((with_reducible apply lCons); first | (refine dv hs gw_ rfl rfl da_ ?_; clear hs hm a; rintro _ w ⟨g, rfl, -, hm⟩ a hs) | (refine stn hs rfl rfl ds_ ?_; clear hs hm a; rintro - w hm a hs)) | refine sc_ ?_)
          rw [hA1] at hs
          have hc := inst_c x1 (op : Int) (if c = 1 then some ⟨b1, o1, none⟩ else some ⟨b1, o1 + 1, none⟩) (c - 1) wds_ _ ((k1.pu hm.fr).ok) (by rw [hl1] at hbl; omega) (hm.fr.rd' htl) (wd_tailA hb1n) (fun t ht_ => hlen t (List.mem_cons_of_mem _ ht_))
          rw [hx1g] at hc
          refine st hs rfl rfl rfl (d_call hs rfl rfl rfl (pl 69 rfl) (hc)) ?_; clear hs a; rintro _ w3 ⟨e, rfl, he, hfr, hy⟩ a hs
          have hk := (k1.pu hm.fr)
          have hszm := hm.fr.size
          have hF3 : Fr x.D wB w3 := ((hF2.pu hm.fr).then hfr (fun i hi hi2 => k1M i hi2 hi)).mono (fun i _ t => .inl t)
          clear hm
          have hm := Mm.nil (fun _ => False) w3
          repeat (first | (refine ovXAst0_ ?_; clear hs a; intro a hs) | ((with_reducible apply lCons); first | (refine dv hs gw_ rfl rfl da_ ?_; clear hs hm a; rintro _ w ⟨g, rfl, -, hm⟩ a hs) | (refine stn hs rfl rfl ds_ ?_; clear hs hm a; rintro - w hm a hs)) | refine sc_ ?_)
          rw [hR]
          refine gRet1 hs rfl rfl ⟨e, rfl, he, hF3.pu hm.fr, fun e0 => ?_⟩
          obtain ⟨y, hy⟩ := hy e0
          exact ⟨y, (hk.trans hy (by omega)).pu hm.fr⟩
  rw [hnm] at hnc
  have hL : labF s = some (Lib.trimSuffix s [58]) := by unfold labF; rw [hsx, ← htr, hnm]; rfl
  have hnl : (Lib.trimSuffix s [58]).length ≤ 1000000 := by rw [htr, List.length_take]; omega
  clear hcs htr
  generalize Lib.trimSuffix s [58] = nm at *
  have hml := h.ml
  have hnmm := h.nm
  cases hat : atL x.r.lab nm with
  | some v =>
    have hR : (rdF x.r s x.line).2 = 2 := by
      unfold rdF
      rw [hL]
      dsimp only
      rw [if_pos (by rw [any_atL, hat]; rfl)]
    repeat (first | (refine ovXAst0_ ?_; clear hs a; intro a hs) | ((with_reducible apply lCons); first | (refine dv hs gw_ rfl rfl da_ ?_; clear hs hm a; rintro _ w ⟨g, rfl, -, hm⟩ a hs) | (refine stn hs rfl rfl ds_ ?_; clear hs hm a; rintro - w hm a hs) | (refine dvc hs hm gw_ rfl rfl rfl rfl rfl (pl 66 rfl) (hnc _) ?_; clear hs hm a; intro w hm a hs)) | refine sc_ ?_)
    refine toL hm (oneV hs (Wnt.none rfl) rfl rfl (by intro w hm; exact r_lookS hs rfl rfl rfl hnl hml hm hnmm) ?_)
    clear hs a
    intro a hs
    rw [hat] at hs
    repeat (first | (refine ovXAst0_ ?_; clear hs a; intro a hs) | ((with_reducible apply lCons); first | (refine dv hs gw_ rfl rfl da_ ?_; clear hs hm a; rintro _ w ⟨g, rfl, -, hm⟩ a hs) | (refine stn hs rfl rfl ds_ ?_; clear hs hm a; rintro - w hm a hs)) | refine sc_ ?_)
    exact gRet1 hs rfl rfl ⟨2, rfl, hR.symm, hm.fr.mono (fun i _ t => .inl t), (fun e => by cases e)⟩
  | none =>
    have hR : rdF x.r s x.line = ({ x.r with lab := (nm, x.r.code.length) :: x.r.lab, last := true }, 0) := by
      unfold rdF
      rw [hL]
      dsimp only
      rw [if_neg (by rw [any_atL, hat]; decide)]
    repeat (first | (refine ovXAst0_ ?_; clear hs a; intro a hs) | ((with_reducible apply lCons); first | (refine dv hs gw_ rfl rfl da_ ?_; clear hs hm a; rintro _ w ⟨g, rfl, -, hm⟩ a hs) | (refine stn hs rfl rfl ds_ ?_; clear hs hm a; rintro - w hm a hs) | (refine dvc hs hm gw_ rfl rfl rfl rfl rfl (pl 66 rfl) (hnc _) ?_; clear hs hm a; intro w hm a hs)) | refine sc_ ?_)
    refine toL hm (oneV hs (Wnt.none rfl) rfl rfl (by intro w hm; exact r_lookS hs rfl rfl rfl hnl hml hm hnmm) ?_)
    clear hs a
    intro a hs
    rw [hat] at hs
    repeat (first | (refine ovXAst0_ ?_; clear hs a; intro a hs) | ((with_reducible apply lCons); first | (refine dv hs gw_ rfl rfl da_ ?_; clear hs hm a; rintro _ w ⟨g, rfl, -, hm⟩ a hs) | (refine stn hs rfl rfl ds_ ?_; clear hs hm a; rintro - w hm a hs)) | refine sc_ ?_)
    have hmlw := hml.keep hm.fr hnmm
    have hcl_ := h.sz.1
    have hnm1 : ∀ z ∈ ([⟨some x.g, 87, [slv x.cA x.r.code.length x.cc, slv x.sA x.r.ss.length x.sc, slv x.dA x.ws.length x.dc, .map (some x.m), slv x.jA x.r.js.length x.jc, .int .i64 (x.line : Int), .bool false]⟩, ⟨x.cA, 54, x.ccs⟩, ⟨x.sA, 3, x.scs⟩, ⟨x.dA, 56, x.dcs⟩, ⟨x.jA, 90, x.jcs⟩] : List Hp), z.g ≠ some x.m := fun z hz e => by
      rw [← hx1M] at hz
      have : own x.M x.m := by rw [RdX.own_iff]; have h1 : own x1.M x.m := ⟨z, hz, e⟩; rw [RdX.own_iff, hx1] at h1; exact h1
      exact hnmm this
    replace hm := hm.wide (T := x.D) (fun i t => .inl t)
    refine cMid (fun a w => Sl Tryz.f45.ntmps [(0, .pointer (some ⟨x.g, 0, none⟩))] a ∧ Mm x.D wB [⟨some x.g, 87, [slv x.cA x.r.code.length x.cc, slv x.sA x.r.ss.length x.sc, slv x.dA x.ws.length x.dc, .map (some x.m), slv x.jA x.r.js.length x.jc, .int .i64 (x.line : Int), .bool true]⟩, ⟨x.cA, 54, x.ccs⟩, ⟨x.sA, 3, x.scs⟩, ⟨x.dA, 56, x.dcs⟩, ⟨x.jA, 90, x.jcs⟩] w ∧ ML x.m ((nm, x.r.code.length) :: x.r.lab) w) ?_ ?_
    · skip
      refine cDrawP (n := 18) [] hm rfl rfl ?_
      clear hm
      intro w2 hm hdr
      have hml2 := hmlw.keep hdr (fun t => t)
      refine hV_ 0 ?_; clear hs a; intro a hs
      refine hV_ 1 ?_; clear hs a; intro a hs
      refine hV_ 2 ?_; clear hs a; intro a hs
      refine hV_ 4 ?_; clear hs a; intro a hs
      refine hV_ 5 ?_; clear hs a; intro a hs
      refine hV_ 6 ?_; clear hs a; intro a hs
      refine hV_ 7 ?_; clear hs a; intro a hs
      refine hV_ 8 ?_; clear hs a; intro a hs
      refine hV_ 9 ?_; clear hs a; intro a hs
      refine hEach [3, 10] (by kernel_rfl) (eDo hs rfl (Wnt.none rfl) rfl rfl (RunV.does kv_) ?_ (eDo hs rfl (Wnt.none rfl) rfl rfl (RunV.does kv_) ?_ eNil))
      · skip
        clear hs a
        rintro _ _ ⟨rfl, rfl⟩ a hs
        refine ⟨hm.sub sub_, ?_⟩
        refine hEach [10, 12] (by kernel_rfl) (eDo hs rfl (Wnt.none rfl) rfl rfl (RunV.does kv_) ?_ (eDo hs rfl (Wnt.none rfl) rfl rfl (d_entry hs rfl rfl rfl hnl hml2 (by omega) hat) ?_ eNil))
        · skip
          clear hs a
          rintro _ _ ⟨rfl, rfl⟩ a hs
          refine ⟨hm.sub sub_, ?_⟩
          refine hTake 11 hs rfl (by kernel_rfl) (Wnt.none rfl) rfl rfl (by intro w hm; replace hm : Mm _ _ _ w := hm; (first | exact r_val hs tab rfl | exact r_bi hs rfl | exact r_pick hs rfl rfl rfl rfl)) (hm.sub (List.nil_sublist _)) ?_; clear hs a; intro a hs
          refine hEach [12] (by kernel_rfl) (eDo hs rfl (Wnt.none rfl) rfl rfl (d_entry hs rfl rfl rfl hnl hml2 (by omega) hat) ?_ eNil)
          clear hs
          rintro _ w1 ⟨v0, st, rfl, hmi, hfr⟩ a hs
          replace hm := hm.far hfr (.inr rfl) hnm1
          refine ⟨hm.sub sub_, ?_⟩
          refine hV_ 13 ?_; clear hs a; intro a hs
          refine hEach [14] (by kernel_rfl) (eDoN hs rfl (Wnt.none rfl) rfl (d_estore hs rfl rfl rfl rfl (by omega) hmi) ?_ eNil)
          clear hs
          rintro _ w1 ⟨hml3, hfr⟩ a hs
          replace hm := hm.far hfr (.inr rfl) hnm1
          refine ⟨hm.sub sub_, ?_⟩
          refine hRebase hm ?_
          have hmB := hm
          replace hm := hmB.rebase
          refine hV_ 15 ?_; clear hs a; intro a hs
          refine hV_ 16 ?_; clear hs a; intro a hs
          refine hEach [17] (by kernel_rfl) (eDoN hs rfl (Wnt.none rfl) rfl ds_ ?_ eNil)
          clear hs hm
          rintro - w37 hm a hs
          refine ⟨hm.sub sub_, ?_⟩
          refine hDone (by kernel_rfl) ?_
          exact And.intro rfl ⟨hs.sub (Has.all ⟨rfl, trivial⟩), hmB.trans hm, hml3.keep hm.fr (fun ⟨z, hz, e⟩ => hnm1 z hz e)⟩
        · skip
          clear hs
          rintro _ w1 ⟨v0, st, rfl, hmi, hfr⟩ a hs
          replace hm := hm.far hfr (.inr rfl) hnm1
          refine ⟨hm.sub sub_, ?_⟩
          refine hV_ 13 ?_; clear hs a; intro a hs
          refine hEach [10] (by kernel_rfl) (eDo hs rfl (Wnt.none rfl) rfl rfl (RunV.does kv_) ?_ eNil)
          clear hs a
          rintro _ _ ⟨rfl, rfl⟩ a hs
          refine ⟨hm.sub sub_, ?_⟩
          refine hTake 11 hs rfl (by kernel_rfl) (Wnt.none rfl) rfl rfl (by intro w hm; replace hm : Mm _ _ _ w := hm; (first | exact r_val hs tab rfl | exact r_bi hs rfl | exact r_pick hs rfl rfl rfl rfl)) (hm.sub (List.nil_sublist _)) ?_; clear hs a; intro a hs
          refine hEach [14] (by kernel_rfl) (eDoN hs rfl (Wnt.none rfl) rfl (d_estore hs rfl rfl rfl rfl (by omega) hmi) ?_ eNil)
          clear hs
          rintro _ w1 ⟨hml3, hfr⟩ a hs
          replace hm := hm.far hfr (.inr rfl) hnm1
          refine ⟨hm.sub sub_, ?_⟩
          refine hRebase hm ?_
          have hmB := hm
          replace hm := hmB.rebase
          refine hV_ 15 ?_; clear hs a; intro a hs
          refine hV_ 16 ?_; clear hs a; intro a hs
          refine hEach [17] (by kernel_rfl) (eDoN hs rfl (Wnt.none rfl) rfl ds_ ?_ eNil)
          clear hs hm
          rintro - w37 hm a hs
          refine ⟨hm.sub sub_, ?_⟩
          refine hDone (by kernel_rfl) ?_
          exact And.intro rfl ⟨hs.sub (Has.all ⟨rfl, trivial⟩), hmB.trans hm, hml3.keep hm.fr (fun ⟨z, hz, e⟩ => hnm1 z hz e)⟩
      · skip
        clear hs a
        rintro _ _ ⟨rfl, rfl⟩ a hs
        refine ⟨hm.sub sub_, ?_⟩
        refine hTake 11 hs rfl (by kernel_rfl) (Wnt.none rfl) rfl rfl (by intro w hm; replace hm : Mm _ _ _ w := hm; (first | exact r_val hs tab rfl | exact r_bi hs rfl | exact r_pick hs rfl rfl rfl rfl)) (hm.sub (List.nil_sublist _)) ?_; clear hs a; intro a hs
        refine hEach [3] (by kernel_rfl) (eDo hs rfl (Wnt.none rfl) rfl rfl (RunV.does kv_) ?_ eNil)
        clear hs a
        rintro _ _ ⟨rfl, rfl⟩ a hs
        refine ⟨hm.sub sub_, ?_⟩
        refine hEach [12] (by kernel_rfl) (eDo hs rfl (Wnt.none rfl) rfl rfl (d_entry hs rfl rfl rfl hnl hml2 (by omega) hat) ?_ eNil)
        clear hs
        rintro _ w1 ⟨v0, st, rfl, hmi, hfr⟩ a hs
        replace hm := hm.far hfr (.inr rfl) hnm1
        refine ⟨hm.sub sub_, ?_⟩
        refine hV_ 13 ?_; clear hs a; intro a hs
        refine hEach [14] (by kernel_rfl) (eDoN hs rfl (Wnt.none rfl) rfl (d_estore hs rfl rfl rfl rfl (by omega) hmi) ?_ eNil)
        clear hs
        rintro _ w1 ⟨hml3, hfr⟩ a hs
        replace hm := hm.far hfr (.inr rfl) hnm1
        refine ⟨hm.sub sub_, ?_⟩
        refine hRebase hm ?_
        have hmB := hm
        replace hm := hmB.rebase
        refine hV_ 15 ?_; clear hs a; intro a hs
        refine hV_ 16 ?_; clear hs a; intro a hs
        refine hEach [17] (by kernel_rfl) (eDoN hs rfl (Wnt.none rfl) rfl ds_ ?_ eNil)
        clear hs hm
        rintro - w37 hm a hs
        refine ⟨hm.sub sub_, ?_⟩
        refine hDone (by kernel_rfl) ?_
        exact And.intro rfl ⟨hs.sub (Has.all ⟨rfl, trivial⟩), hmB.trans hm, hml3.keep hm.fr (fun ⟨z, hz, e⟩ => hnm1 z hz e)⟩
    clear hs hm a
    rintro a w ⟨hs, hm, hml3⟩
    repeat (first | (refine ovXAst0_ ?_; clear hs a; intro a hs) | ((with_reducible apply lCons); first | (refine dv hs gw_ rfl rfl da_ ?_; clear hs hm a; rintro _ w ⟨g, rfl, -, hm⟩ a hs) | (refine stn hs rfl rfl ds_ ?_; clear hs hm a; rintro - w hm a hs)) | refine sc_ ?_)
    rw [hR]
    refine gRet1 hs rfl rfl ⟨0, rfl, rfl, hm.fr, fun _ => ?_⟩
    obtain ⟨y, hy⟩ : ∃ y : RdX, y = { x with r := { x.r with lab := (nm, x.r.code.length) :: x.r.lab, last := true } } := ⟨_, rfl⟩
    have hyM : y.M = [⟨some x.g, 87, [slv x.cA x.r.code.length x.cc, slv x.sA x.r.ss.length x.sc, slv x.dA x.ws.length x.dc, .map (some x.m), slv x.jA x.r.js.length x.jc, .int .i64 (x.line : Int), .bool true]⟩, ⟨x.cA, 54, x.ccs⟩, ⟨x.sA, 3, x.scs⟩, ⟨x.dA, 56, x.dcs⟩, ⟨x.jA, 90, x.jcs⟩] := by rw [hy]; rfl
    have hyD : ∀ i, y.D i → x.D i := fun i hi => by
      rcases hi with hi | hi
      · rw [RdX.own_iff, hy] at hi
        exact .inl (RdX.own_iff.2 hi)
      · rw [hy] at hi
        exact .inr hi
    rw [← hyM] at hm
    refine ⟨y, by rw [hy], by rw [hy], by rw [hy], by rw [hy], ⟨hm.rebase, by rw [hy]; exact (hml3.keep (Fr.refl (fun _ => False) _) (fun t => t)), fun hi => ?_, by rw [hy]; exact h.c, by rw [hy]; exact h.s, by rw [hy]; exact h.d, by rw [hy]; exact h.j, by rw [hy]; exact h.ws, fun r hr => ?_, ?_⟩, fun i hi => .inl (hyD i hi)⟩
    · rw [RdX.own_iff, hy] at hi
      exact hnmm (RdX.own_iff.2 hi)
    · obtain ⟨h1, h2⟩ := h.wr r (by rw [hy] at hr; exact hr)
      exact ⟨WS.rdn hm.fr h1 (fun g hg => (h2 g hg).1), fun g hg => ⟨fun hi => (h2 g hg).1 (hyD g hi), Nat.lt_of_lt_of_le (h2 g hg).2 hm.fr.size⟩⟩
    · rw [hy]
      obtain ⟨z1, z2, z3, z4, z5⟩ := h.sz
      exact ⟨z1, z2, z3, z4, by dsimp only; rw [List.length_cons]; omega⟩
end Go.Proofs.YtajkekhnfobgiaaGreatDoor

/- What stays true of a reader while it reads: plain facts. -/
namespace Go.Proofs.YtajkekhnfobgiaaGreatDoor
set_option maxRecDepth 20000
open Go.RowKit

theorem nmB_len {s : Tx} (h : nmB s = true) : s.length ≤ 8 := by
  unfold nmB at h
  rw [Bool.and_eq_true] at h
  exact of_decide_eq_true h.2
theorem lstF_lab {op : Int} {u : Bool} {ns : Nat} {ws w4 : List Tx} {m : Int} {f : Bool} {l : Tx} (h : lstF op u ns ws = some (m, f, l, w4)) : l.length ≤ 8 := by
  unfold lstF at h
  split at h
  · cases h; exact Nat.zero_le _
  · split at h
    · split at h
      · cases h
      · split at h
        · rename_i hq
          cases h
          exact nmB_len hq
        · cases h
    · split at h
      · cases h
      · cases h; exact Nat.zero_le _
theorem opsF_lab {op : Int} {ns : Nat} {ws : List Tx} {i : In} {f : Bool} {l : Tx} (h : opsF op ns ws = some (i, f, l)) : l.length ≤ 8 := by
  rw [opsF_G] at h
  unfold opsG at h
  cases hr : rkF op ws 3 with
  | none => rw [hr] at h; cases h
  | some p =>
    obtain ⟨a, b, c, f1, w⟩ := p
    rw [hr] at h
    dsimp only at h
    cases hl : lstF op (usesF op).2.2.2 ns w with
    | none => rw [hl] at h; cases h
    | some q =>
      obtain ⟨m, f4, l4, w4⟩ := q
      rw [hl] at h
      dsimp only at h
      split at h
      · cases h; exact lstF_lab hl
      · cases h
/-- labels are short, jumps lie in the code -/
structure RdG (r : RdS) : Prop where
  js : ∀ j ∈ r.js, j.1 < r.code.length ∧ j.2.2.length ≤ 8
theorem RdG.nil : RdG r0F := ⟨fun _ hj => absurd hj List.not_mem_nil⟩
theorem regF_js (r : RdS) (words : List Tx) : (regF r words).1.js = r.js ∧ (regF r words).1.code = r.code ∧ (regF r words).1.lab = r.lab := by
  unfold regF
  split
  · exact ⟨rfl, rfl, rfl⟩
  · exact ⟨rfl, rfl, rfl⟩
  · split
    · exact ⟨rfl, rfl, rfl⟩
    · split <;> exact ⟨rfl, rfl, rfl⟩
theorem insF_G {r : RdS} (h : RdG r) (op : Int) (ws : List Tx) (k : Nat) : RdG (insF r op ws k).1 ∧ (insF r op ws k).1.lab = r.lab := by
  unfold insF
  cases ho : opsF op r.ss.length ws with
  | none => exact ⟨h, rfl⟩
  | some p =>
    obtain ⟨i, f, l⟩ := p
    dsimp only
    split
    · exact ⟨h, rfl⟩
    · refine ⟨⟨fun j hj => ?_⟩, rfl⟩
      dsimp only at hj ⊢
      rw [List.length_append, List.length_singleton]
      split at hj
      · have := h.js j hj
        exact ⟨by omega, this.2⟩
      · rcases List.mem_append.1 hj with hj | hj
        · have := h.js j hj
          exact ⟨by omega, this.2⟩
        · rcases List.mem_singleton.1 hj with rfl
          exact ⟨Nat.lt_succ_self _, opsF_lab ho⟩
theorem rdF_G {r : RdS} (h : RdG r) (s : Tx) (k : Nat) : RdG (rdF r s k).1 ∧ (rdF r s k).1.lab.length ≤ r.lab.length + 1 := by
  unfold rdF
  cases labF s with
  | some n =>
    dsimp only
    split
    · exact ⟨⟨h.js⟩, Nat.le_succ _⟩
    · exact ⟨⟨h.js⟩, Nat.le_refl _⟩
  | none =>
    dsimp only
    split
    · obtain ⟨h1, h2, h3⟩ := regF_js { r with last := false } (spl 32 s).tail
      exact ⟨⟨by rw [h1, h2]; exact h.js⟩, by rw [h3]; exact Nat.le_succ _⟩
    · cases idxF ((spl 32 s).headD []) nmL 0 with
      | none => exact ⟨⟨h.js⟩, Nat.le_succ _⟩
      | some op =>
        obtain ⟨h1, h2⟩ := insF_G (r := { r with last := false }) ⟨h.js⟩ (op : Int) (spl 32 s).tail k
        exact ⟨h1, by rw [h2]; exact Nat.le_succ _⟩
theorem jsF_len (lab : List (Tx × Nat)) : ∀ (js : List (Nat × Nat × Tx)) (code : List In), (jsF lab code js).1.length = code.length
  | [], _ => rfl
  | (a, ln, n) :: t, code => by
    unfold jsF
    cases atL lab n with
    | none => rfl
    | some k =>
      dsimp only
      rw [jsF_len lab t, List.length_modify]
theorem modify_set {α : Type} (f : α → α) : ∀ (l : List α) (k : Nat) (x : α), l[k]? = some x → l.modify k f = l.set k (f x)
  | [], _, _, h => by simp at h
  | a :: t, 0, x, h => by simp at h; subst h; rfl
  | a :: t, k + 1, x, h => by
    rw [List.modify_succ_cons, List.set_cons_succ, modify_set f t k x (by simpa using h)]
end Go.Proofs.YtajkekhnfobgiaaGreatDoor

/- The program's Parse. -/
namespace Go.Proofs.YtajkekhnfobgiaaGreatDoor
set_option maxRecDepth 20000
open Go.RowKit
theorem ovXAsv0_ {G H : Prop} (k : H) (s : H → G := by intro k; (with_reducible refine toL hm ?_); first | exact oneV hs gw_ rfl rfl (by intro w hm; (first | exact kvR_ | exact r_lookS hs rfl rfl rfl hjl hml hm hnml)) k | exact oneN hs rfl rfl rfl rfl rfl rfl rfl k | exact oneU hs rfl rfl rfl rfl rfl rfl k) : G := s k

def pvE : PV := ⟨none, 0, [], none, 0, [], none, 0, []⟩
theorem pvE_ok (w : World) : pvE.ok w := ⟨Rd.nil, Rd.nil, Rd.nil, fun _ hr => absurd hr List.not_mem_nil⟩
theorem Mm.adopt2 {w : World} {g : Nat} {t : TypeId} {cs : List Value} (hg : (⟨some g, t, cs⟩ : Hp).sat w) : Mm (own [⟨some g, t, cs⟩]) w [⟨some g, t, cs⟩] w :=
  ⟨fun x hx => by rcases List.mem_singleton.1 hx with rfl; exact hg, Fr.refl _ _, ⟨(fun x hx => absurd hx List.not_mem_nil), trivial⟩, fun x hx g' e => .inr ⟨x, hx, e⟩⟩
theorem ML.ne_blk {b : Nat} {lab : List (Tx × Nat)} {w : World} (h : ML b lab w) {g : Nat} {t : TypeId} {cs : Array Value} (hb : Blk w g t cs) : b ≠ g := by
  rintro rfl
  obtain ⟨D, ⟨es, c, hk, _⟩, _⟩ := h
  rw [show w.heap[b]? = _ from hb] at hk
  cases hk
theorem ML.notown {b : Nat} {lab : List (Tx × Nat)} {S : Nat → Prop} {w0 w : World} {M : List Hp} (h : ML b lab w) (hm : Mm S w0 M w) : ¬ own M b := by
  rintro ⟨z, hz, e⟩
  have h1 := hm.me z hz
  unfold Hp.sat at h1
  rw [e] at h1
  exact h.ne_blk h1 rfl
theorem par_long {s : Tx} (h : 4096 < s.length) : parF s = (⟨[], [], []⟩, -1, 3) := by
  unfold parF
  rw [if_pos h]
theorem par_err {s : Tx} {r : RdS} {k : Nat} {e : Int} (h : ¬ 4096 < s.length) (hA : rdA r0F (spl 10 s).dropLast 0 = (r, k, e)) (he : e ≠ 0) : parF s = (⟨[], [], []⟩, (k : Int), e) := by
  unfold parF
  rw [if_neg h, hA]
  dsimp only
  rw [if_pos he]
theorem par_last {s : Tx} {r : RdS} {k : Nat} (h : ¬ 4096 < s.length) (hA : rdA r0F (spl 10 s).dropLast 0 = (r, k, 0)) (hl : (spl 10 s).getLastD [] ≠ []) : parF s = (⟨[], [], []⟩, ((spl 10 s).length : Int) - 1, 2) := by
  unfold parF
  rw [if_neg h, hA]
  dsimp only
  rw [if_neg (fun h => h rfl), if_pos hl]
theorem par_js {s : Tx} {r : RdS} {k : Nat} (h : ¬ 4096 < s.length) (hA : rdA r0F (spl 10 s).dropLast 0 = (r, k, 0)) (hl : (spl 10 s).getLastD [] = []) : parF s = match jsF r.lab r.code r.js with
    | (_, some ln) => (⟨[], [], []⟩, (ln : Int), 12)
    | (code, none) => if r.ss = [] ∨ code = [] ∨ r.last = true then (⟨[], [], []⟩, -1, 2) else (⟨code, r.ss, r.ws⟩, ((spl 10 s).length : Int) - 1, 0) := by
  unfold parF
  rw [if_neg h, hA]
  dsimp only
  rw [if_neg (fun h => h rfl), if_neg (fun h => h hl)]
  rfl
theorem rdA_drop {r : RdS} {l : List Tx} {k : Nat} (hk : k < l.length) : rdA r (l.drop k) k = if (rdF r l[k] k).2 = 0 then rdA (rdF r l[k] k).1 (l.drop (k + 1)) (k + 1) else ((rdF r l[k] k).1, k, (rdF r l[k] k).2) := by
  rw [List.drop_eq_getElem_cons hk]
  rfl
theorem lastD_at {l : List Tx} {k : Nat} (hk : k < l.length) (h : k + 1 = l.length) : l.getLastD [] = l[k] := by
  cases l with
  | nil => cases hk
  | cons y t =>
    rw [List.getLastD_cons, ← List.getLast_eq_getLastD (by simp), List.getLast_eq_getElem]
    congr 1
    rw [List.length_cons] at h ⊢
    omega
theorem RdX.ok_of {x y : RdX} {wB w' : World} (h : x.ok wB) (hm : Mm (own x.M) wB y.M w') (em : y.m = x.m) (c : Row y.cA y.r.code.length y.cc 5 (y.r.code.flatMap inV) y.ccs) (s : Row y.sA y.r.ss.length y.sc 1 (ints y.r.ss) y.scs) (d : Row y.dA y.ws.length y.dc 1 (y.ws.map WS.v) y.dcs) (j : Row y.jA y.r.js.length y.jc 3 (y.r.js.flatMap jmV) y.jcs) (ew : y.ws = x.ws) (er : y.r.ws = x.r.ws) (ea : y.r.lab = x.r.lab) (sz : y.r.code.length ≤ 64 ∧ y.r.ss.length ≤ 4 ∧ y.ws.length = y.r.ss.length ∧ y.r.js.length ≤ y.r.code.length ∧ y.r.lab.length ≤ 5000) : y.ok w' := by
  obtain ⟨p1, p2, p3, p4, p5⟩ := RdX.after h hm em
  exact ⟨p4, by rw [ea]; exact p3, p2, c, s, d, j, by rw [er, ew]; exact h.ws, fun r hr => p5 r (by rw [← ew]; exact hr), sz⟩
theorem rdm {S : Nat → Prop} {w w' : World} (hf : Fr S w w') {A : Option Nat} {xs : List Value} (h : Rd w w.heap.size (A.map fun g => ⟨g, 0, none⟩) xs) (hn : ∀ g, A = some g → ¬ S g) : Rd w' w'.heap.size (A.map fun g => ⟨g, 0, none⟩) xs :=
  hf.rdS h (fun g o e => by
    cases A with
    | none => cases e
    | some g2 => cases e; exact hn g rfl)
theorem rd_g2 {w w' : World} {g2 : Nat} {t : TypeId} {cs : List Value} (hb : (⟨some g2, t, cs⟩ : Hp).sat w) (hcs : ∀ v ∈ cs, ∀ k n, v ≠ .int k n) (hf : Fr (own [⟨some g2, t, cs⟩]) w w') {A : Option Addr} {xs : List Int} (h : Rd w w.heap.size A (wds xs)) : Rd w' w'.heap.size A (wds xs) := fun h0 => by
  obtain ⟨b, o, e, hb', hc⟩ := h h0
  refine ⟨b, o, e, Nat.lt_of_lt_of_le hb' hf.size, fun j u hj => hf.cl (hc j u hj) ?_⟩
  rintro ⟨z, hz, e2⟩
  rcases List.mem_singleton.1 hz with rfl
  cases e2
  have h1 := hc j u hj
  rw [(Mm.adopt2 hb).at_ (List.mem_singleton.2 rfl)] at h1
  have h2 := List.mem_of_getElem? h1
  unfold wds at hj
  rw [List.getElem?_map] at hj
  cases hx : xs[j]? with
  | none => rw [hx] at hj; cases hj
  | some y =>
    rw [hx] at hj
    cases hj
    exact hcs _ h2 _ _ rfl
structure PaX where
  k : Nat
  x : RdX
structure JsX where
  k : Nat
  code : List In
  ccs : List Value


set_option maxHeartbeats 32000000 in
theorem par_c (s : Tx) (wB : World) (ht : TW wB) (hs0 : s.length ≤ 1000000000000) :
    Ret Tryz.prog 20 [txv s] wB (fun u w' => ∃ p : PV, u = .tuple #[p.v, .int .i64 (parF s).2.1, .int .i64 (parF s).2.2] ∧ p.ok w' ∧ p.code = (parF s).1.code ∧ p.ss = (parF s).1.ss ∧ p.ws.map WV.xs = (parF s).1.ws ∧ Pu wB w') := by
  have hsz := ba_s s
  refine enterR Tryz.func20 rfl rfl rfl fun a hs hm => ?_
  by_cases hlong : 4096 < s.length
  · have hp := par_long hlong
    repeat (first | (refine ovXAsv0_ ?_; clear hs a; intro a hs) | ((with_reducible apply lCons); first | (refine dv hs gw_ rfl rfl da_ ?_; clear hs hm a; rintro _ w ⟨g, rfl, -, hm⟩ a hs) | (refine stn hs rfl rfl ds_ ?_; clear hs hm a; rintro - w hm a hs)) | refine sc_ ?_)
    exact gRetN tab hs rfl (.cons (.cells rfl rfl rfl rfl (hm.ro (k := 0) (n := 3) mem_ (cutF_ok rfl))) (.cons (.tmp rfl) (.cons (.tmp rfl) .nil))) ⟨pvE, by rw [hp]; rfl, pvE_ok _, by rw [hp]; rfl, by rw [hp]; rfl, by rw [hp]; rfl, hm.fr⟩
  repeat (first | (refine ovXAsv0_ ?_; clear hs a; intro a hs) | ((with_reducible apply lCons); first | (refine dv hs gw_ rfl rfl da_ ?_; clear hs hm a; rintro _ w ⟨g, rfl, -, hm⟩ a hs) | (refine stn hs rfl rfl ds_ ?_; clear hs hm a; rintro - w hm a hs)) | refine sc_ ?_)
  obtain ⟨g2, en_⟩ := hs.pt 2 (by exact rfl); subst en_
  have hmB := hm
  refine dv hs (Wnt.none rfl) rfl rfl (d_makeMapS rfl hm) ?_
  clear hs hm
  rintro _ w5 ⟨rfl, hml, hf5, hm5⟩ a hs
  obtain ⟨gm, hgm⟩ : ∃ g, w.heap.size = g := ⟨_, rfl⟩
  rw [hgm] at hs hml
  have hg2 : g2 < gm := by have := Hp.lt (hmB.me _ (List.mem_cons_self ..)) rfl; omega
  have hgmB : wB.heap.size ≤ gm := by have := hmB.fr.size; omega
  have hg2B : wB.heap.size ≤ g2 := by
    rcases hmB.ow _ (List.mem_cons_self ..) g2 rfl with h1 | h1
    · exact h1
    · exact h1.elim
  clear hmB hgm
  have hm := hm5.rebase
  repeat (first | (refine ovXAsv0_ ?_; clear hs a; intro a hs) | ((with_reducible apply lCons); first | (refine dv hs gw_ rfl rfl da_ ?_; clear hs hm a; rintro _ w ⟨g, rfl, -, hm⟩ a hs) | (refine stn hs rfl rfl ds_ ?_; clear hs hm a; rintro - w hm a hs)) | refine sc_ ?_)
  obtain ⟨g5, en_⟩ := hs.pt 5 (by exact rfl); subst en_
  have hmlw := hml.keep hm.fr (fun ⟨z, hz, e⟩ => by rcases List.mem_singleton.1 hz with rfl; cases e; omega)
  have hmA := hm5.trans hm
  clear hm hml hf5 hm5
  have hm := hmA
  obtain ⟨x0, hx0⟩ : ∃ x0 : RdX, x0 = ⟨g5, gm, none, 0, [], none, 0, [], none, 0, [], none, 0, [], [], 0, r0F⟩ := ⟨_, rfl⟩
  have hx0M : Mm (fun _ => False) wB x0.M w := by
    rw [hx0]
    exact (((((hmA.sel (M' := [⟨some g5, 87, [.slice none 0 0, .slice none 0 0, .slice none 0 0, .map (some gm), .slice none 0 0, .int .i64 0, .bool false]⟩]) [0] (by decide) rfl).zero 90).zero 56).zero 3).zero 54).sel [4, 0, 1, 2, 3] (by decide) rfl
  have hx0ok : x0.ok w := by
    have h1 := hmlw.notown hx0M
    rw [hx0] at hx0M h1 ⊢
    exact ⟨hx0M.rebase, hmlw, h1, Row.empty 5, Row.empty 1, Row.empty 1, Row.empty 3, rfl, (fun _ hr => absurd hr List.not_mem_nil), ⟨Nat.zero_le _, Nat.zero_le _, rfl, Nat.zero_le _, Nat.zero_le _⟩⟩
  have hg5w := Hp.lt (hmA.me _ (List.mem_cons_self ..)) rfl
  have hg5B : wB.heap.size ≤ g5 := by
    rcases hmA.ow _ (List.mem_cons_self ..) g5 rfl with h1 | h1
    · exact h1
    · exact h1.elim
  have hg52 : g2 ≠ g5 := fun e => hmA.dj.1 _ (List.mem_cons_self ..) g5 rfl (by rw [e])
  have hgmw := hmlw.lt
  have b20 := hmA.me _ (List.mem_cons_of_mem _ (List.mem_cons_self ..))
  have htw := ht.pu hmA.fr
  refine st hs rfl rfl rfl (d_call hs rfl rfl rfl (pl 18 rfl) ((split_n 10 s _ (by omega) htw))) ?_; clear hs a; rintro _ w2 ⟨⟨lA, lc, ls⟩, rfl, hr, hx, hf, hnw⟩ a hs
  have hP := hmA.fr.pu hf
  replace hx0ok := (RdX.same hx0ok (hx0ok.mm.pu hf)).ok
  replace b20 : Blk w2 g2 26 #[.slice none 0 0, .slice none 0 0, .slice none 0 0] := hf.blk b20 (fun t => t)
  have hszw := hf.size
  clear hm hx0M hmA hmlw htw
  have hm := Mm.nil (fun _ => False) w2
  dsimp only at hx hnw
  subst hx
  unfold SS.v at hs
  dsimp only at hs
  obtain ⟨b1, o1, rfl, hb1, r1⟩ := hr.2.ro (by show 0 < ((spl 10 s).map txv).length; rw [List.length_map]; exact List.length_pos_iff.2 (spl_ne 10 s))
  have hb1n := hnw _ rfl
  dsimp only at r1 hb1 hb1n
  have hn1 : 0 < (spl 10 s).length := List.length_pos_iff.2 (spl_ne 10 s)
  have hn2 := spl_cnt_le 10 s
  obtain ⟨D0, hD0⟩ : ∃ D0 : Nat → Prop, ∀ i, D0 i ↔ (i = g5 ∨ i = gm ∨ w2.heap.size ≤ i) := ⟨_, fun _ => Iff.rfl⟩
  have hnb1 : ¬ D0 b1 := by rw [hD0]; omega
  have hng2 : ¬ D0 g2 := by rw [hD0]; have := b20.lt; omega
  repeat (first | (refine ovXAsv0_ ?_; clear hs a; intro a hs) | ((with_reducible apply lCons); first | (refine dv hs gw_ rfl rfl da_ ?_; clear hs hm a; rintro _ w ⟨g, rfl, -, hm⟩ a hs) | (refine stn hs rfl rfl ds_ ?_; clear hs hm a; rintro - w hm a hs)) | refine sc_ ?_)
  have hPu2 := hm.fr
  refine cLoop (X := PaX) (fun X a w' => Sl Tryz.f20.ntmps [(2, .pointer (some ⟨g2, 0, none⟩)), (3, .int .i64 0), (4, .int .i64 0), (5, .pointer (some ⟨X.x.g, 0, none⟩)), (6, .slice (some ⟨b1, o1, none⟩) (spl 10 s).length lc), (23, .slice (some ⟨b1, o1, none⟩) (spl 10 s).length lc), (24, .int .i64 ((spl 10 s).length : Int)), (25, .int .i64 (X.k : Int))] a ∧ Fr D0 w2 w' ∧ X.k < (spl 10 s).length ∧ X.x.ok w' ∧ X.x.g = g5 ∧ X.x.m = gm ∧ (∀ i, X.x.D i → D0 i) ∧ RdG X.x.r ∧ X.x.r.lab.length ≤ X.k ∧ rdA r0F (spl 10 s).dropLast 0 = rdA X.x.r ((spl 10 s).dropLast.drop X.k) X.k) (fun X => (spl 10 s).length - X.k) ⟨0, x0⟩ ⟨by rw [hx0]; exact hs.sub (Has.all ⟨rfl, rfl, rfl, rfl, rfl, rfl, rfl, rfl, trivial⟩), Fr.of_pu hm.fr, hn1, (RdX.same hx0ok (hx0ok.mm.pu hm.fr)).ok, by rw [hx0], by rw [hx0], fun i hi => ?_, by rw [hx0]; exact RdG.nil, by rw [hx0]; exact Nat.zero_le _, by rw [hx0]; rfl⟩ ?_
  · rw [hx0] at hi
    rw [hD0]
    rcases hi with hi | hi
    · rw [RdX.own_iff] at hi
      simp at hi
      exact .inl hi.symm
    · exact .inr (.inl hi)
  clear hs hm a hx0ok hx0 hPu2
  rintro ⟨k, x⟩ a w' ⟨hs, hF, hk, hx, hxg, hxm, hxD, hG, hlab, hA⟩
  dsimp only at hs hF hk hx hxg hxm hxD hG hlab hA
  obtain ⟨ln, hln⟩ : ∃ z, (spl 10 s)[k] = z := ⟨_, rfl⟩
  have e1 : ((spl 10 s).map txv)[k]? = some (txv ln) := by rw [List.getElem?_map, List.getElem?_eq_getElem hk, hln]; rfl
  have hlnl : ln.length ≤ 4096 := by have := spl_mem_le 10 s _ (List.getElem_mem hk); rw [hln] at this; omega
  have q1 : Ro w' b1 o1 ((spl 10 s).map txv) := fun j v h => hF.cl (r1 j v h) hnb1
  have hnb : ¬ own x.M b1 := fun h => hnb1 (hxD _ (.inl h))
  have hD0B : ∀ i, D0 i → wB.heap.size ≤ i := fun i h => by
    have := hP.size
    rcases (hD0 i).1 h with h | h | h <;> omega
  have hm : Mm (own x.M) w' [⟨some x.g, 87, [slv x.cA x.r.code.length x.cc, slv x.sA x.r.ss.length x.sc, slv x.dA x.ws.length x.dc, .map (some x.m), slv x.jA x.r.js.length x.jc, .int .i64 (x.line : Int), .bool x.r.last]⟩, ⟨x.cA, 54, x.ccs⟩, ⟨x.sA, 3, x.scs⟩, ⟨x.dA, 56, x.dcs⟩, ⟨x.jA, 90, x.jcs⟩] w' := hx.mm
  obtain ⟨x1, hx1⟩ : ∃ x1 : RdX, x1 = { x with line := k } := ⟨_, rfl⟩
  have hx1M : x1.M = [⟨some x.g, 87, [slv x.cA x.r.code.length x.cc, slv x.sA x.r.ss.length x.sc, slv x.dA x.ws.length x.dc, .map (some x.m), slv x.jA x.r.js.length x.jc, .int .i64 (k : Int), .bool x.r.last]⟩, ⟨x.cA, 54, x.ccs⟩, ⟨x.sA, 3, x.scs⟩, ⟨x.dA, 56, x.dcs⟩, ⟨x.jA, 90, x.jcs⟩] := by rw [hx1]; rfl
  have hx1g : x1.g = x.g := by rw [hx1]
  have hx1m : x1.m = x.m := by rw [hx1]
  have hx1r : x1.r = x.r := by rw [hx1]
  have hx1l : x1.line = k := by rw [hx1]
  by_cases hkl : k + 1 = (spl 10 s).length
  · have hlast : (spl 10 s).getLastD [] = ln := by rw [← hln]; exact lastD_at hk hkl
    have hA0 : rdA r0F (spl 10 s).dropLast 0 = (x.r, k, 0) := by
      rw [hA, List.drop_of_length_le (by rw [List.length_dropLast]; omega)]
      rfl
    repeat (first | (refine ovXAsv0_ ?_; clear hs a; intro a hs) | ((with_reducible apply lCons); first | (refine dv hs gw_ rfl rfl da_ ?_; clear hs hm a; rintro _ w ⟨g, rfl, -, hm⟩ a hs) | (refine stn hs rfl rfl ds_ ?_; clear hs hm a; rintro - w hm a hs)) | refine sc_ ?_)
    have hFw : Fr D0 w2 w := hF.then hm.fr (fun i _ hi => hxD i (.inl hi))
    have hPw : Pu wB w := hP.then hFw (fun i hi h => by have := hD0B i h; omega)
    have b2 : Blk w g2 26 #[.slice none 0 0, .slice none 0 0, .slice none 0 0] := hFw.blk b20 hng2
    by_cases hle : ln = []
    case neg =>
      have hp : parF s = (⟨[], [], []⟩, (k : Int), 2) := by
        rw [par_last hlong hA0 (by rw [hlast]; exact hle)]
        congr 2
        omega
      rw [sEqF hle] at hs
      clear hm
      have hm := Mm.adopt2 b2
      repeat (first | (refine ovXAsv0_ ?_; clear hs a; intro a hs) | ((with_reducible apply lCons); first | (refine dv hs gw_ rfl rfl da_ ?_; clear hs hm a; rintro _ w ⟨g, rfl, -, hm⟩ a hs) | (refine stn hs rfl rfl ds_ ?_; clear hs hm a; rintro - w hm a hs)) | refine sc_ ?_)
      exact gRetN tab hs rfl (.cons (.cells rfl rfl rfl rfl (hm.ro (k := 0) (n := 3) mem_ (cutF_ok rfl))) (.cons (.tmp rfl) (.cons (.tmp rfl) .nil))) ⟨pvE, by rw [hp]; rfl, pvE_ok _, by rw [hp]; rfl, by rw [hp]; rfl, by rw [hp]; rfl, hPw.then hm.fr (fun i hi ⟨z, hz, e⟩ => by rcases List.mem_singleton.1 hz with rfl; cases e; omega)⟩
    have hx1ok : x1.ok w := RdX.ok_of hx (by rw [hx1M]; exact hm) hx1m (by rw [hx1]; exact hx.c) (by rw [hx1]; exact hx.s) (by rw [hx1]; exact hx.d) (by rw [hx1]; exact hx.j) (by rw [hx1]) (by rw [hx1]) (by rw [hx1]) (by rw [hx1]; exact hx.sz)
    have hp := par_js hlong hA0 (by rw [hlast]; exact hle)
    subst hle
    rw [sEE] at hs
    obtain ⟨wC, hwC⟩ : ∃ u : World, u = w := ⟨w, rfl⟩
    subst hwC
    have rg : Ro wC x.g 0 [slv x.cA x.r.code.length x.cc, slv x.sA x.r.ss.length x.sc, slv x.dA x.ws.length x.dc, .map (some x.m), slv x.jA x.r.js.length x.jc, .int .i64 (k : Int), .bool x.r.last] := hm.ro (k := 0) (n := 7) mem_ (cutF_ok rfl)
    have rg3 : ∀ _ : Unit, Ro wC x.g 0 [slv x.cA x.r.code.length x.cc, slv x.sA x.r.ss.length x.sc, slv x.dA x.ws.length x.dc] := fun _ => hm.ro (k := 0) (n := 3) mem_ (cutF_ok rfl)
    have hmc : Mm (own [⟨x.cA, 54, x.ccs⟩]) wC [⟨x.cA, 54, x.ccs⟩] wC := (hm.sel (M' := [⟨x.cA, 54, x.ccs⟩]) [1] (by decide) rfl).rebase
    have hdj := hm.dj
    have hjr : ∀ gj, x.jA = some gj → Ro wC gj 0 (x.r.js.flatMap jmV) := fun gj e => by
      have h1 : (⟨x.jA, 90, x.jcs⟩ : Hp) ∈ x1.M := by rw [hx1M]; exact mem_
      have h2 := hx.j
      rw [e] at h1 h2
      rw [← hx1M] at hm
      exact row_ro hm h1 h2
    have hrs : Rd wC wC.heap.size (x.sA.map fun g => ⟨g, 0, none⟩) (ints x.r.ss) := hm.rd_row mem_ hx.s
    have hrd : Rd wC wC.heap.size (x.dA.map fun g => ⟨g, 0, none⟩) (x.ws.map WS.v) := hm.rd_row mem_ hx.d
    have hrw : ∀ r ∈ x.ws, Rd wC wC.heap.size (r.A.map fun g => ⟨g, 0, none⟩) (wds r.xs) ∧ ∀ g, r.A = some g → ¬ x1.D g ∧ g < wC.heap.size := fun r hr => hx1ok.wr r (by rw [hx1]; exact hr)
    have hml := hx1ok.ml
    rw [hx1m, hx1r] at hml
    have hnml := hml.notown hmc
    have hng : ¬ own [⟨x.cA, 54, x.ccs⟩] x.g := fun ⟨z, hz, e⟩ => by
      rcases List.mem_singleton.1 hz with rfl
      exact hdj.1 _ (List.mem_cons_self ..) x.g rfl e
    have hngj : ∀ gj, x.jA = some gj → ¬ own [⟨x.cA, 54, x.ccs⟩] gj := fun gj e ⟨z, hz, e2⟩ => by
      rcases List.mem_singleton.1 hz with rfl
      exact hdj.2.1 ⟨x.jA, 90, x.jcs⟩ mem_ gj e2 e
    have hngs : ∀ gj, x.sA = some gj → ¬ own [⟨x.cA, 54, x.ccs⟩] gj := fun gj e ⟨z, hz, e2⟩ => by
      rcases List.mem_singleton.1 hz with rfl
      exact hdj.2.1 ⟨x.sA, 3, x.scs⟩ mem_ gj e2 e
    have hngd : ∀ gj, x.dA = some gj → ¬ own [⟨x.cA, 54, x.ccs⟩] gj := fun gj e ⟨z, hz, e2⟩ => by
      rcases List.mem_singleton.1 hz with rfl
      exact hdj.2.1 ⟨x.dA, 56, x.dcs⟩ mem_ gj e2 e
    have hS1D : ∀ i, own [⟨x.cA, 54, x.ccs⟩] i → x.D i := fun i ⟨z, hz, e⟩ => by
      rcases List.mem_singleton.1 hz with rfl
      exact .inl (RdX.own_iff.2 (.inr (.inl e)))
    have hsD : ∀ g, x.sA = some g → D0 g := fun g e => hxD g (.inl (RdX.own_iff.2 (.inr (.inr (.inl e)))))
    have hdD : ∀ g, x.dA = some g → D0 g := fun g e => hxD g (.inl (RdX.own_iff.2 (.inr (.inr (.inr (.inl e))))))
    have hcD : ∀ g, x.cA = some g → D0 g := fun g e => hxD g (.inl (RdX.own_iff.2 (.inr (.inl e))))
    have hxc := hx.c
    have hjle := hx.sz
    clear hm hA hA0 e1 q1 hx1M
    obtain ⟨S1, hS1⟩ : ∃ S : Nat → Prop, own [⟨x.cA, 54, x.ccs⟩] = S := ⟨_, rfl⟩
    rw [hS1] at hmc hng hngj hnml hngs hngd hS1D
    have hm := hmc
    repeat (first | (refine ovXAsv0_ ?_; clear hs a; intro a hs) | ((with_reducible apply lCons); first | (refine dv hs gw_ rfl rfl da_ ?_; clear hs hm a; rintro _ w ⟨g, rfl, -, hm⟩ a hs) | (refine stn hs rfl rfl ds_ ?_; clear hs hm a; rintro - w hm a hs)) | refine sc_ ?_)
    refine cLoop (X := JsX) (fun X a w' => Sl Tryz.f20.ntmps [(2, .pointer (some ⟨g2, 0, none⟩)), (3, .int .i64 0), (4, .int .i64 0), (5, .pointer (some ⟨x.g, 0, none⟩)), (6, .slice (some ⟨b1, o1, none⟩) (spl 10 s).length lc), (55, slv x.jA x.r.js.length x.jc), (56, .int .i64 (x.r.js.length : Int)), (57, .int .i64 (X.k : Int))] a ∧ Mm S1 wC [⟨x.cA, 54, X.ccs⟩] w' ∧ X.k ≤ x.r.js.length ∧ X.code.length = x.r.code.length ∧ Row x.cA x.r.code.length x.cc 5 (X.code.flatMap inV) X.ccs ∧ jsF x.r.lab x.r.code x.r.js = jsF x.r.lab X.code (x.r.js.drop X.k)) (fun X => x.r.js.length - X.k) ⟨0, x.r.code, x.ccs⟩ ⟨hs.sub (Has.all ⟨rfl, rfl, rfl, rfl, rfl, rfl, rfl, rfl, trivial⟩), hm, Nat.zero_le _, rfl, hxc, rfl⟩ ?_
    clear hs hm hmc a
    rintro ⟨q, code, ccs⟩ a w4 ⟨hs, hm, hq, hcl, hrow, hJ⟩
    dsimp only at hs hm hq hcl hrow hJ
    have hFw4 : Fr D0 w2 w4 := hFw.then hm.fr (fun i _ hi => hxD i (hS1D i hi))
    have hPw4 : Pu wB w4 := hP.then hFw4 (fun i hi h => by have := hD0B i h; omega)
    have hgx : g2 ≠ x.g := by rw [hxg]; exact hg52
    by_cases hlt : q < x.r.js.length
    · obtain ⟨⟨jat, jln, jl⟩, hj⟩ : ∃ z, x.r.js[q] = z := ⟨_, rfl⟩
      have hjG := hG.js _ (List.getElem_mem hlt)
      rw [hj] at hjG
      dsimp only at hjG
      obtain ⟨hjat, hjl8⟩ := hjG
      have hjl : jl.length ≤ 1000000 := by omega
      obtain ⟨gj, hgj⟩ := hx.j.some_ (by omega)
      obtain ⟨gc, hgc⟩ := hrow.some_ (by omega)
      have r2 := (hjr gj hgj).flat jmV_len hlt
      rw [hj, Nat.zero_add] at r2
      unfold jmV at r2
      dsimp only at r2
      have hnj := hngj gj hgj
      rw [List.drop_eq_getElem_cons hlt, hj] at hJ
      rw [hgj] at hs rg ⊢
      rw [hgc] at hm rg hrow ⊢
      repeat (first | (refine ovXAsv0_ ?_; clear hs a; intro a hs) | ((with_reducible apply lCons); first | (refine dv hs gw_ rfl rfl da_ ?_; clear hs hm a; rintro _ w ⟨g, rfl, -, hm⟩ a hs) | (refine stn hs rfl rfl ds_ ?_; clear hs hm a; rintro - w hm a hs)) | refine sc_ ?_)
      obtain ⟨g11, en_⟩ := hs.pt 11 (by exact rfl); subst en_
      refine cMid (fun a w5 => Sl Tryz.f20.ntmps [(2, .pointer (some ⟨g2, 0, none⟩)), (3, .int .i64 0), (4, .int .i64 0), (5, .pointer (some ⟨x.g, 0, none⟩)), (6, .slice (some ⟨b1, o1, none⟩) (spl 10 s).length lc), (55, slv (some gj) x.r.js.length x.jc), (56, .int .i64 (x.r.js.length : Int)), (57, .int .i64 (q : Int)), (11, .pointer (some ⟨g11, 0, none⟩)), (12, .int .i64 (((atL x.r.lab jl).getD 0 : Nat) : Int)), (13, .bool (atL x.r.lab jl).isSome)] a ∧ Mm S1 wC [⟨some g11, 90, [.int .i64 (jat : Int), .int .i64 (jln : Int), txv jl]⟩, ⟨some gc, 54, ccs⟩] w5) ?_ ?_
      · skip
        refine cDraw (n := 12) [⟨some g11, 90, [.int .i64 (jat : Int), .int .i64 (jln : Int), txv jl]⟩] hm rfl rfl ?_
        clear hm
        intro w2 hm
        refine hV_ 0 ?_; clear hs a; intro a hs
        refine hV_ 1 ?_; clear hs a; intro a hs
        refine hV_ 2 ?_; clear hs a; intro a hs
        refine hTake 3 hs rfl (by kernel_rfl) (Wnt.none rfl) rfl rfl (by intro w hm; replace hm : Mm _ _ _ w := hm; exact klR_) (hm.sub sub_) ?_; clear hs a; intro a hs
        refine hV_ 4 ?_; clear hs a; intro a hs
        refine hTake 5 hs rfl (by kernel_rfl) (Wnt.none rfl) rfl rfl (by intro w hm; replace hm : Mm _ _ _ w := hm; exact klR_) (hm.sub sub_) ?_; clear hs a; intro a hs
        refine hTake 6 hs rfl (by kernel_rfl) (Wnt.none rfl) rfl rfl (by intro w hm; replace hm : Mm _ _ _ w := hm; (first | exact kvR_ | exact r_lookS hs rfl rfl rfl hjl hml hm hnml)) (hm.sub sub_) ?_; clear hs a; intro a hs
        refine hV_ 7 ?_; clear hs a; intro a hs
        refine hV_ 8 ?_; clear hs a; intro a hs
        refine hV_ 9 ?_; clear hs a; intro a hs
        refine hV_ 10 ?_; clear hs a; intro a hs
        refine hV_ 11 ?_; clear hs a; intro a hs
        refine hDone (by kernel_rfl) ?_
        exact And.intro rfl ⟨hs.sub (Has.all ⟨rfl, rfl, rfl, rfl, rfl, rfl, rfl, rfl, rfl, rfl, rfl, trivial⟩), hm⟩
      clear hs hm a
      rintro a w5 ⟨hs, hm⟩
      have hF5 : Fr D0 w2 w5 := hFw.then hm.fr (fun i _ hi => hxD i (hS1D i hi))
      have hPw : Pu wB w5 := hP.then hF5 (fun i hi h => by have := hD0B i h; omega)
      cases hat : atL x.r.lab jl with
      | none =>
        rw [hat] at hs
        have hp2 : parF s = (⟨[], [], []⟩, (jln : Int), 12) := by
          rw [hp, hJ]
          unfold jsF
          rw [hat]
        clear hp
        have hp := hp2
        have b2 : Blk w5 g2 26 #[.slice none 0 0, .slice none 0 0, .slice none 0 0] := hF5.blk b20 hng2
        have r11 : Ro w5 g11 0 [.int .i64 (jat : Int), .int .i64 (jln : Int), txv jl] := hm.ro (k := 0) (n := 3) mem_ (cutF_ok rfl)
        have hn11 : ¬ own [⟨some g2, 26, [.slice none 0 0, .slice none 0 0, .slice none 0 0]⟩] g11 := fun ⟨z, hz, e⟩ => by
          rcases List.mem_singleton.1 hz with rfl
          have e' : g2 = g11 := Option.some.inj e
          rcases hm.ow _ (List.mem_cons_self ..) g11 rfl with h1 | h1
          · have := b20.lt; have := hFw.size; omega
          · exact hng2 (by rw [e']; exact hxD _ (hS1D _ h1))
        clear hm
        have hm : Mm (own [⟨some g2, 26, [.slice none 0 0, .slice none 0 0, .slice none 0 0]⟩]) w5 [⟨some g2, 26, [.slice none 0 0, .slice none 0 0, .slice none 0 0]⟩] w5 := Mm.adopt2 b2
        repeat (first | (refine ovXAsv0_ ?_; clear hs a; intro a hs) | ((with_reducible apply lCons); first | (refine dv hs gw_ rfl rfl da_ ?_; clear hs hm a; rintro _ w ⟨g, rfl, -, hm⟩ a hs) | (refine stn hs rfl rfl ds_ ?_; clear hs hm a; rintro - w hm a hs)) | refine sc_ ?_)
        refine cMid (fun a w => Sl Tryz.f20.ntmps [(2, .pointer (some ⟨g2, 0, none⟩)), (3, .int .i64 (jln : Int)), (4, .int .i64 12)] a ∧ Mm (own [⟨some g2, 26, [.slice none 0 0, .slice none 0 0, .slice none 0 0]⟩]) w5 [⟨some g2, 26, [.slice none 0 0, .slice none 0 0, .slice none 0 0]⟩] w) ?_ ?_
        · skip
          refine cDraw (n := 6) [] hm rfl rfl ?_
          clear hm
          intro w2 hm
          refine hV_ 0 ?_; clear hs a; intro a hs
          refine hV_ 1 ?_; clear hs a; intro a hs
          refine hTake 2 hs rfl (by kernel_rfl) (Wnt.none rfl) rfl rfl (by intro w hm; replace hm : Mm _ _ _ w := hm; exact klR_) (hm.sub (List.nil_sublist _)) ?_; clear hs a; intro a hs
          refine hEach [3] (by kernel_rfl) (eDoN hs rfl (Wnt.none rfl) rfl ds_ ?_ eNil)
          clear hs hm
          rintro - w23 hm a hs
          refine ⟨hm.sub sub_, ?_⟩
          refine hV_ 4 ?_; clear hs a; intro a hs
          refine hV_ 5 ?_; clear hs a; intro a hs
          refine hDone (by kernel_rfl) ?_
          exact And.intro rfl ⟨hs.sub (Has.all ⟨rfl, rfl, rfl, trivial⟩), hm⟩
        clear hs hm a
        rintro a w6 ⟨hs, hm⟩
        repeat (first | (refine ovXAsv0_ ?_; clear hs a; intro a hs) | ((with_reducible apply lCons); first | (refine dv hs gw_ rfl rfl da_ ?_; clear hs hm a; rintro _ w ⟨g, rfl, -, hm⟩ a hs) | (refine stn hs rfl rfl ds_ ?_; clear hs hm a; rintro - w hm a hs)) | refine sc_ ?_)
        exact gRetN tab hs rfl (.cons (.cells rfl rfl rfl rfl (hm.ro (k := 0) (n := 3) mem_ (cutF_ok rfl))) (.cons (.tmp rfl) (.cons (.tmp rfl) .nil))) ⟨pvE, by rw [hp]; rfl, pvE_ok _, by rw [hp]; rfl, by rw [hp]; rfl, by rw [hp]; rfl, hPw.then hm.fr (fun i hi ⟨z, hz, e⟩ => by rcases List.mem_singleton.1 hz with rfl; cases e; omega)⟩
      | some kk =>
        rw [hat] at hs
        obtain ⟨ci, hci⟩ : ∃ z, code[jat]? = some z := ⟨_, List.getElem?_eq_getElem (by omega)⟩
        have hln2 := hrow.len
        have hle2 := hrow.le
        have hlt5 : jat * 5 + 4 < ccs.length := by rw [hln2]; omega
        have hnng : x.g ≠ gc := fun e => hng (by rw [← hS1]; exact ⟨_, List.mem_singleton.2 rfl, by rw [hgc, e]⟩)
        repeat (first | (refine ovXAsv0_ ?_; clear hs a; intro a hs) | ((with_reducible apply lCons); first | (refine dv hs gw_ rfl rfl da_ ?_; clear hs hm a; rintro _ w ⟨g, rfl, -, hm⟩ a hs) | (refine stn hs rfl rfl ds_ ?_; clear hs hm a; rintro - w hm a hs)) | refine sc_ ?_)
        refine cMid (fun a w6 => Sl Tryz.f20.ntmps [(2, .pointer (some ⟨g2, 0, none⟩)), (3, .int .i64 0), (4, .int .i64 0), (5, .pointer (some ⟨x.g, 0, none⟩)), (6, .slice (some ⟨b1, o1, none⟩) (spl 10 s).length lc), (55, slv (some gj) x.r.js.length x.jc), (56, .int .i64 (x.r.js.length : Int)), (57, .int .i64 (q : Int))] a ∧ Mm S1 wC [⟨some gc, 54, ccs.set (jat * 5 + 4) (.int .i64 (kk : Int))⟩] w6) ?_ ?_
        · skip
          refine cDraw (n := 11) [⟨some g11, 90, [.int .i64 (jat : Int), .int .i64 (jln : Int), txv jl]⟩] hm rfl rfl ?_
          clear hm
          intro w2 hm
          refine hV_ 0 ?_; clear hs a; intro a hs
          refine hV_ 1 ?_; clear hs a; intro a hs
          refine hV_ 2 ?_; clear hs a; intro a hs
          refine hV_ 3 ?_; clear hs a; intro a hs
          refine hTake 4 hs rfl (by kernel_rfl) (Wnt.none rfl) rfl rfl (by intro w hm; replace hm : Mm _ _ _ w := hm; exact klR_) (hm.sub sub_) ?_; clear hs a; intro a hs
          refine hV_ 5 ?_; clear hs a; intro a hs
          refine hTake 6 hs rfl (by kernel_rfl) (Wnt.none rfl) rfl rfl (by intro w hm; replace hm : Mm _ _ _ w := hm; exact klR_) (hm.sub sub_) ?_; clear hs a; intro a hs
          refine hV_ 7 ?_; clear hs a; intro a hs
          refine hTake 8 hs rfl (by kernel_rfl) (Wnt.none rfl) rfl rfl (by intro w hm; replace hm : Mm _ _ _ w := hm; (first | exact r_iz hs tab rfl rfl (by omega) | exact r_iy hs tab rfl rfl (by omega))) (hm.sub sub_) ?_; clear hs a; intro a hs
          refine hV_ 9 ?_; clear hs a; intro a hs
          refine hEach [10] (by kernel_rfl) (eDoN hs rfl (Wnt.none rfl) rfl ds_ ?_ eNil)
          clear hs hm
          rintro - w30 hm a hs
          refine ⟨hm.sub sub_, ?_⟩
          refine hDone (by kernel_rfl) ?_
          exact And.intro rfl ⟨hs.sub (Has.all ⟨rfl, rfl, rfl, rfl, rfl, rfl, rfl, rfl, trivial⟩), hm.sub sub_⟩
        clear hs hm a
        rintro a w6 ⟨hs, hm⟩
        repeat (first | (refine ovXAsv0_ ?_; clear hs a; intro a hs) | ((with_reducible apply lCons); first | (refine dv hs gw_ rfl rfl da_ ?_; clear hs hm a; rintro _ w ⟨g, rfl, -, hm⟩ a hs) | (refine stn hs rfl rfl ds_ ?_; clear hs hm a; rintro - w hm a hs)) | refine sc_ ?_)
        have hcs : (code.flatMap inV).set (jat * 5 + 4) (.int .i64 (kk : Int)) = (code.set jat { ci with m := (kk : Int) }).flatMap inV := flat_set inV 5 inV_len code jat 4 ci _ hci (by omega) _ rfl
        refine ⟨⟨q + 1, code.set jat { ci with m := (kk : Int) }, ccs.set (jat * 5 + 4) (.int .i64 (kk : Int))⟩, by dsimp only; omega, hs.sub (Has.all ⟨rfl, rfl, rfl, rfl, rfl, rfl, rfl, rfl, trivial⟩), hm, by dsimp only; omega, by dsimp only; rw [List.length_set]; exact hcl, by dsimp only; rw [← hcs]; exact hrow.set _ _, ?_⟩
        dsimp only
        rw [hJ]
        conv => lhs; unfold jsF
        rw [hat]
        dsimp only
        rw [modify_set _ code jat ci hci]
    · have hJ2 : jsF x.r.lab x.r.code x.r.js = (code, none) := by
        rw [hJ, List.drop_of_length_le (by omega)]
        rfl
      rw [hJ2] at hp
      dsimp only at hp
      have b2 : Blk w4 g2 26 #[.slice none 0 0, .slice none 0 0, .slice none 0 0] := hFw4.blk b20 hng2
      have rg4 := rg.ro hm hng
      have rg5 : ∀ _ : Unit, Ro w4 x.g (0 + 0) [slv x.cA x.r.code.length x.cc, slv x.sA x.r.ss.length x.sc, slv x.dA x.ws.length x.dc] := fun u => (rg3 u).ro hm hng
      have hrc4 : Rd w4 w4.heap.size (x.cA.map fun g => ⟨g, 0, none⟩) (code.flatMap inV) := hm.rd_row mem_ hrow
      have hrs4 := rdm hm.fr hrs hngs
      have hrd4 := rdm hm.fr hrd hngd
      have hrw4 : ∀ r ∈ x.ws, Rd w4 w4.heap.size (r.A.map fun g => ⟨g, 0, none⟩) (wds r.xs) := fun r hr => WS.rdn hm.fr (hrw r hr).1 (fun g hg hs1 => ((hrw r hr).2 g hg).1 (by
        rcases hS1D g hs1 with h1 | h1
        · rw [RdX.own_iff] at h1
          exact .inl (by rw [RdX.own_iff, hx1]; exact h1)
        · exact .inr (by rw [hx1]; exact h1)))
      have hngx : ¬ own [⟨some g2, 26, [.slice none 0 0, .slice none 0 0, .slice none 0 0]⟩] x.g := fun ⟨z, hz, e⟩ => by
        rcases List.mem_singleton.1 hz with rfl
        exact hgx (Option.some.inj e)
      have hPw := hPw4
      clear hm
      have hm : Mm (own [⟨some g2, 26, [.slice none 0 0, .slice none 0 0, .slice none 0 0]⟩]) w4 [⟨some g2, 26, [.slice none 0 0, .slice none 0 0, .slice none 0 0]⟩] w4 := Mm.adopt2 b2
      by_cases c1 : x.r.ss.length = 0
      · rw [if_pos (.inl (List.eq_nil_of_length_eq_zero c1))] at hp
        repeat (first | (refine ovXAsv0_ ?_; clear hs a; intro a hs) | ((with_reducible apply lCons); first | (refine dv hs gw_ rfl rfl da_ ?_; clear hs hm a; rintro _ w ⟨g, rfl, -, hm⟩ a hs) | (refine stn hs rfl rfl ds_ ?_; clear hs hm a; rintro - w hm a hs)) | refine sc_ ?_)
        exact gRetN tab hs rfl (.cons (.cells rfl rfl rfl rfl (hm.ro (k := 0) (n := 3) mem_ (cutF_ok rfl))) (.cons (.tmp rfl) (.cons (.tmp rfl) .nil))) ⟨pvE, by rw [hp]; rfl, pvE_ok _, by rw [hp]; rfl, by rw [hp]; rfl, by rw [hp]; rfl, hPw.then hm.fr (fun i hi ⟨z, hz, e⟩ => by rcases List.mem_singleton.1 hz with rfl; cases e; omega)⟩
      by_cases c2 : x.r.code.length = 0
      · rw [if_pos (.inr (.inl (List.eq_nil_of_length_eq_zero (by omega))))] at hp
        repeat (first | (refine ovXAsv0_ ?_; clear hs a; intro a hs) | ((with_reducible apply lCons); first | (refine dv hs gw_ rfl rfl da_ ?_; clear hs hm a; rintro _ w ⟨g, rfl, -, hm⟩ a hs) | (refine stn hs rfl rfl ds_ ?_; clear hs hm a; rintro - w hm a hs)) | refine sc_ ?_)
        exact gRetN tab hs rfl (.cons (.cells rfl rfl rfl rfl (hm.ro (k := 0) (n := 3) mem_ (cutF_ok rfl))) (.cons (.tmp rfl) (.cons (.tmp rfl) .nil))) ⟨pvE, by rw [hp]; rfl, pvE_ok _, by rw [hp]; rfl, by rw [hp]; rfl, by rw [hp]; rfl, hPw.then hm.fr (fun i hi ⟨z, hz, e⟩ => by rcases List.mem_singleton.1 hz with rfl; cases e; omega)⟩
      cases hla : x.r.last
      case true =>
        rw [if_pos (.inr (.inr hla))] at hp
        rw [hla] at rg4
        repeat (first | (refine ovXAsv0_ ?_; clear hs a; intro a hs) | ((with_reducible apply lCons); first | (refine dv hs gw_ rfl rfl da_ ?_; clear hs hm a; rintro _ w ⟨g, rfl, -, hm⟩ a hs) | (refine stn hs rfl rfl ds_ ?_; clear hs hm a; rintro - w hm a hs)) | refine sc_ ?_)
        exact gRetN tab hs rfl (.cons (.cells rfl rfl rfl rfl (hm.ro (k := 0) (n := 3) mem_ (cutF_ok rfl))) (.cons (.tmp rfl) (.cons (.tmp rfl) .nil))) ⟨pvE, by rw [hp]; rfl, pvE_ok _, by rw [hp]; rfl, by rw [hp]; rfl, by rw [hp]; rfl, hPw.then hm.fr (fun i hi ⟨z, hz, e⟩ => by rcases List.mem_singleton.1 hz with rfl; cases e; omega)⟩
      rw [if_neg (by rintro (h1 | h1 | h1); exact c1 (by rw [h1]; rfl); exact c2 (by rw [← hcl, h1]; rfl); rw [hla] at h1; cases h1)] at hp
      rw [hla] at rg4
      repeat (first | (refine ovXAsv0_ ?_; clear hs a; intro a hs) | ((with_reducible apply lCons); first | (refine dv hs gw_ rfl rfl da_ ?_; clear hs hm a; rintro _ w ⟨g, rfl, -, hm⟩ a hs) | (refine stn hs rfl rfl ds_ ?_; clear hs hm a; rintro - w hm a hs)) | refine sc_ ?_)
      clear rg4
      replace rg5 := rg5 ()
      repeat (first | (refine ovXAsv0_ ?_; clear hs a; intro a hs) | ((with_reducible apply lCons); first | (refine dv hs gw_ rfl rfl da_ ?_; clear hs hm a; rintro _ w ⟨g, rfl, -, hm⟩ a hs) | (refine stn hs rfl rfl ds_ ?_; clear hs hm a; rintro - w hm a hs)) | refine sc_ ?_)
      obtain ⟨p, hpp⟩ : ∃ p : PV, p = ⟨x.cA.map fun g => ⟨g, 0, none⟩, x.cc, code, x.sA.map fun g => ⟨g, 0, none⟩, x.sc, x.r.ss, x.dA.map fun g => ⟨g, 0, none⟩, x.dc, x.ws.map fun r => ⟨r.A.map fun g => ⟨g, 0, none⟩, r.c, r.xs⟩⟩ := ⟨_, rfl⟩
      have hpv : p.v = .agg #[slv x.cA x.r.code.length x.cc, slv x.sA x.r.ss.length x.sc, slv x.dA x.ws.length x.dc] := by
        rw [hpp]
        unfold PV.v
        dsimp only
        rw [hcl, List.length_map]
        rfl
      have hng2o : ∀ g, D0 g → ¬ own [⟨some g2, 26, [.slice none 0 0, .slice none 0 0, .slice none 0 0]⟩] g := fun g hg ⟨z, hz, e⟩ => by
        rcases List.mem_singleton.1 hz with rfl
        rw [← Option.some.inj e] at hg
        exact hng2 hg
      have hfin := hm.fr
      refine gRetN tab hs rfl (.cons (.cells rfl rfl rfl rfl (hm.ro (k := 0) (n := 3) mem_ (cutF_ok rfl))) (.cons (.tmp rfl) (.cons (.tmp rfl) .nil))) ⟨p, by rw [hp, hpv]; rfl, ?_, by rw [hp, hpp], by rw [hp, hpp], by rw [hp, hpp]; dsimp only; rw [hx.ws, List.map_map]; rfl, hPw.then hm.fr (fun i hi ⟨z, hz, e⟩ => by rcases List.mem_singleton.1 hz with rfl; cases e; omega)⟩
      rw [hpp]
      refine ⟨rdm hfin hrc4 (fun g hg => hng2o g (hcD g hg)), rdm hfin hrs4 (fun g hg => hng2o g (hsD g hg)), ?_, fun r hr => ?_⟩
      · dsimp only
        rw [List.map_map]
        exact rdm hfin hrd4 (fun g hg => hng2o g (hdD g hg))
      · dsimp only at hr
        obtain ⟨r0, hr0, rfl⟩ := List.mem_map.1 hr
        exact rd_g2 b2 (by intro v hv k n e; subst e; simp at hv) hfin (hrw4 r0 hr0)
  · have hA1 : rdA r0F (spl 10 s).dropLast 0 = if (rdF x.r ln k).2 = 0 then rdA (rdF x.r ln k).1 ((spl 10 s).dropLast.drop (k + 1)) (k + 1) else ((rdF x.r ln k).1, k, (rdF x.r ln k).2) := by
      have hkd : k < (spl 10 s).dropLast.length := by rw [List.length_dropLast]; omega
      rw [hA, rdA_drop hkd]
      have : (spl 10 s).dropLast[k] = ln := by rw [List.getElem_dropLast, hln]
      rw [this]
    clear hA
    repeat (first | (refine ovXAsv0_ ?_; clear hs a; intro a hs) | ((with_reducible apply lCons); first | (refine dv hs gw_ rfl rfl da_ ?_; clear hs hm a; rintro _ w ⟨g, rfl, -, hm⟩ a hs) | (refine stn hs rfl rfl ds_ ?_; clear hs hm a; rintro - w hm a hs)) | refine sc_ ?_)
    have hFw : Fr D0 w2 w := hF.then hm.fr (fun i _ hi => hxD i (.inl hi))
    have hPw : Pu wB w := hP.then hFw (fun i hi h => by have := hD0B i h; omega)
    have hx1ok : x1.ok w := RdX.ok_of hx (by rw [hx1M]; exact hm) hx1m (by rw [hx1]; exact hx.c) (by rw [hx1]; exact hx.s) (by rw [hx1]; exact hx.d) (by rw [hx1]; exact hx.j) (by rw [hx1]) (by rw [hx1]) (by rw [hx1]) (by rw [hx1]; exact hx.sz)
    have hx1D : ∀ i, x1.D i → D0 i := fun i hi => hxD i (by
      rcases hi with hi | hi
      · rw [RdX.own_iff, hx1] at hi
        exact .inl (RdX.own_iff.2 hi)
      · exact .inr (hi.trans hx1m))
    have hc := read_c x1 ln w hx1ok (by omega) (by rw [hx1r]; omega) (fun w'' hf => ht.pu (hPw.then hf (fun i hi h => by have := hD0B i (hx1D i h); omega)))
    rw [hx1g, hx1r, hx1l] at hc
    refine st hs rfl rfl rfl (d_call hs rfl rfl rfl (pl 45 rfl) (hc)) ?_; clear hs a; rintro _ w3 ⟨e, rfl, he, hfr, hy⟩ a hs
    have hF3 : Fr D0 w2 w3 := hFw.then hfr (fun i _ hi => hx1D i hi)
    have hP3 : Pu wB w3 := hP.then hF3 (fun i hi h => by have := hD0B i h; omega)
    have hszF := hFw.size
    clear hm
    by_cases he0 : e = 0
    case neg =>
      have hp : parF s = (⟨[], [], []⟩, (k : Int), e) := by
        rw [he] at he0 ⊢
        exact par_err hlong (by rw [hA1, if_neg he0]) he0
      have b2 : Blk w3 g2 26 #[.slice none 0 0, .slice none 0 0, .slice none 0 0] := hF3.blk b20 hng2
      have hPw := hP3
      have hm := Mm.adopt2 b2
      repeat (first | (refine ovXAsv0_ ?_; clear hs a; intro a hs) | ((with_reducible apply lCons); first | (refine dv hs gw_ rfl rfl da_ ?_; clear hs hm a; rintro _ w ⟨g, rfl, -, hm⟩ a hs) | (refine stn hs rfl rfl ds_ ?_; clear hs hm a; rintro - w hm a hs)) | refine sc_ ?_)
      exact gRetN tab hs rfl (.cons (.cells rfl rfl rfl rfl (hm.ro (k := 0) (n := 3) mem_ (cutF_ok rfl))) (.cons (.tmp rfl) (.cons (.tmp rfl) .nil))) ⟨pvE, by rw [hp]; rfl, pvE_ok _, by rw [hp]; rfl, by rw [hp]; rfl, by rw [hp]; rfl, hPw.then hm.fr (fun i hi ⟨z, hz, e⟩ => by rcases List.mem_singleton.1 hz with rfl; cases e; omega)⟩
    obtain ⟨y, hyy⟩ := hy he0
    clear hy
    have hG2 := rdF_G hG ln k
    subst he0
    rw [if_pos he.symm] at hA1
    have hm := Mm.nil (fun _ => False) w3
    repeat (first | (refine ovXAsv0_ ?_; clear hs a; intro a hs) | ((with_reducible apply lCons); first | (refine dv hs gw_ rfl rfl da_ ?_; clear hs hm a; rintro _ w ⟨g, rfl, -, hm⟩ a hs) | (refine stn hs rfl rfl ds_ ?_; clear hs hm a; rintro - w hm a hs)) | refine sc_ ?_)
    refine ⟨⟨k + 1, y⟩, by dsimp only; omega, by rw [show y.g = x.g from hyy.g.trans hx1g]; exact hs.sub (Has.all ⟨rfl, rfl, rfl, rfl, rfl, rfl, rfl, rfl, trivial⟩), hF3.pu hm.fr, by dsimp only; omega, (RdX.same hyy.ok (hyy.ok.mm.pu hm.fr)).ok, by dsimp only; rw [hyy.g, hx1g, hxg], by dsimp only; rw [hyy.m, hx1m, hxm], fun i hi => ?_, by dsimp only; rw [hyy.r]; exact hG2.1, by dsimp only; rw [hyy.r]; omega, by dsimp only; rw [hyy.r]; exact hA1⟩
    rcases hyy.nw i hi with h1 | h1
    · exact hx1D i h1
    · rw [hD0]
      omega
end Go.Proofs.YtajkekhnfobgiaaGreatDoor

/- The example that all the laws begin with; the deck's programs as programs in memory. -/
namespace Go.Proofs.YtajkekhnfobgiaaGreatDoor
set_option maxRecDepth 20000
open Go.RowKit

theorem exI1 : InG ⟨1, 0, 0, 0, 1⟩ 2 1 := by
  refine ⟨⟨⟨by decide, ?_, ?_, ?_, ?_, (fun e => by cases e), (fun e => by cases e)⟩, (fun e => by cases e)⟩, (fun e => by cases e), (fun e => by cases e)⟩ <;> decide
theorem exI2 : InG ⟨18, 0, 0, 0, 1⟩ 2 1 := by
  refine ⟨⟨⟨by decide, ?_, ?_, ?_, ?_, (fun e => by cases e), (fun e => by cases e)⟩, (fun _ => by decide)⟩, (fun _ => by decide), (fun e => by cases e)⟩ <;> decide
def exP (cA : Option Addr) (cc : Nat) (sA : Option Addr) (sc : Nat) (dA : Option Addr) (dc : Nat) (A : Option Addr) (c : Nat) : PV := ⟨cA, cc, [⟨1, 0, 0, 0, 1⟩, ⟨18, 0, 0, 0, 1⟩], sA, sc, [2], dA, dc, [⟨A, c, [7]⟩]⟩
theorem exGood (cA : Option Addr) (cc : Nat) (sA : Option Addr) (sc : Nat) (dA : Option Addr) (dc : Nat) (A : Option Addr) (c : Nat) : GoodP (exP cA cc sA sc dA dc A c) ∧ (exP cA cc sA sc dA dc A c).sm := by
  have h1 : SzOk [2] := ⟨by decide, by decide, by decide⟩
  have h2 : (([⟨1, 0, 0, 0, 1⟩, ⟨18, 0, 0, 0, 1⟩] : List In).length = 2) := rfl
  refine ⟨⟨h1, rfl, fun k h1 h2 => ?_, by show 1 ≤ 2; omega, by show 2 ≤ 64; omega, fun i hi => ?_⟩, ⟨by show 2 ≤ 1000; omega, by show 1 ≤ 1000; omega, by show 1 ≤ 1000; omega, fun r hr => ?_⟩⟩
  · obtain rfl : k = 0 := by have : k < 1 := h1; omega
    show (1 : Int) ≤ 2
    decide
  · rcases List.mem_cons.1 hi with rfl | hi
    · exact exI1
    · rcases List.mem_singleton.1 hi with rfl
      exact exI2
  · rcases List.mem_singleton.1 hr with rfl
    show 1 ≤ 1000 ∧ ∀ y ∈ ([7] : List Int), 0 ≤ y ∧ y ≤ 65535
    decide
theorem exText (cA : Option Addr) (cc : Nat) (sA : Option Addr) (sc : Nat) (dA : Option Addr) (dc : Nat) (A : Option Addr) (c : Nat) : textP (exP cA cc sA sc dA dc A c) = exT := by kernel_rfl
set_option maxHeartbeats 8000000 in
theorem awk_c (wB : World) (ht : TW wB) : Ret Tryz.prog 9 [] wB (fun u w' => u = .bool true ∧ Pu wB w') := by
  refine enterR Tryz.func9 rfl rfl rfl fun a hs hm => ?_
  repeat (first | (refine ov_ ?_; clear hs a; intro a hs) | ((with_reducible apply lCons); first | (refine dv hs gw_ rfl rfl da_ ?_; clear hs hm a; rintro _ w ⟨g, rfl, -, hm⟩ a hs) | (refine stn hs rfl rfl ds_ ?_; clear hs hm a; rintro - w hm a hs)) | refine sc_ ?_)
  refine st hs rfl rfl rfl (d_call hs rfl rfl rfl (pl 20 rfl) ((par_c exT _ (ht.pu hm.fr) (by show 30 ≤ 1000000000000; omega)))) ?_; clear hs a; rintro _ w1 ⟨p, rfl, hp, hc, hss, hws, hf⟩ a hs
  rw [ex_par] at hc hss hws hs
  have hP1 := hm.fr.pu hf
  clear hm hf
  have hm := Mm.nil (fun _ => False) w1
  obtain ⟨cA, cc, code, sA, sc, ss, dA, dc, ws⟩ := p
  dsimp only at hc hss hws
  subst hc hss
  obtain ⟨⟨A, c, xs⟩, rfl⟩ : ∃ r : WV, ws = [r] := by
    cases ws with
    | nil => cases hws
    | cons r t =>
      cases t with
      | nil => exact ⟨r, rfl⟩
      | cons r2 t => simp at hws
  obtain rfl : xs = [7] := by
    simp at hws
    exact hws
  unfold PV.v at hs
  dsimp only at hs
  have hn := fun w'' (hf : Pu w1 w'') => name_c 23 w'' (ht.pu (hP1.pu hf))
  obtain ⟨hgd, hsm⟩ := exGood cA cc sA sc dA dc A c
  repeat (first | (refine ov_ ?_; clear hs a; intro a hs) | ((with_reducible apply lCons); first | (refine dv hs gw_ rfl rfl da_ ?_; clear hs hm a; rintro _ w ⟨g, rfl, -, hm⟩ a hs) | (refine stn hs rfl rfl ds_ ?_; clear hs hm a; rintro - w hm a hs)) | refine sc_ ?_)
  refine st hs rfl rfl rfl (d_call hs rfl rfl rfl (pl 13 rfl) ((print_c (exP cA cc sA sc dA dc A c) _ (hp.pu hm.fr) hsm (ht.pu (hP1.pu hm.fr))))) ?_; clear hs a; rintro _ w2 ⟨h1, -, hf⟩ a hs
  obtain rfl := h1 hgd
  rw [exText] at hs
  replace hm := hm.pu hf
  clear hf h1
  have hE : (({ data := exT.toArray } : ByteArray).toList == ({ data := #[114, 101, 103, 105, 111, 110, 32, 50, 32, 55, 10, 108, 105, 32, 114, 48, 32, 49, 10, 108, 49, 58, 10, 106, 109, 112, 32, 108, 49, 10] } : ByteArray).toList) = true := sEqT (l := exT) (m := exT) rfl
  have hE2 : (({ data := (nameL 23).toArray } : ByteArray).toList == ({ data := #[115, 121, 115] } : ByteArray).toList) = true := sEqT (l := nameL 23) (m := [115, 121, 115]) (by kernel_rfl)
  repeat (first | (refine oq_ ?_; clear hs a; intro a hs) | ((with_reducible apply lCons); first | (refine dv hs gw_ rfl rfl da_ ?_; clear hs hm a; rintro _ w ⟨g, rfl, -, hm⟩ a hs) | (refine stn hs rfl rfl ds_ ?_; clear hs hm a; rintro - w hm a hs)) | ((with_reducible apply qNil); clear hm; intro w hm) | refine cQ_ ?_ | refine sc_ ?_)
  rw [hE] at hs
  repeat (first | (refine oq_ ?_; clear hs a; intro a hs) | ((with_reducible apply lCons); first | (refine dv hs gw_ rfl rfl da_ ?_; clear hs hm a; rintro _ w ⟨g, rfl, -, hm⟩ a hs) | (refine stn hs rfl rfl ds_ ?_; clear hs hm a; rintro - w hm a hs) | (refine dvc hs hm gw_ rfl rfl rfl rfl rfl (pl 15 rfl) (hn _ hm.fr) ?_; clear hs hm a; intro w hm a hs)) | ((with_reducible apply qCons); first | (refine qwc hs gw_ rfl rfl rfl rfl rfl (pl 15 rfl) (fun w hm => hn _ hm.fr) ?_; clear hs a; intro a hs)) | ((with_reducible apply qNil); clear hm; intro w hm) | refine cQ_ ?_ | refine sc_ ?_)
  rw [hE2] at hs
  repeat (first | (refine oq_ ?_; clear hs a; intro a hs) | ((with_reducible apply lCons); first | (refine dv hs gw_ rfl rfl da_ ?_; clear hs hm a; rintro _ w ⟨g, rfl, -, hm⟩ a hs) | (refine stn hs rfl rfl ds_ ?_; clear hs hm a; rintro - w hm a hs)) | ((with_reducible apply qNil); clear hm; intro w hm) | refine cQ_ ?_ | refine sc_ ?_)
  exact gRet1 hs rfl rfl ⟨rfl, hP1.pu hm.fr⟩
end Go.Proofs.YtajkekhnfobgiaaGreatDoor

/- Plain facts of a program's text: its bytes, its lines counted. -/
namespace Go.Proofs.YtajkekhnfobgiaaGreatDoor
set_option maxRecDepth 20000
open Go.RowKit

theorem u8_nat {k : Nat} (h : k < 256) : (UInt8.ofNat k).toNat = k := by rw [UInt8.toNat_ofNat']; omega
theorem decDig_dig : ∀ (u : Nat) (c : UInt8), c ∈ Lib.decDigits u → digB c = true := by
  intro u
  induction u using Nat.strongRecOn with
  | _ u ih =>
    intro c hc
    rw [Lib.decDigits] at hc
    split at hc
    · rcases List.mem_singleton.1 hc with rfl
      unfold digB
      rw [u8_nat (by omega)]
      exact decide_eq_true (by omega)
    · rcases List.mem_append.1 hc with hc | hc
      · exact ih (u / 10) (by omega) c hc
      · rcases List.mem_singleton.1 hc with rfl
        unfold digB
        rw [u8_nat (by omega)]
        exact decide_eq_true (by omega)
theorem itoa_dig {n : Int} (h : 0 ≤ n) : (Lib.itoa n).all digB = true := by
  obtain ⟨u, rfl⟩ : ∃ u : Nat, n = (u : Int) := ⟨n.toNat, by omega⟩
  rw [Lib.itoa_nonneg, List.all_eq_true]
  exact decDig_dig u
theorem alnB_of_dig {c : UInt8} (h : digB c = true) : alnB c = true := by unfold alnB; rw [h, Bool.or_true]
theorem itoa_aln {n : Int} (h : 0 ≤ n) : (Lib.itoa n).all alnB = true := by
  have h1 := List.all_eq_true.1 (itoa_dig h)
  exact List.all_eq_true.2 fun c hc => alnB_of_dig (h1 c hc)
theorem aln_ne {c : UInt8} (h : alnB c = true) : c ≠ 10 ∧ c ≠ 32 ∧ c ≠ 58 := by
  refine ⟨?_, ?_, ?_⟩ <;> (rintro rfl; revert h; decide)
theorem name_aln (op : Int) : (nameL op).all alnB = true := by
  unfold nameL
  split
  · cases h : nmL[op.toNat]? with
    | none => rfl
    | some x =>
      have h1 : ∀ y ∈ nmL, y.all alnB = true := by decide
      exact h1 x (List.mem_of_getElem? h)
  · rfl
structure In0 (i : In) : Prop where
  a : 0 ≤ i.a
  b : 0 ≤ i.b
  c : 0 ≤ i.c
  m : 0 ≤ i.m
theorem VlP.in0 {i : In} (h : VlP i) : In0 i := ⟨h.1.a.1, h.1.b.1, h.1.c.1, h.1.m.1⟩
theorem regW_aln (u : Bool) {v : Int} (h : 0 ≤ v) : ∀ x ∈ regW u v, x.all alnB = true := by
  intro x hx
  unfold regW at hx
  cases u
  · exact absurd hx List.not_mem_nil
  · rcases List.mem_singleton.1 hx with rfl
    rw [List.all_cons, itoa_aln h]; rfl
theorem lastW_aln (jb u : Bool) {v : Int} (h : 0 ≤ v) : ∀ x ∈ lastW jb u v, x.all alnB = true := by
  intro x hx
  unfold lastW at hx
  cases jb
  · cases u
    · exact absurd hx List.not_mem_nil
    · rcases List.mem_singleton.1 hx with rfl
      exact itoa_aln h
  · rcases List.mem_singleton.1 hx with rfl
    rw [List.all_cons, itoa_aln h]; rfl
theorem words_aln {i : In} (h : In0 i) : ∀ x ∈ wordsL i, x.all alnB = true := by
  intro x hx
  unfold wordsL wk at hx
  simp only [List.mem_append, List.mem_singleton] at hx
  rcases hx with (((rfl | hx) | hx) | hx) | hx
  · exact name_aln _
  · exact regW_aln _ h.a x hx
  · exact regW_aln _ h.b x hx
  · exact regW_aln _ h.c x hx
  · exact lastW_aln _ _ h.m x hx
/-- no end of a line, no colon -/
def ClnL (l : Tx) : Prop := ∀ c ∈ l, c ≠ 10 ∧ c ≠ 58
theorem ClnL.app {a b : Tx} (h : ClnL a) (k : ClnL b) : ClnL (a ++ b) := fun c hc => (List.mem_append.1 hc).elim (h c) (k c)
theorem ClnL.of_aln {a : Tx} (h : a.all alnB = true) : ClnL a := fun c hc => ⟨(aln_ne (List.all_eq_true.1 h c hc)).1, (aln_ne (List.all_eq_true.1 h c hc)).2.2⟩
theorem cln_join {sep : Tx} (hs : ClnL sep) : ∀ xs : List Tx, (∀ x ∈ xs, ClnL x) → ClnL (Lib.join xs sep)
  | [], _ => fun c hc => absurd hc List.not_mem_nil
  | x :: t, h => by
    rw [Lib.join_cons]
    refine (h x (List.mem_cons_self ..)).app fun c hc => ?_
    unfold Lib.joinTail at hc
    obtain ⟨y, hy, hc⟩ := List.mem_flatten.1 hc
    obtain ⟨z, hz, rfl⟩ := List.mem_map.1 hy
    rcases List.mem_append.1 hc with hc | hc
    · exact hs c hc
    · exact h z (List.mem_cons_of_mem _ hz) c hc
theorem cln_line {i : In} (h : In0 i) : ClnL (lineL i) := cln_join (by intro c hc; rcases List.mem_singleton.1 hc with rfl; decide) _ fun x hx => .of_aln (words_aln h x hx)
theorem cln_wds : ∀ xs : List Int, (∀ y ∈ xs, 0 ≤ y) → ClnL (xs.flatMap wdL)
  | [], _ => fun c hc => absurd hc List.not_mem_nil
  | x :: t, h => by
    rw [List.flatMap_cons]
    refine ClnL.app (fun c hc => ?_) (cln_wds t fun y hy => h y (List.mem_cons_of_mem _ hy))
    unfold wdL at hc
    rcases List.mem_cons.1 hc with rfl | hc
    · decide
    · exact ClnL.of_aln (itoa_aln (h x (List.mem_cons_self ..))) c hc
theorem cln_rgH {n : Int} (h : 0 ≤ n) : ClnL (rgH n) := by
  unfold rgH
  refine ClnL.app (by intro c hc; revert c; decide) (.of_aln (itoa_aln h))
/-- how often a colon stands ahead of an end of a line -/
def occ : Tx → Nat
  | [] => 0
  | a :: t => (if a = 58 ∧ t.head? = some 10 then 1 else 0) + occ t
theorem occ_at0 (a : UInt8) (t : Tx) : Lib.occAt (a :: t) [58, 10] 0 = decide (a = 58 ∧ t.head? = some 10) := by
  unfold Lib.occAt
  rw [List.drop_zero, List.isPrefixOf]
  by_cases h : a = 58
  · subst h
    cases t with
    | nil => rfl
    | cons b t =>
      by_cases hb : b = 10
      · subst hb; rfl
      · have hb2 : ((10 : UInt8) == b) = false := beq_eq_false_iff_ne.2 fun e => hb e.symm
        simp [List.isPrefixOf, hb, hb2]
  · have h2 : ((58 : UInt8) == a) = false := beq_eq_false_iff_ne.2 fun e => h e.symm
    simp [h, h2]
theorem occ_drop : ∀ (i : Nat) (l : Tx), i ≤ l.length → (∀ j, j < i → Lib.occAt l [58, 10] j = false) → occ l = occ (l.drop i)
  | 0, _, _, _ => rfl
  | i + 1, [], h, _ => absurd h (Nat.not_succ_le_zero i)
  | i + 1, a :: t, h, hn => by
    have h0 := hn 0 (Nat.succ_pos _)
    rw [occ_at0, decide_eq_false_iff_not] at h0
    rw [List.drop_succ_cons, ← occ_drop i t (by simpa using h) (fun j hj => hn (j + 1) (Nat.succ_lt_succ hj))]
    show (if a = 58 ∧ t.head? = some 10 then 1 else 0) + occ t = occ t
    rw [if_neg h0, Nat.zero_add]
theorem cnt_occ (l : Tx) : Lib.count l [58, 10] = occ l := by
  induction h : l.length using Nat.strongRecOn generalizing l with
  | _ n ih =>
    rcases Lib.index_spec l [58, 10] with ⟨h1, h2⟩ | ⟨i, h1, h2, h3, h4⟩
    · rw [Lib.count_miss h1, occ_drop l.length l (Nat.le_refl _) (fun j hj => h2 j (by omega)), List.drop_length]
      rfl
    · rw [Lib.count_hit (by simp) h1, occ_drop i l h2 (fun j hj => h4 j hj)]
      have h5 : Lib.occAt (l.drop i) [58, 10] 0 = true := by unfold Lib.occAt at h3 ⊢; rw [List.drop_zero]; exact h3
      cases hd : l.drop i with
      | nil => rw [hd] at h5; cases h5
      | cons a t =>
        rw [hd, occ_at0, decide_eq_true_iff] at h5
        obtain ⟨rfl, ht⟩ := h5
        cases t with
        | nil => cases ht
        | cons b r =>
          obtain rfl : b = 10 := by simpa using ht
          have hd2 : l.drop (i + 2) = r := by rw [← List.drop_drop, hd]; rfl
          have hlen : i + 2 ≤ l.length := by
            have := congrArg List.length hd
            rw [List.length_drop] at this
            simp only [List.length_cons] at this
            omega
          show 1 + Lib.count (l.drop (i + 2)) [58, 10] = _
          rw [hd2, ih r.length (by rw [← h, ← hd2, List.length_drop]; omega) r rfl]
          show _ = (if (58 : UInt8) = 58 ∧ ((10 : UInt8) :: r).head? = some 10 then 1 else 0) + ((if (10 : UInt8) = 58 ∧ r.head? = some 10 then 1 else 0) + occ r)
          rw [if_pos ⟨rfl, rfl⟩, if_neg (fun e => absurd e.1 (by decide)), Nat.zero_add]
theorem occ_app : ∀ a b : Tx, a.getLast? ≠ some 58 → occ (a ++ b) = occ a + occ b
  | [], b, _ => by show occ b = 0 + occ b; omega
  | x :: t, b, h => by
    show (if x = 58 ∧ (t ++ b).head? = some 10 then 1 else 0) + occ (t ++ b) = (if x = 58 ∧ t.head? = some 10 then 1 else 0) + occ t + occ b
    cases t with
    | nil =>
      have hx : ¬ x = 58 := fun e => h (by rw [e]; rfl)
      rw [if_neg (fun e => hx e.1), if_neg (fun e => hx e.1)]
      show 0 + occ b = 0 + 0 + occ b
      omega
    | cons y t =>
      rw [occ_app (y :: t) b (by rw [List.getLast?_cons_cons] at h; exact h)]
      have : ((y :: t) ++ b).head? = (y :: t).head? := rfl
      rw [this]
      omega
theorem occ_cln : ∀ l : Tx, (∀ c ∈ l, c ≠ 58) → occ l = 0
  | [], _ => rfl
  | a :: t, h => by
    show (if a = 58 ∧ t.head? = some 10 then 1 else 0) + occ t = 0
    rw [if_neg (fun e => h a (List.mem_cons_self ..) e.1), occ_cln t fun c hc => h c (List.mem_cons_of_mem _ hc)]
theorem last_ne {l : Tx} (h : ∀ c ∈ l, c ≠ 58) : l.getLast? ≠ some 58 := fun e => h 58 (List.mem_of_getLast? e) rfl
theorem last10 (l : Tx) : (l ++ [10]).getLast? ≠ some 58 := by rw [List.getLast?_append]; simp
theorem cnt_cln {l : Tx} (h : ClnL l) : l.count 10 = 0 := List.count_eq_zero.2 fun e => (h 10 e).1 rfl
/-- jumps' targets ahead of k -/
def tcnt (code : List In) (k : Nat) : Nat := ((List.range k).filter fun j : Nat => tgB code (j : Int)).length
theorem tcnt_succ (code : List In) (k : Nat) : tcnt code (k + 1) = tcnt code k + if tgB code (k : Int) = true then 1 else 0 := by
  unfold tcnt
  rw [List.range_succ, List.filter_append, List.length_append]
  cases h : tgB code (k : Int)
  · simp [h]
  · simp [h]
theorem rg_cnt {n : Int} {xs : List Int} (h : 0 ≤ n) (hx : ∀ y ∈ xs, 0 ≤ y) : (rgL n xs).count 10 = 1 ∧ occ (rgL n xs) = 0 ∧ (rgL n xs).getLast? ≠ some 58 := by
  have hc : ClnL (rgH n ++ xs.flatMap wdL) := (cln_rgH h).app (cln_wds xs hx)
  unfold rgL
  refine ⟨by rw [List.count_append, cnt_cln hc]; rfl, occ_cln _ fun c hc' => ?_, last10 _⟩
  rcases List.mem_append.1 hc' with h1 | h1
  · exact (hc c h1).2
  · rcases List.mem_singleton.1 h1 with rfl; decide
theorem cd_cnt (code : List In) (k : Nat) {i : In} (h : In0 i) : (cdL code k i).count 10 = (if tgB code (k : Int) = true then 1 else 0) + 1 ∧ occ (cdL code k i) = (if tgB code (k : Int) = true then 1 else 0) ∧ (cdL code k i).getLast? ≠ some 58 := by
  have hl := cln_line h
  have hlb : ClnL (108 :: Lib.itoa (k : Int)) := ClnL.app (a := [108]) (by intro c hc; rcases List.mem_singleton.1 hc with rfl; decide) (.of_aln (itoa_aln (by omega)))
  have e2 : occ (lineL i ++ [10]) = 0 := occ_cln _ fun c hc' => by
    rcases List.mem_append.1 hc' with h1 | h1
    · exact (hl c h1).2
    · rcases List.mem_singleton.1 h1 with rfl; decide
  unfold cdL
  cases htg : tgB code (k : Int)
  · rw [if_neg (by decide), if_neg (by decide), List.nil_append, List.count_append, cnt_cln hl]
    exact ⟨rfl, e2, last10 _⟩
  · rw [if_pos rfl, if_pos rfl]
    unfold lbL
    refine ⟨by rw [List.count_append, List.count_append, List.count_append, cnt_cln hlb, cnt_cln hl]; rfl, ?_, by rw [← List.append_assoc]; exact last10 _⟩
    rw [occ_app _ _ (by rw [List.getLast?_append]; simp), e2, occ_app _ _ (last_ne fun c hc => (hlb c hc).2), occ_cln _ fun c hc => (hlb c hc).2]
    rfl
theorem rgs_cnt {p : PV} (h : GoodP p) (hs : p.sm) : ∀ k, k ≤ p.ss.length → (rgsL p.ss p.ws k).count 10 = k ∧ occ (rgsL p.ss p.ws k) = 0 ∧ (rgsL p.ss p.ws k).getLast? ≠ some 58
  | 0, _ => ⟨rfl, rfl, by simp [rgsL]⟩
  | k + 1, hk => by
    obtain ⟨h1, h2, h3⟩ := rgs_cnt h hs k (by omega)
    have hkw : k < p.ws.length := by rw [h.wl]; omega
    have hg := h.gs hs
    have hsk := hg.s k (by omega)
    have hxk := hg.x k (by rw [h.wl]; omega)
    rw [rgsL_succ, List.getD_eq_getElem?_getD, List.getElem?_eq_getElem (show k < p.ss.length by omega), List.getD_eq_getElem?_getD, List.getElem?_eq_getElem (show k < p.ws.length by rw [h.wl]; omega), Option.getD_some, Option.getD_some]
    obtain ⟨r1, r2, r3⟩ := rg_cnt (n := p.ss[k]) (xs := p.ws[k].xs) (by omega) fun y hy => (hxk.2 y hy).1
    refine ⟨by rw [List.count_append, h1, r1], by rw [occ_app _ _ h3, h2, r2], ?_⟩
    rw [List.getLast?_append]
    cases hgl : (rgL p.ss[k] p.ws[k].xs).getLast? with
    | none => exact absurd (List.getLast?_eq_none_iff.1 hgl) (by unfold rgL; simp)
    | some c => rw [hgl] at r3; exact r3
theorem cds_cnt {p : PV} (h : GoodP p) : ∀ k, k ≤ p.code.length → (cdsL p.code k).count 10 = k + tcnt p.code k ∧ occ (cdsL p.code k) = tcnt p.code k ∧ (cdsL p.code k).getLast? ≠ some 58
  | 0, _ => ⟨rfl, rfl, by simp [cdsL]⟩
  | k + 1, hk => by
    obtain ⟨h1, h2, h3⟩ := cds_cnt h k (by omega)
    rw [cdsL_succ, List.getD_eq_getElem?_getD, List.getElem?_eq_getElem (show k < p.code.length by omega), Option.getD_some]
    obtain ⟨r1, r2, r3⟩ := cd_cnt p.code k (h.inv _ (List.getElem_mem (show k < p.code.length by omega))).1.in0
    rw [tcnt_succ]
    refine ⟨by rw [List.count_append, h1, r1]; omega, by rw [occ_app _ _ h3, h2, r2], ?_⟩
    rw [List.getLast?_append]
    cases hgl : (cdL p.code k p.code[k]).getLast? with
    | none => exact absurd (List.getLast?_eq_none_iff.1 hgl) (by unfold cdL; simp)
    | some c => rw [hgl] at r3; exact r3
theorem text_cnt {p : PV} (h : GoodP p) (hs : p.sm) : (textP p).count 10 = p.ss.length + (p.code.length + tcnt p.code p.code.length) ∧ Lib.count (textP p) [58, 10] = tcnt p.code p.code.length ∧ [10].isSuffixOf (textP p) = true := by
  obtain ⟨a1, a2, a3⟩ := rgs_cnt h hs p.ss.length (Nat.le_refl _)
  obtain ⟨b1, b2, b3⟩ := cds_cnt h p.code.length (Nat.le_refl _)
  unfold textP
  refine ⟨by rw [List.count_append, a1, b1], by rw [cnt_occ, occ_app _ _ a3, a2, b2, Nat.zero_add], ?_⟩
  obtain ⟨k, hk⟩ : ∃ k, p.code.length = k + 1 := ⟨p.code.length - 1, by have := h.c1; omega⟩
  rw [hk, cdsL_succ]
  unfold cdL
  rw [List.isSuffixOf_iff_suffix]
  exact ⟨_, by rw [← List.append_assoc, ← List.append_assoc, ← List.append_assoc]⟩
end Go.Proofs.YtajkekhnfobgiaaGreatDoor

/- The deck's programs as programs in memory; a map of numbers whose size is known. -/
namespace Go.Proofs.YtajkekhnfobgiaaGreatDoor
set_option maxRecDepth 20000
open Go.RowKit

def WS.wv (r : WS) : WV := ⟨r.A.map fun g => ⟨g, 0, none⟩, r.c, r.xs⟩
def PgX.pv (p : PgX) : PV := ⟨some ⟨p.cA, 0, none⟩, p.cc, p.code, some ⟨p.gs, 0, none⟩, p.sc, p.ss, p.dA.map fun g => ⟨g, 0, none⟩, p.dc, p.ws.map WS.wv⟩
theorem PgX.pv_v (p : PgX) : p.pv.v = p.v := by
  unfold PV.v PgX.pv PgX.v
  dsimp only
  rw [List.length_map]
  rfl
theorem PgX.pv_ok {p : PgX} {w : World} (h : RwsOk p.rows w) : p.pv.ok w := by
  have h1 := h (some p.cA, p.code.flatMap inV) (List.mem_cons_self ..)
  have h2 := h (some p.gs, ints p.ss) (List.mem_cons_of_mem _ (List.mem_cons_self ..))
  have h3 := h (p.dA, p.ws.map WS.v) (List.mem_cons_of_mem _ (List.mem_cons_of_mem _ (List.mem_cons_self ..)))
  refine ⟨h1, h2, ?_, fun r hr => ?_⟩
  · unfold PgX.pv
    dsimp only
    rw [List.map_map]
    exact h3
  · obtain ⟨r0, hr0, rfl⟩ := List.mem_map.1 hr
    exact h (r0.A, wds r0.xs) (List.mem_cons_of_mem _ (List.mem_cons_of_mem _ (List.mem_cons_of_mem _ (List.mem_map.2 ⟨r0, hr0, rfl⟩))))
theorem PgX.good {p : PgX} (h : PgV p) : GoodP p.pv ∧ p.pv.sm := by
  have hwl := h.wl
  have hz := h.sz
  have h1 := h.c1
  have h2 := h.c2
  refine ⟨⟨hz, by show (p.ws.map WS.wv).length = _; rw [List.length_map]; exact hwl, fun k k1 k2 => ?_, h1, h2, fun i hi => ?_⟩, ⟨by show p.code.length ≤ 1000; omega, by have := hz.four; show p.ss.length ≤ 1000; omega, by have := hz.four; show (p.ws.map WS.wv).length ≤ 1000; rw [List.length_map]; omega, fun r hr => ?_⟩⟩
  · have k1' : k < p.ws.length := by have : k < (p.ws.map WS.wv).length := k1; rwa [List.length_map] at this
    have := h.fit k k1' k2
    have e : (p.pv.ws[k]).xs = (p.ws[k]).xs := by
      show ((p.ws.map WS.wv)[k]'(by rw [List.length_map]; exact k1')).xs = _
      rw [List.getElem_map]; rfl
    rw [e]
    exact this
  · have hi' : i ∈ p.code := hi
    have h3 := h.inv i hi'
    have h4 := h.ju i hi'
    have h5 := hz.four
    refine ⟨⟨⟨h3.op, h3.a, h3.b, h3.c, h3.m, fun e => by have := h3.lea e; omega, h3.sys⟩, fun e => by have := h4 e; omega⟩, h4, h3.lea⟩
  · obtain ⟨r0, hr0, rfl⟩ := List.mem_map.1 hr
    refine ⟨?_, h.bd r0 hr0⟩
    obtain ⟨k, hk, e⟩ := List.getElem_of_mem hr0
    have := h.fit k hk (by omega)
    have h6 := hz.bd _ (List.getElem_mem (show k < p.ss.length by omega))
    rw [e] at this
    show r0.xs.length ≤ 1000
    omega
/-- block b is a map of numbers to truths that holds just the numbers ks, each once -/
def MS (b : Nat) (ks : List Int) (w : World) : Prop := ∃ D : DataW Unit, w.ownsMap Tryz.prog 3 (plainElem Tryz.prog 4) b ks.length D ∧ Maps.Tidy D ∧ Maps.size D = ks.length ∧ ks.Nodup ∧ ∀ t, Maps.has D (.int .i64 t) = decide (t ∈ ks)
theorem MS.keep {S : Nat → Prop} {b : Nat} {ks : List Int} {w w' : World} (h : MS b ks w) (hf : Fr S w w') (hb : ¬ S b) : MS b ks w' := by
  obtain ⟨D, ⟨es, clock, hbk, r⟩, h2⟩ := h
  exact ⟨D, ⟨es, clock, fr_grown hf hb _ hbk, r⟩, h2⟩
theorem MS.lt {b : Nat} {ks : List Int} {w : World} (h : MS b ks w) : b < w.heap.size := by
  obtain ⟨D, h1, _⟩ := h
  exact h1.lt
theorem MS.made (w : World) : MS w.heap.size [] (w.alloc (.map #[] 0)) := ⟨.map [], World.ownsMap_made w _ _ _, Maps.tidy_empty, rfl, List.nodup_nil, fun _ => rfl⟩
def insK (k : Int) (ks : List Int) : List Int := if k ∈ ks then ks else k :: ks
section
variable {N : Nat} {L : List (Nat × Value)} {a : Act} {w w0 : World} {S : Nat → Prop} {M : List Hp} {o : Oper} {x y z : Operand}
theorem d_makeMapM (ho : o.op = .makeMap 52 none) (hm : Mm S w0 M w) : Does Tryz.prog a o w (fun v w' => v = .map (some w.heap.size) ∧ MS w.heap.size [] w' ∧ Pu w w' ∧ Mm S w0 M w') := by
  have hrun := run_makeMap (P := Tryz.prog) 52 w
  unfold Does execOp
  simp [ho, hrun]
  exact ⟨MS.made w, (Fr.refl _ w).alloc _, hm.pu ((Fr.refl _ w).alloc _)⟩
theorem d_mapUpM {b : Nat} {ks : List Int} {k : Int} (hs : Sl N L a) (ho : o.op = .mapUpdate 52 x y z) (hx : ev L x = some (.map (some b))) (hy : ev L y = some (.int .i64 k)) (hz : ev L z = some (.bool true)) (hk : (Lit.int .i64 k).wf = true) (h : MS b ks w) (hn : ks.length < maxLen) : Does Tryz.prog a o w (fun _ w' => MS b (insK k ks) w' ∧ Fr (fun i => i = b) w w') := by
  replace hx := hs.ev hx; replace hy := hs.ev hy; replace hz := hs.ev hz
  obtain ⟨D, h1, h2, h3, h4, h5⟩ := h
  obtain ⟨w', hrun, hown, hgr⟩ := h1.update (Maps.int_keyed intT) mapT hn (Maps.keyOf_int_mk intT hk) (plainElem_bool boolT true)
  have hkey : WideAt.IsKeyLit (.int .i64 k) := (Maps.int_keyed intT).key (Maps.keyOf_int_mk intT hk)
  unfold Does execOp
  simp [ho, hx, hy, hz, hrun]
  have hsz := Maps.size_put (k := .int .i64 k) h2 (.lit (.bool true))
  rw [h5] at hsz
  have hlen : (insK k ks).length = Maps.size (D.put (.int .i64 k) (.lit (.bool true))) := by
    rw [hsz]
    unfold insK
    by_cases e : k ∈ ks
    · rw [if_pos e, if_pos (decide_eq_true e), h3]
    · rw [if_neg e, if_neg (by rw [decide_eq_false e]; decide), List.length_cons, h3]
  obtain ⟨es, clock, hb', hF', hs', hD'⟩ := hown
  have hle : es.size ≤ (insK k ks).length := by
    rw [hlen, hD']
    show es.size ≤ ((es.toList.map (WideElems.rg Tryz.prog 3 (plainElem Tryz.prog 4))).foldr DataW.insert []).length
    rw [length_sorted]
    simp
  refine ⟨⟨_, ⟨es, clock, hb', hF', hle, hD'⟩, h2.put hkey _, hlen.symm, ?_, fun t => ?_⟩, ⟨hgr.os, hgr.tape, hgr.output, hgr.size, fun i hi hb => hgr.block i hi (fun e => hb (Option.some.inj e))⟩⟩
  · unfold insK
    split
    · exact h4
    · rename_i e
      exact List.nodup_cons.2 ⟨e, h4⟩
  · by_cases e : t = k
    · subst e
      rw [Maps.has_put_same h2.isMap hkey]
      unfold insK
      split
      · rename_i e; exact (decide_eq_true e).symm
      · exact (decide_eq_true (List.mem_cons_self ..)).symm
    · rw [Maps.has_put_other (fun h => e (by injection h)), h5]
      unfold insK
      split
      · rfl
      · simp [e]
theorem r_lenMS {b : Nat} {ks : List Int} (hs : Sl N L a) (ho : o.op = .call { callee := .builtin .len, args := #[x], argTypes := #[52] }) (hx : ev L x = some (.map (some b))) (h : MS b ks w0) (hm : Mm S w0 M w) (hb : ¬ S b) : RunV Tryz.prog a o w (.int .i64 (ks.length : Int)) := by
  replace hx := hs.ev hx
  obtain ⟨D, h1, -, h2, -⟩ := h.keep hm.fr hb
  have hrun := fun ty => h1.len mapT ty
  rw [h2] at hrun
  unfold RunV execOp resolve invoke builtin
  simp [ho, hx, hrun]
end
end Go.Proofs.YtajkekhnfobgiaaGreatDoor

/- A program is read back from its text, whatever its labels are called: numbers, words, lines. -/
namespace Go.Proofs.YtajkekhnfobgiaaGreatDoor
set_option maxRecDepth 20000
open Go.RowKit

/-! numbers -/
theorem valL_app (n : Nat) (a : Tx) (c : UInt8) : valL n (a ++ [c]) = valL n a * 10 + (c.toNat - 48) := by
  unfold valL
  rw [List.foldl_append]
  rfl
theorem decDig_val : ∀ u : Nat, valL 0 (Lib.decDigits u) = u := by
  intro u
  induction u using Nat.strongRecOn with
  | _ u ih =>
    rw [Lib.decDigits]
    split
    · show valL 0 ([] ++ [UInt8.ofNat (48 + u)]) = u
      rw [valL_app, valL_nil, u8_nat (by omega)]
      omega
    · rw [valL_app, ih (u / 10) (by omega), u8_nat (by omega)]
      omega
theorem decDig_ne (u : Nat) : Lib.decDigits u ≠ [] := by
  rw [Lib.decDigits]
  split
  · simp
  · simp
theorem decDig_head : ∀ u : Nat, 1 ≤ u → (Lib.decDigits u).head? ≠ some 48 := by
  intro u
  induction u using Nat.strongRecOn with
  | _ u ih =>
    intro h1
    rw [Lib.decDigits]
    split
    · intro e
      have e2 : UInt8.ofNat (48 + u) = 48 := by simpa using e
      have := congrArg UInt8.toNat e2
      rw [u8_nat (by omega)] at this
      have h48 : (48 : UInt8).toNat = 48 := rfl
      omega
    · cases hh : Lib.decDigits (u / 10) with
      | nil => exact absurd hh (decDig_ne _)
      | cons c t =>
        have h2 := ih (u / 10) (by omega) (by omega)
        rw [hh] at h2
        exact h2
theorem decF_itoa {n : Int} (h : 0 ≤ n ∧ n ≤ 65535) : decF (Lib.itoa n) = some n := by
  obtain ⟨u, rfl⟩ : ∃ u : Nat, n = (u : Int) := ⟨n.toNat, by omega⟩
  rw [Lib.itoa_nonneg]
  have hB : decB (Lib.decDigits u) = true := (decB_iff _).2 ⟨decDig_ne u, List.all_eq_true.2 (decDig_dig u), fun hl => by
    refine decDig_head u ?_
    rcases Nat.eq_zero_or_pos u with rfl | h0
    · rw [Lib.decDigits] at hl
      simp at hl
    · exact h0⟩
  unfold decF
  rw [if_pos hB, decDig_val]
  congr 1
  omega
theorem itoa_inj {a b : Nat} (h : Lib.itoa (a : Int) = Lib.itoa (b : Int)) : a = b := by
  rw [Lib.itoa_nonneg, Lib.itoa_nonneg] at h
  rw [← decDig_val a, ← decDig_val b, h]
theorem itoa_ne {n : Int} (h : 0 ≤ n) : Lib.itoa n ≠ [] := by
  obtain ⟨u, rfl⟩ : ∃ u : Nat, n = (u : Int) := ⟨n.toNat, by omega⟩
  rw [Lib.itoa_nonneg]
  exact decDig_ne u
theorem nDig_le : ∀ (k u : Nat), u < 10 ^ (k + 1) → Lib.nDigits u ≤ k + 1
  | 0, u, h => by rw [Lib.nDigits_small (by simpa using h)]; exact Nat.le_refl _
  | k + 1, u, h => by
    by_cases hu : u < 10
    · rw [Lib.nDigits_small hu]; omega
    · rw [Lib.nDigits_big hu]
      have := nDig_le k (u / 10) (by rw [Nat.pow_succ] at h; omega)
      omega
theorem itoa_le (k : Nat) {n : Int} (h0 : 0 ≤ n) (h : n < ((10 ^ (k + 1) : Nat) : Int)) : (Lib.itoa n).length ≤ k + 1 := by
  obtain ⟨u, rfl⟩ : ∃ u : Nat, n = (u : Int) := ⟨n.toNat, by omega⟩
  rw [Lib.itoa_nonneg, Lib.decDigits_length]
  exact nDig_le k u (by omega)
/-! words -/
theorem spl_words (c : UInt8) : ∀ (ws : List Tx) (w : Tx), c ∉ w → (∀ x ∈ ws, c ∉ x) → spl c (w ++ ws.flatMap fun x => c :: x) = w :: ws
  | [], w, h, _ => by rw [List.flatMap_nil, List.append_nil]; exact spl_miss c w h
  | x :: t, w, h, hs => by
    rw [List.flatMap_cons, List.cons_append, spl_hit c w _ h, spl_words c t x (hs x (List.mem_cons_self ..)) (fun y hy => hs y (List.mem_cons_of_mem _ hy))]
theorem join_words (w : Tx) (ws : List Tx) : Lib.join (w :: ws) [32] = w ++ ws.flatMap fun x => 32 :: x := by
  rw [Lib.join_cons]
  unfold Lib.joinTail
  rw [List.flatMap_def]
  rfl
theorem spl_lines : ∀ L : List Tx, (∀ x ∈ L, (10 : UInt8) ∉ x) → spl 10 (L.flatMap fun x => x ++ [10]) = L ++ [[]]
  | [], _ => rfl
  | x :: t, h => by
    rw [List.flatMap_cons, List.append_assoc]
    show spl 10 (x ++ 10 :: (t.flatMap fun x => x ++ [10])) = _
    rw [spl_hit 10 x _ (h x (List.mem_cons_self ..)), spl_lines t (fun y hy => h y (List.mem_cons_of_mem _ hy))]
    rfl
theorem no_of_cln {l : Tx} (h : ClnL l) : (10 : UInt8) ∉ l := fun e => (h 10 e).1 rfl
theorem no32_aln {l : Tx} (h : l.all alnB = true) : (32 : UInt8) ∉ l := fun e => (aln_ne (List.all_eq_true.1 h 32 e)).2.1 rfl
theorem labF_none {l : Tx} (h : ∀ c ∈ l, c ≠ 58) : labF l = none := by
  unfold labF
  have : [58].isSuffixOf l = false := by
    rw [Bool.eq_false_iff]
    intro e
    rw [List.isSuffixOf_iff_suffix] at e
    exact h 58 (e.subset (List.mem_singleton.2 rfl)) rfl
  rw [this]
  rfl
/-! lines read one behind the other -/
theorem rdA_cons (r : RdS) (s : Tx) (t : List Tx) (k : Nat) : rdA r (s :: t) k = if (rdF r s k).2 = 0 then rdA (rdF r s k).1 t (k + 1) else ((rdF r s k).1, k, (rdF r s k).2) := rfl
theorem rdA_app : ∀ (a b : List Tx) (r r' : RdS) (k k' : Nat), rdA r a k = (r', k', 0) → rdA r (a ++ b) k = rdA r' b k'
  | [], b, r, r', k, k', h => by cases h; rfl
  | s :: t, b, r, r', k, k', h => by
    rw [List.cons_append, rdA_cons]
    rw [rdA_cons] at h
    by_cases he : (rdF r s k).2 = 0
    · rw [if_pos he] at h ⊢
      exact rdA_app t b _ r' (k + 1) k' h
    · rw [if_neg he] at h
      exact absurd (Prod.mk.inj (Prod.mk.inj h).2).2 he
theorem rdA_one {r r' : RdS} {s : Tx} {k : Nat} (h : rdF r s k = (r', 0)) : rdA r [s] k = (r', k + 1, 0) := by
  rw [rdA_cons, h]
  rfl
/-! regions -/
def rgLn (n : Int) (xs : List Int) : Tx := rgH n ++ xs.flatMap wdL
theorem rgLn_spl {n : Int} {xs : List Int} (h : 0 ≤ n) (hx : ∀ y ∈ xs, 0 ≤ y) : spl 32 (rgLn n xs) = rgN :: Lib.itoa n :: xs.map Lib.itoa := by
  have e : rgLn n xs = rgN ++ (Lib.itoa n :: xs.map Lib.itoa).flatMap fun x => 32 :: x := by
    unfold rgLn rgH
    rw [List.flatMap_cons, List.flatMap_map]
    show (rgN ++ [32] ++ Lib.itoa n) ++ _ = _
    rw [List.append_assoc, List.append_assoc]
    rfl
  rw [e]
  refine spl_words 32 _ _ (by decide) fun x hx' => ?_
  rcases List.mem_cons.1 hx' with rfl | hx'
  · exact no32_aln (itoa_aln h)
  · obtain ⟨y, hy, rfl⟩ := List.mem_map.1 hx'
    exact no32_aln (itoa_aln (hx y hy))
theorem decA_itoa : ∀ xs : List Int, (∀ y ∈ xs, 0 ≤ y ∧ y ≤ 65535) → decA (xs.map Lib.itoa) = some xs
  | [], _ => rfl
  | x :: t, h => by
    rw [List.map_cons]
    unfold decA
    rw [decF_itoa (h x (List.mem_cons_self ..)), decA_itoa t fun y hy => h y (List.mem_cons_of_mem _ hy)]
theorem rgLn_cln {n : Int} {xs : List Int} (h : 0 ≤ n) (hx : ∀ y ∈ xs, 0 ≤ y) : ClnL (rgLn n xs) := (cln_rgH h).app (cln_wds xs hx)
theorem rd_region {r : RdS} {n : Int} {xs : List Int} {k : Nat} (hc : r.code = []) (hl : r.lab = []) (hn : 1 ≤ n ∧ n ≤ 32) (hx : ∀ y ∈ xs, 0 ≤ y ∧ y ≤ 65535) (hle : (xs.length : Int) ≤ n) (hs : r.ss.length < 4) :
    rdF r (rgLn n xs) k = ({ r with ss := r.ss ++ [n], ws := r.ws ++ [xs], last := false }, 0) := by
  have hd : decA (Lib.itoa n :: xs.map Lib.itoa) = some (n :: xs) := decA_itoa (n :: xs) fun y hy => by
    rcases List.mem_cons.1 hy with rfl | hy
    · omega
    · exact hx y hy
  unfold rdF
  rw [labF_none fun c hc => (rgLn_cln (by omega) (fun y hy => (hx y hy).1) c hc).2, rgLn_spl (by omega) fun y hy => (hx y hy).1]
  dsimp only
  rw [List.headD_cons, if_pos rfl, List.tail_cons]
  unfold regF
  rw [hd]
  dsimp only
  rw [if_neg (by rw [hc, hl]; simp), if_neg]
  rintro (h | h | h | h | h)
  · obtain ⟨y, hy, h⟩ := List.any_eq_true.1 h
    have h := of_decide_eq_true h
    rcases List.mem_cons.1 hy with rfl | hy
    · omega
    · have := hx y hy; omega
  · omega
  · omega
  · omega
  · omega
def rLns (p : PV) (k : Nat) : List Tx := (List.range k).map fun j => rgLn (p.ss.getD j 0) (p.ws.getD j ⟨none, 0, []⟩).xs
theorem rLns_succ (p : PV) (k : Nat) : rLns p (k + 1) = rLns p k ++ [rgLn (p.ss.getD k 0) (p.ws.getD k ⟨none, 0, []⟩).xs] := by
  unfold rLns
  rw [List.range_succ, List.map_append]; rfl
theorem rd_regions {p : PV} (h : GoodP p) (hs : p.sm) : ∀ k, k ≤ p.ss.length → rdA r0F (rLns p k) 0 = (⟨[], p.ss.take k, (p.ws.map WV.xs).take k, [], [], false⟩, k, 0)
  | 0, _ => rfl
  | k + 1, hk => by
    have ih := rd_regions h hs k (by omega)
    have hkw : k < p.ws.length := by rw [h.wl]; omega
    have hg := h.gs hs
    have hsk := hg.s k (by omega)
    have hxk := hg.x k hkw
    have hfk := h.fit k hkw (by omega)
    have h4 := h.sz.four
    have hkm : k < (p.ws.map WV.xs).length := by rw [List.length_map]; exact hkw
    rw [rLns_succ, rdA_app _ _ _ _ _ _ ih, List.getD_eq_getElem?_getD, List.getElem?_eq_getElem (show k < p.ss.length by omega), List.getD_eq_getElem?_getD, List.getElem?_eq_getElem hkw, Option.getD_some, Option.getD_some]
    have hrd := rd_region (r := ⟨[], p.ss.take k, (p.ws.map WV.xs).take k, [], [], false⟩) (n := p.ss[k]) (xs := p.ws[k].xs) (k := k) rfl rfl hsk hxk.2 hfk (by show (p.ss.take k).length < 4; rw [List.length_take]; omega)
    rw [rdA_one hrd]
    dsimp only
    rw [List.take_succ_eq_append_getElem (show k < p.ss.length by omega), List.take_succ_eq_append_getElem hkm, List.getElem_map]
end Go.Proofs.YtajkekhnfobgiaaGreatDoor
