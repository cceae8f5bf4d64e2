/- Texts put together: Asn, Aso, Asp, Asq, Asr. -/
import Derived.Test.YtajkekhnfobgiaaGreatDoorShg
import Derived.Maps.OwnSet
import Derived.WideKeyEntry
import Derived.Test.YtajkekhnfobgiaaGreatDoorMgPd
/- Words as numbers and labels, by the program; texts cut and compared. -/
namespace Go.Proofs.YtajkekhnfobgiaaGreatDoor
set_option maxRecDepth 20000
open Go.RowKit

theorem sEqF {l m : Tx} (h : l ≠ m) : (({ data := l.toArray } : ByteArray).toList == ({ data := m.toArray } : ByteArray).toList) = false := by rw [txv_eql]; exact decide_eq_false h
theorem sEqT {l m : Tx} (h : l = m) : (({ data := l.toArray } : ByteArray).toList == ({ data := m.toArray } : ByteArray).toList) = true := by rw [txv_eql]; exact decide_eq_true h
theorem sEE : (({ data := #[] } : ByteArray).toList == ({ data := #[] } : ByteArray).toList) = true := sEqT (l := []) (m := []) rfl
theorem dropW_nil {p : UInt8 → Bool} : ∀ l : Tx, l.dropWhile p = [] ↔ l.all p = true
  | [] => by simp
  | c :: t => by
    rw [List.all_cons, Bool.and_eq_true, ← dropW_nil t, List.dropWhile_cons]
    by_cases h : p c = true
    · simp [h]
    · simp [h]
theorem dropW_head {p : UInt8 → Bool} : ∀ (l : Tx) (c : UInt8) (t : Tx), l.dropWhile p = c :: t → p c = false
  | [], _, _, h => by simp at h
  | x :: l, c, t, h => by
    rw [List.dropWhile_cons] at h
    by_cases hx : p x = true
    · rw [if_pos hx] at h
      exact dropW_head l c t h
    · rw [if_neg hx] at h
      cases h
      exact Bool.eq_false_iff.2 hx
theorem trimS_nil (s cs : Tx) : Lib.trimS s cs = [] ↔ s.all (fun c => cs.contains c) = true := by
  unfold Lib.trimS Lib.trimLeftS Lib.trimRightS
  rw [dropW_nil, List.all_reverse]
  constructor
  · intro h
    have h2 : s.reverse.dropWhile (fun c => cs.contains c) = [] := by
      cases hd : s.reverse.dropWhile (fun c => cs.contains c) with
      | nil => rfl
      | cons c t =>
        have h3 := dropW_head _ _ _ hd
        rw [hd, List.all_cons, h3] at h
        cases h
    rw [dropW_nil, List.all_reverse] at h2
    exact h2
  · intro h
    have h2 : s.reverse.dropWhile (fun c => cs.contains c) = [] := by rw [dropW_nil, List.all_reverse]; exact h
    rw [h2]; rfl
def digs : Tx := [48, 49, 50, 51, 52, 53, 54, 55, 56, 57]
def alns : Tx := [97, 98, 99, 100, 101, 102, 103, 104, 105, 106, 107, 108, 109, 110, 111, 112, 113, 114, 115, 116, 117, 118, 119, 120, 121, 122, 48, 49, 50, 51, 52, 53, 54, 55, 56, 57]
theorem u8_all {p : UInt8 → Bool} (h : (List.range 256).all (fun n => p (UInt8.ofNat n)) = true) (c : UInt8) : p c = true := by
  have := List.all_eq_true.1 h c.toNat (List.mem_range.2 c.toNat_lt)
  rwa [UInt8.ofNat_toNat] at this
theorem digs_has (c : UInt8) : digs.contains c = digB c := beq_iff_eq.1 (u8_all (p := fun c => digs.contains c == digB c) (by kernel_rfl) c)
theorem alns_has (c : UInt8) : alns.contains c = alnB c := beq_iff_eq.1 (u8_all (p := fun c => alns.contains c == alnB c) (by kernel_rfl) c)
theorem trim_digs (s : Tx) : Lib.trimS s digs = [] ↔ s.all digB = true := by
  rw [trimS_nil, show (fun c => digs.contains c) = digB from funext digs_has]
theorem trim_alns (s : Tx) : Lib.trimS s alns = [] ↔ s.all alnB = true := by
  rw [trimS_nil, show (fun c => alns.contains c) = alnB from funext alns_has]
theorem trim_c (s cs : Tx) (w : World) (hs : s.length ≤ 1000000) (hc : cs.length ≤ 1000) (ha : ∀ b ∈ cs, b.toNat < 128) : Ret Tryz.prog 82 [txv s, txv cs] w (fun u w' => u = txv (Lib.trimS s cs) ∧ Pu w w') := by
  refine ⟨Calls.mono (Tryz.strings_Trim_laid ⟨s.toArray⟩ ⟨cs.toArray⟩ w (by rw [ba_s]; omega) (by rw [ba_s]; omega) (fun j b hb => ha b (by rw [ba_l] at hb; exact List.mem_of_getElem? hb))) ?_⟩
  rintro e w' ⟨h1, h2⟩
  rw [ba_l, ba_l] at h1
  exact ⟨_, h1, rfl, Fr.of_below h2⟩
theorem atoi_c (s : Tx) (n : Int) (w : World) (hs : s.length ≤ 18) (h : Lib.atoi s = some n) : Ret Tryz.prog 106 [txv s] w (fun u w' => u = .tuple #[.int .i64 n, .nilIface] ∧ Pu w w') := by
  refine ⟨Calls.mono (Tryz.strconv_Atoi ⟨s.toArray⟩ n (by rw [ba_s]; exact hs) (by rw [ba_l]; exact h) w) ?_⟩
  rintro e w' ⟨h1, t, rfl⟩
  refine ⟨_, h1, rfl, ?_⟩
  unfold Lib.bytesWorld
  refine (((Fr.refl _ w).drew).alloc _).then (T := fun k => (some w.heap.size : Option Nat) = some k) freeze_fr (fun i hi e => ?_)
  have := Option.some.inj e
  omega
/-- what decimal returns -/
def dcV (s : Tx) : Value := .tuple #[.int .i64 ((decF s).getD 0), .bool (decF s).isSome]
theorem decB_iff (s : Tx) : decB s = true ↔ s ≠ [] ∧ s.all digB = true ∧ (1 < s.length → s.head? ≠ some 48) := by
  unfold decB
  rw [Bool.and_eq_true, Bool.and_eq_true, Bool.or_eq_true, decide_eq_true_iff, Bool.not_eq_true', Bool.not_eq_true']
  cases s with
  | nil => simp
  | cons c t =>
    simp only [List.isEmpty_cons, List.head?_cons, true_and, ne_eq, reduceCtorEq, not_false_eq_true, beq_eq_false_iff_ne, List.length_cons]
    constructor
    · rintro ⟨h1, h2⟩
      exact ⟨h1, fun h => h2.resolve_left (by omega)⟩
    · rintro ⟨h1, h2⟩
      refine ⟨h1, ?_⟩
      by_cases h : t.length + 1 ≤ 1
      · exact .inl h
      · exact .inr (h2 (by omega))

set_option maxHeartbeats 4000000 in
theorem dec_c (s : Tx) (wB : World) (hl : s.length ≤ 100000) : Ret Tryz.prog 83 [txv s] wB (fun u w' => u = dcV s ∧ Pu wB w') := by
  have hsz := ba_s s
  have htr := fun w => trim_c s digs w (by omega) (by decide) (by decide)
  have htd := trim_digs s
  unfold dcV
  by_cases h0 : s = []
  · have hd : decF s = none := by rw [h0]; rfl
    rw [hd]
    subst h0
    refine enterR Tryz.func83 rfl rfl rfl fun a hs hm => ?_
    repeat (first | ((with_reducible first | refine toL hm ?_ | refine toQ ?_); (first | refine oneV hs gw_ rfl rfl (by intro w hm; (first | exact kv_ | exact r_min hs rfl rfl rfl | exact r_sidx (k := 0) hs rfl rfl rfl tab rfl rfl (by assumption))) ?_ | refine oN_ ?_); clear hs a; intro a hs) | ((with_reducible apply lCons); first | (refine dv hs gw_ rfl rfl da_ ?_; clear hs hm a; rintro _ w ⟨g, rfl, -, hm⟩ a hs) | (refine stn hs rfl rfl ds_ ?_; clear hs hm a; rintro - w hm a hs) ) | ((with_reducible apply qNil); clear hm; intro w hm) | ((with_reducible refine cQuiet hm ?_ ?_ ?_ ?_); rfl; kernel_rfl; kernel_rfl) | refine sx_ ?_ | refine cx_ ?_)
    rw [sEE] at hs
    repeat (first | ((with_reducible first | refine toL hm ?_ | refine toQ ?_); (first | refine oneV hs gw_ rfl rfl (by intro w hm; (first | exact kv_ | exact r_min hs rfl rfl rfl | exact r_sidx (k := 0) hs rfl rfl rfl tab rfl rfl (by assumption))) ?_ | refine oN_ ?_); clear hs a; intro a hs) | ((with_reducible apply lCons); first | (refine dv hs gw_ rfl rfl da_ ?_; clear hs hm a; rintro _ w ⟨g, rfl, -, hm⟩ a hs) | (refine stn hs rfl rfl ds_ ?_; clear hs hm a; rintro - w hm a hs) ) | ((with_reducible apply qNil); clear hm; intro w hm) | ((with_reducible refine cQuiet hm ?_ ?_ ?_ ?_); rfl; kernel_rfl; kernel_rfl) | refine sx_ ?_ | refine cx_ ?_)
    exact gRetN tab hs rfl (.cons (.tmp rfl) (.cons (.tmp rfl) .nil)) ⟨rfl, hm.fr⟩
  have hse := sEqF h0
  by_cases h1 : s.all digB = true
  case neg =>
    have hd : decF s = none := by
      unfold decF
      rw [if_neg (fun h => h1 ((decB_iff s).1 h).2.1)]
    rw [hd]
    have h2 := sEqF (l := Lib.trimS s digs) (m := []) fun e => h1 (htd.1 e)
    refine enterR Tryz.func83 rfl rfl rfl fun a hs hm => ?_
    repeat (first | ((with_reducible first | refine toL hm ?_ | refine toQ ?_); (first | refine oneV hs gw_ rfl rfl (by intro w hm; (first | exact kv_ | exact r_min hs rfl rfl rfl | exact r_sidx (k := 0) hs rfl rfl rfl tab rfl rfl (by assumption))) ?_ | refine oN_ ?_); clear hs a; intro a hs) | ((with_reducible apply lCons); first | (refine dv hs gw_ rfl rfl da_ ?_; clear hs hm a; rintro _ w ⟨g, rfl, -, hm⟩ a hs) | (refine stn hs rfl rfl ds_ ?_; clear hs hm a; rintro - w hm a hs) ) | ((with_reducible apply qNil); clear hm; intro w hm) | ((with_reducible refine cQuiet hm ?_ ?_ ?_ ?_); rfl; kernel_rfl; kernel_rfl) | refine sx_ ?_ | refine cx_ ?_)
    rw [hse] at hs
    repeat (first | ((with_reducible first | refine toL hm ?_ | refine toQ ?_); (first | refine oneV hs gw_ rfl rfl (by intro w hm; (first | exact kv_ | exact r_min hs rfl rfl rfl | exact r_sidx (k := 0) hs rfl rfl rfl tab rfl rfl (by assumption))) ?_ | refine oN_ ?_); clear hs a; intro a hs) | ((with_reducible apply lCons); first | (refine dv hs gw_ rfl rfl da_ ?_; clear hs hm a; rintro _ w ⟨g, rfl, -, hm⟩ a hs) | (refine stn hs rfl rfl ds_ ?_; clear hs hm a; rintro - w hm a hs) | (refine dv hs gw_ rfl rfl (d_call hs rfl rfl rfl (pl 82 rfl) (htr _)) ?_; clear hs a; rintro _ w ⟨rfl, hf⟩ a hs; replace hm := hm.pu hf; clear hf)) | ((with_reducible apply qCons); first | (refine qwcall hs gw_ rfl rfl rfl rfl rfl (pl 82 rfl) (by intro w hm; exact Ret.mono (htr _) (fun _ _ ⟨h1, h2⟩ => ⟨h1, hm.pu h2⟩)) ?_; clear hs a; intro a hs)) | ((with_reducible apply qNil); clear hm; intro w hm) | ((with_reducible refine cQuiet hm ?_ ?_ ?_ ?_); rfl; kernel_rfl; kernel_rfl) | refine sx_ ?_ | refine cx_ ?_)
    rw [h2] at hs
    repeat (first | ((with_reducible first | refine toL hm ?_ | refine toQ ?_); (first | refine oneV hs gw_ rfl rfl (by intro w hm; (first | exact kv_ | exact r_min hs rfl rfl rfl | exact r_sidx (k := 0) hs rfl rfl rfl tab rfl rfl (by assumption))) ?_ | refine oN_ ?_); clear hs a; intro a hs) | ((with_reducible apply lCons); first | (refine dv hs gw_ rfl rfl da_ ?_; clear hs hm a; rintro _ w ⟨g, rfl, -, hm⟩ a hs) | (refine stn hs rfl rfl ds_ ?_; clear hs hm a; rintro - w hm a hs) ) | ((with_reducible apply qNil); clear hm; intro w hm) | ((with_reducible refine cQuiet hm ?_ ?_ ?_ ?_); rfl; kernel_rfl; kernel_rfl) | refine sx_ ?_ | refine cx_ ?_)
    exact gRetN tab hs rfl (.cons (.tmp rfl) (.cons (.tmp rfl) .nil)) ⟨rfl, hm.fr⟩
  have h2 := htd.2 h1
  rw [h2] at htr
  have h1' : 0 < s.length := List.length_pos_iff.2 h0
  obtain ⟨c, hc⟩ : ∃ c, s[0]? = some c := ⟨_, List.getElem?_eq_getElem h1'⟩
  have hhd : s.head? = some c := by rw [← hc, List.head?_eq_getElem?]
  by_cases h3 : 1 < s.length ∧ c = 48
  · have hd : decF s = none := by
      unfold decF
      rw [if_neg (fun h => ((decB_iff s).1 h).2.2 h3.1 (by rw [hhd, h3.2]))]
    rw [hd]
    obtain ⟨h3, rfl⟩ := h3
    refine enterR Tryz.func83 rfl rfl rfl fun a hs hm => ?_
    repeat (first | ((with_reducible first | refine toL hm ?_ | refine toQ ?_); (first | refine oneV hs gw_ rfl rfl (by intro w hm; (first | exact kv_ | exact r_min hs rfl rfl rfl | exact r_sidx (k := 0) hs rfl rfl rfl tab rfl rfl (by assumption))) ?_ | refine oN_ ?_); clear hs a; intro a hs) | ((with_reducible apply lCons); first | (refine dv hs gw_ rfl rfl da_ ?_; clear hs hm a; rintro _ w ⟨g, rfl, -, hm⟩ a hs) | (refine stn hs rfl rfl ds_ ?_; clear hs hm a; rintro - w hm a hs) ) | ((with_reducible apply qNil); clear hm; intro w hm) | ((with_reducible refine cQuiet hm ?_ ?_ ?_ ?_); rfl; kernel_rfl; kernel_rfl) | refine sx_ ?_ | refine cx_ ?_)
    rw [hse] at hs
    repeat (first | ((with_reducible first | refine toL hm ?_ | refine toQ ?_); (first | refine oneV hs gw_ rfl rfl (by intro w hm; (first | exact kv_ | exact r_min hs rfl rfl rfl | exact r_sidx (k := 0) hs rfl rfl rfl tab rfl rfl (by assumption))) ?_ | refine oN_ ?_); clear hs a; intro a hs) | ((with_reducible apply lCons); first | (refine dv hs gw_ rfl rfl da_ ?_; clear hs hm a; rintro _ w ⟨g, rfl, -, hm⟩ a hs) | (refine stn hs rfl rfl ds_ ?_; clear hs hm a; rintro - w hm a hs) | (refine dv hs gw_ rfl rfl (d_call hs rfl rfl rfl (pl 82 rfl) (htr _)) ?_; clear hs a; rintro _ w ⟨rfl, hf⟩ a hs; replace hm := hm.pu hf; clear hf)) | ((with_reducible apply qCons); first | (refine qwcall hs gw_ rfl rfl rfl rfl rfl (pl 82 rfl) (by intro w hm; exact Ret.mono (htr _) (fun _ _ ⟨h1, h2⟩ => ⟨h1, hm.pu h2⟩)) ?_; clear hs a; intro a hs)) | ((with_reducible apply qNil); clear hm; intro w hm) | ((with_reducible refine cQuiet hm ?_ ?_ ?_ ?_); rfl; kernel_rfl; kernel_rfl) | refine sx_ ?_ | refine cx_ ?_)
    rw [sEE] at hs
    repeat (first | ((with_reducible first | refine toL hm ?_ | refine toQ ?_); (first | refine oneV hs gw_ rfl rfl (by intro w hm; (first | exact kv_ | exact r_min hs rfl rfl rfl | exact r_sidx (k := 0) hs rfl rfl rfl tab rfl rfl (by assumption))) ?_ | refine oN_ ?_); clear hs a; intro a hs) | ((with_reducible apply lCons); first | (refine dv hs gw_ rfl rfl da_ ?_; clear hs hm a; rintro _ w ⟨g, rfl, -, hm⟩ a hs) | (refine stn hs rfl rfl ds_ ?_; clear hs hm a; rintro - w hm a hs) ) | ((with_reducible apply qNil); clear hm; intro w hm) | ((with_reducible refine cQuiet hm ?_ ?_ ?_ ?_); rfl; kernel_rfl; kernel_rfl) | refine sx_ ?_ | refine cx_ ?_)
    exact gRetN tab hs rfl (.cons (.tmp rfl) (.cons (.tmp rfl) .nil)) ⟨rfl, hm.fr⟩
  have hB : decB s = true := (decB_iff s).2 ⟨h0, h1, fun h e => h3 ⟨h, by rw [hhd] at e; exact Option.some.inj e⟩⟩
  have hd : decF s = some ((min (valL 0 s) 65536 : Nat) : Int) := if_pos hB
  rw [hd]
  have hat := atoi_val hB
  have hac := fun w h => atoi_c s _ w h hat
  have hbig := valL_big hB
  have hvl := valL_lt s h1
  by_cases h4 : 5 < s.length
  · have e : ((min (valL 0 s) 65536 : Nat) : Int) = 65536 := by have := hbig h4; omega
    rw [e]
    by_cases h5 : c.toNat = 48
    · exact absurd ⟨by omega, UInt8.toNat_inj.1 h5⟩ h3
    refine enterR Tryz.func83 rfl rfl rfl fun a hs hm => ?_
    repeat (first | ((with_reducible first | refine toL hm ?_ | refine toQ ?_); (first | refine oneV hs gw_ rfl rfl (by intro w hm; (first | exact kv_ | exact r_min hs rfl rfl rfl | exact r_sidx (k := 0) hs rfl rfl rfl tab rfl rfl (by assumption))) ?_ | refine oN_ ?_); clear hs a; intro a hs) | ((with_reducible apply lCons); first | (refine dv hs gw_ rfl rfl da_ ?_; clear hs hm a; rintro _ w ⟨g, rfl, -, hm⟩ a hs) | (refine stn hs rfl rfl ds_ ?_; clear hs hm a; rintro - w hm a hs) ) | ((with_reducible apply qNil); clear hm; intro w hm) | ((with_reducible refine cQuiet hm ?_ ?_ ?_ ?_); rfl; kernel_rfl; kernel_rfl) | refine sx_ ?_ | refine cx_ ?_)
    rw [hse] at hs
    repeat (first | ((with_reducible first | refine toL hm ?_ | refine toQ ?_); (first | refine oneV hs gw_ rfl rfl (by intro w hm; (first | exact kv_ | exact r_min hs rfl rfl rfl | exact r_sidx (k := 0) hs rfl rfl rfl tab rfl rfl (by assumption))) ?_ | refine oN_ ?_); clear hs a; intro a hs) | ((with_reducible apply lCons); first | (refine dv hs gw_ rfl rfl da_ ?_; clear hs hm a; rintro _ w ⟨g, rfl, -, hm⟩ a hs) | (refine stn hs rfl rfl ds_ ?_; clear hs hm a; rintro - w hm a hs) | (refine dv hs gw_ rfl rfl (d_call hs rfl rfl rfl (pl 82 rfl) (htr _)) ?_; clear hs a; rintro _ w ⟨rfl, hf⟩ a hs; replace hm := hm.pu hf; clear hf)) | ((with_reducible apply qCons); first | (refine qwcall hs gw_ rfl rfl rfl rfl rfl (pl 82 rfl) (by intro w hm; exact Ret.mono (htr _) (fun _ _ ⟨h1, h2⟩ => ⟨h1, hm.pu h2⟩)) ?_; clear hs a; intro a hs)) | ((with_reducible apply qNil); clear hm; intro w hm) | ((with_reducible refine cQuiet hm ?_ ?_ ?_ ?_); rfl; kernel_rfl; kernel_rfl) | refine sx_ ?_ | refine cx_ ?_)
    rw [sEE] at hs
    repeat (first | ((with_reducible first | refine toL hm ?_ | refine toQ ?_); (first | refine oneV hs gw_ rfl rfl (by intro w hm; (first | exact kv_ | exact r_min hs rfl rfl rfl | exact r_sidx (k := 0) hs rfl rfl rfl tab rfl rfl (by assumption))) ?_ | refine oN_ ?_); clear hs a; intro a hs) | ((with_reducible apply lCons); first | (refine dv hs gw_ rfl rfl da_ ?_; clear hs hm a; rintro _ w ⟨g, rfl, -, hm⟩ a hs) | (refine stn hs rfl rfl ds_ ?_; clear hs hm a; rintro - w hm a hs) ) | ((with_reducible apply qNil); clear hm; intro w hm) | ((with_reducible refine cQuiet hm ?_ ?_ ?_ ?_); rfl; kernel_rfl; kernel_rfl) | refine sx_ ?_ | refine cx_ ?_)
    exact gRetN tab hs rfl (.cons (.tmp rfl) (.cons (.tmp rfl) .nil)) ⟨rfl, hm.fr⟩
  · have e : ((min (valL 0 s) 65536 : Nat) : Int) = min (valL 0 s : Int) 65536 := by omega
    rw [e]
    by_cases h5 : 1 < s.length
    · have h6 : c.toNat ≠ 48 := fun e => h3 ⟨h5, UInt8.toNat_inj.1 e⟩
      refine enterR Tryz.func83 rfl rfl rfl fun a hs hm => ?_
      repeat (first | ((with_reducible first | refine toL hm ?_ | refine toQ ?_); (first | refine oneV hs gw_ rfl rfl (by intro w hm; (first | exact kv_ | exact r_min hs rfl rfl rfl | exact r_sidx (k := 0) hs rfl rfl rfl tab rfl rfl (by assumption))) ?_ | refine oN_ ?_); clear hs a; intro a hs) | ((with_reducible apply lCons); first | (refine dv hs gw_ rfl rfl da_ ?_; clear hs hm a; rintro _ w ⟨g, rfl, -, hm⟩ a hs) | (refine stn hs rfl rfl ds_ ?_; clear hs hm a; rintro - w hm a hs) ) | ((with_reducible apply qNil); clear hm; intro w hm) | ((with_reducible refine cQuiet hm ?_ ?_ ?_ ?_); rfl; kernel_rfl; kernel_rfl) | refine sx_ ?_ | refine cx_ ?_)
      rw [hse] at hs
      repeat (first | ((with_reducible first | refine toL hm ?_ | refine toQ ?_); (first | refine oneV hs gw_ rfl rfl (by intro w hm; (first | exact kv_ | exact r_min hs rfl rfl rfl | exact r_sidx (k := 0) hs rfl rfl rfl tab rfl rfl (by assumption))) ?_ | refine oN_ ?_); clear hs a; intro a hs) | ((with_reducible apply lCons); first | (refine dv hs gw_ rfl rfl da_ ?_; clear hs hm a; rintro _ w ⟨g, rfl, -, hm⟩ a hs) | (refine stn hs rfl rfl ds_ ?_; clear hs hm a; rintro - w hm a hs) | (refine dv hs gw_ rfl rfl (d_call hs rfl rfl rfl (pl 82 rfl) (htr _)) ?_; clear hs a; rintro _ w ⟨rfl, hf⟩ a hs; replace hm := hm.pu hf; clear hf)) | ((with_reducible apply qCons); first | (refine qwcall hs gw_ rfl rfl rfl rfl rfl (pl 82 rfl) (by intro w hm; exact Ret.mono (htr _) (fun _ _ ⟨h1, h2⟩ => ⟨h1, hm.pu h2⟩)) ?_; clear hs a; intro a hs)) | ((with_reducible apply qNil); clear hm; intro w hm) | ((with_reducible refine cQuiet hm ?_ ?_ ?_ ?_); rfl; kernel_rfl; kernel_rfl) | refine sx_ ?_ | refine cx_ ?_)
      rw [sEE] at hs
      repeat (first | ((with_reducible first | refine toL hm ?_ | refine toQ ?_); (first | refine oneV hs gw_ rfl rfl (by intro w hm; (first | exact kv_ | exact r_min hs rfl rfl rfl | exact r_sidx (k := 0) hs rfl rfl rfl tab rfl rfl (by assumption))) ?_ | refine oN_ ?_); clear hs a; intro a hs) | ((with_reducible apply lCons); first | (refine dv hs gw_ rfl rfl da_ ?_; clear hs hm a; rintro _ w ⟨g, rfl, -, hm⟩ a hs) | (refine stn hs rfl rfl ds_ ?_; clear hs hm a; rintro - w hm a hs) | (refine dv hs gw_ rfl rfl (d_call hs rfl rfl rfl (pl 106 rfl) (hac _ (by omega))) ?_; clear hs a; rintro _ w ⟨rfl, hf⟩ a hs; replace hm := hm.pu hf; clear hf)) | ((with_reducible apply qCons); first | (refine qwcall hs gw_ rfl rfl rfl rfl rfl (pl 106 rfl) (by intro w hm; exact Ret.mono (hac _ (by omega)) (fun _ _ ⟨h1, h2⟩ => ⟨h1, hm.pu h2⟩)) ?_; clear hs a; intro a hs)) | ((with_reducible apply qNil); clear hm; intro w hm) | ((with_reducible refine cQuiet hm ?_ ?_ ?_ ?_); rfl; kernel_rfl; kernel_rfl) | refine sx_ ?_ | refine cx_ ?_)
      exact gRetN tab hs rfl (.cons (.tmp rfl) (.cons (.tmp rfl) .nil)) ⟨rfl, hm.fr⟩
    · refine enterR Tryz.func83 rfl rfl rfl fun a hs hm => ?_
      repeat (first | ((with_reducible first | refine toL hm ?_ | refine toQ ?_); (first | refine oneV hs gw_ rfl rfl (by intro w hm; (first | exact kv_ | exact r_min hs rfl rfl rfl | exact r_sidx (k := 0) hs rfl rfl rfl tab rfl rfl (by assumption))) ?_ | refine oN_ ?_); clear hs a; intro a hs) | ((with_reducible apply lCons); first | (refine dv hs gw_ rfl rfl da_ ?_; clear hs hm a; rintro _ w ⟨g, rfl, -, hm⟩ a hs) | (refine stn hs rfl rfl ds_ ?_; clear hs hm a; rintro - w hm a hs) ) | ((with_reducible apply qNil); clear hm; intro w hm) | ((with_reducible refine cQuiet hm ?_ ?_ ?_ ?_); rfl; kernel_rfl; kernel_rfl) | refine sx_ ?_ | refine cx_ ?_)
      rw [hse] at hs
      repeat (first | ((with_reducible first | refine toL hm ?_ | refine toQ ?_); (first | refine oneV hs gw_ rfl rfl (by intro w hm; (first | exact kv_ | exact r_min hs rfl rfl rfl | exact r_sidx (k := 0) hs rfl rfl rfl tab rfl rfl (by assumption))) ?_ | refine oN_ ?_); clear hs a; intro a hs) | ((with_reducible apply lCons); first | (refine dv hs gw_ rfl rfl da_ ?_; clear hs hm a; rintro _ w ⟨g, rfl, -, hm⟩ a hs) | (refine stn hs rfl rfl ds_ ?_; clear hs hm a; rintro - w hm a hs) | (refine dv hs gw_ rfl rfl (d_call hs rfl rfl rfl (pl 82 rfl) (htr _)) ?_; clear hs a; rintro _ w ⟨rfl, hf⟩ a hs; replace hm := hm.pu hf; clear hf)) | ((with_reducible apply qCons); first | (refine qwcall hs gw_ rfl rfl rfl rfl rfl (pl 82 rfl) (by intro w hm; exact Ret.mono (htr _) (fun _ _ ⟨h1, h2⟩ => ⟨h1, hm.pu h2⟩)) ?_; clear hs a; intro a hs)) | ((with_reducible apply qNil); clear hm; intro w hm) | ((with_reducible refine cQuiet hm ?_ ?_ ?_ ?_); rfl; kernel_rfl; kernel_rfl) | refine sx_ ?_ | refine cx_ ?_)
      rw [sEE] at hs
      repeat (first | ((with_reducible first | refine toL hm ?_ | refine toQ ?_); (first | refine oneV hs gw_ rfl rfl (by intro w hm; (first | exact kv_ | exact r_min hs rfl rfl rfl | exact r_sidx (k := 0) hs rfl rfl rfl tab rfl rfl (by assumption))) ?_ | refine oN_ ?_); clear hs a; intro a hs) | ((with_reducible apply lCons); first | (refine dv hs gw_ rfl rfl da_ ?_; clear hs hm a; rintro _ w ⟨g, rfl, -, hm⟩ a hs) | (refine stn hs rfl rfl ds_ ?_; clear hs hm a; rintro - w hm a hs) | (refine dv hs gw_ rfl rfl (d_call hs rfl rfl rfl (pl 106 rfl) (hac _ (by omega))) ?_; clear hs a; rintro _ w ⟨rfl, hf⟩ a hs; replace hm := hm.pu hf; clear hf)) | ((with_reducible apply qCons); first | (refine qwcall hs gw_ rfl rfl rfl rfl rfl (pl 106 rfl) (by intro w hm; exact Ret.mono (hac _ (by omega)) (fun _ _ ⟨h1, h2⟩ => ⟨h1, hm.pu h2⟩)) ?_; clear hs a; intro a hs)) | ((with_reducible apply qNil); clear hm; intro w hm) | ((with_reducible refine cQuiet hm ?_ ?_ ?_ ?_); rfl; kernel_rfl; kernel_rfl) | refine sx_ ?_ | refine cx_ ?_)
      exact gRetN tab hs rfl (.cons (.tmp rfl) (.cons (.tmp rfl) .nil)) ⟨rfl, hm.fr⟩
end Go.Proofs.YtajkekhnfobgiaaGreatDoor

/- A map of texts to numbers: what is in it. -/
namespace Go.Proofs.YtajkekhnfobgiaaGreatDoor
set_option maxRecDepth 20000
open Go.RowKit Go.ChangeMaps

theorem mapST : Tryz.prog.underlying 84 = some (.map 9 3) := by kernel_rfl
theorem strT : Tryz.prog.underlying 9 = some .string := by kernel_rfl
theorem intZv (w : World) : (zeroValue 3).run Tryz.prog w = .ok (.int .i64 0) w := run_zero (tab _ _ (show tlk TAB 3 = some _ from rfl))
/-- the datum D says what the list says -/
structure LabD (lab : List (Tx × Nat)) (D : DataW Unit) : Prop where
  td : Maps.Tidy D
  ok : ∀ t : Tx, Maps.has D (.string t) = (atL lab t).isSome
  at_ : ∀ t : Tx, D.atKey (.string t) (.lit (.int .i64 0)) = .lit (.int .i64 (((atL lab t).getD 0 : Nat) : Int))
  sz : Maps.size D = lab.length
/-- block b is a map that holds these numbers of texts -/
def ML (b : Nat) (lab : List (Tx × Nat)) (w : World) : Prop := ∃ D : DataW Unit, w.ownsMap Tryz.prog 9 (plainElem Tryz.prog 3) b lab.length D ∧ LabD lab D
theorem ML.keep {S : Nat → Prop} {b : Nat} {lab : List (Tx × Nat)} {w w' : World} (h : ML b lab w) (hf : Fr S w w') (hb : ¬ S b) : ML b lab w' := by
  obtain ⟨D, ⟨es, clock, hbk, r⟩, h2⟩ := h
  exact ⟨D, ⟨es, clock, fr_grown hf hb _ hbk, r⟩, h2⟩
theorem ML.lt {b : Nat} {lab : List (Tx × Nat)} {w : World} (h : ML b lab w) : b < w.heap.size := by
  obtain ⟨D, h1, _⟩ := h
  exact h1.lt
theorem LabD.mp {lab : List (Tx × Nat)} {D : DataW Unit} (h : LabD lab D) : Maps.IsMap D := h.td.isMap
theorem labD_nil : LabD [] (.map []) := ⟨Maps.tidy_empty, fun _ => rfl, fun _ => rfl, rfl⟩
theorem ML.made (w : World) : ML w.heap.size [] (w.alloc (.map #[] 0)) := ⟨.map [], World.ownsMap_made w _ _ _, labD_nil⟩
theorem atL_cons (n t : Tx) (v : Nat) (lab : List (Tx × Nat)) : atL ((n, v) :: lab) t = if n = t then some v else atL lab t := by
  unfold atL
  rw [List.find?_cons]
  by_cases h : n = t
  · simp [h]
  · simp [h]
theorem LabD.put {lab : List (Tx × Nat)} {D : DataW Unit} (h : LabD lab D) (n : Tx) (v : Nat) (hn : atL lab n = none) : LabD ((n, v) :: lab) (D.put (.string n) (.lit (.int .i64 (v : Int)))) := by
  refine ⟨h.td.put (show WideAt.IsKeyLit (.string n) from trivial) _, fun t => ?_, fun t => ?_, ?_⟩
  · rw [atL_cons]
    by_cases e : n = t
    · subst e; rw [if_pos rfl]; exact Maps.has_put_same h.mp (show WideAt.IsKeyLit (.string n) from trivial) _
    · rw [if_neg e, Maps.has_put_other (fun h => e (by injection h with h; exact h.symm)), h.ok]
  · rw [atL_cons]
    by_cases e : n = t
    · subst e; rw [if_pos rfl]; exact Maps.atKey_put_same h.mp (show WideAt.IsKeyLit (.string n) from trivial) _ _
    · rw [if_neg e, Maps.atKey_put_other (fun h => e (by injection h with h; exact h.symm)), h.at_]
  · rw [Maps.size_put h.td, if_neg (by rw [h.ok, hn]; decide), h.sz]; rfl
theorem keyT (n : Tx) (hn : n.length ≤ 1000000) : keyOf Tryz.prog 9 (txv n) = some (.string n) := by
  have h := WideMaps.keyOf_string_mk (P := Tryz.prog) strT (s := ⟨n.toArray⟩) (by rw [ba_s]; unfold maxLen; omega)
  rw [ba_l] at h
  exact h
/-- behind the making of an entry: what the store that is to come will do -/
def MI (b : Nat) (lab : List (Tx × Nat)) (n : Tx) (st : Nat) (w : World) : Prop :=
  ∃ es clock, w.heap[b]? = some (.map es clock) ∧ ∀ (w2 : World) (v : Nat), v ≤ 1000000 → w2.heap[b]? = some (.map es clock) → ∃ w3, (Instr.entryStore 84 (.map (some b)) (.int .i64 (st : Int)) (.int .i64 (v : Int))).run Tryz.prog w2 = .ok () w3 ∧ ML b ((n, v) :: lab) w3 ∧ Fr (fun i => i = b) w2 w3
theorem MI.keep {S : Nat → Prop} {b st : Nat} {lab : List (Tx × Nat)} {n : Tx} {w w' : World} (h : MI b lab n st w) (hf : Fr S w w') (hb : ¬ S b) : MI b lab n st w' := by
  obtain ⟨es, clock, hbk, r⟩ := h
  exact ⟨es, clock, fr_grown hf hb _ hbk, r⟩
theorem fr_setBlock (w : World) (b : Nat) (ob : Obj) : Fr (fun i => i = b) w (setBlock w b ob) :=
  ⟨rfl, rfl, rfl, by simp [setBlock], fun i _ hi => by
    show (w.heap.setIfInBounds b ob)[i]? = w.heap[i]?
    rw [Array.getElem?_setIfInBounds_ne (fun e => hi e.symm)]⟩
section
variable {N : Nat} {L : List (Nat × Value)} {a : Act} {w w0 : World} {S : Nat → Prop} {M : List Hp} {o : Oper} {x y z : Operand}
theorem r_lookS {b : Nat} {lab : List (Tx × Nat)} {n : Tx} (hs : Sl N L a) (ho : o.op = .lookup 84 x y true) (hx : ev L x = some (.map (some b))) (hy : ev L y = some (txv n)) (hn : n.length ≤ 1000000) (h : ML b lab w0) (hm : Mm S w0 M w) (hb : ¬ S b) : RunV Tryz.prog a o w (.tuple #[.int .i64 (((atL lab n).getD 0 : Nat) : Int), .bool (atL lab n).isSome]) := by
  replace hx := hs.ev hx; replace hy := hs.ev hy
  obtain ⟨D, h1, h2⟩ := h.keep hm.fr hb
  obtain ⟨v, ps, hrun, hv⟩ := h1.look_ok (Maps.string_keyed strT) mapST (intZv w) (plainElem_int intT (a := 0) (by decide)) (keyT n hn)
  rw [h2.at_ n] at hv
  rw [h2.ok n] at hrun
  obtain ⟨c, rfl, hc, -⟩ := plainElem_int_inv intT hv
  simp only [Prod.mk.injEq, DataW.lit.injEq, Lit.int.injEq, true_and] at hc
  rw [← hc.1] at hrun
  unfold RunV execOp
  simp [ho, hx, hy, hrun]
theorem r_lenM {b : Nat} {lab : List (Tx × Nat)} (hs : Sl N L a) (ho : o.op = .call { callee := .builtin .len, args := #[x], argTypes := #[84] }) (hx : ev L x = some (.map (some b))) (h : ML b lab w0) (hm : Mm S w0 M w) (hb : ¬ S b) : RunV Tryz.prog a o w (.int .i64 (lab.length : Int)) := by
  replace hx := hs.ev hx
  obtain ⟨D, h1, h2⟩ := h.keep hm.fr hb
  have hrun := fun ty => h1.len mapST ty
  rw [h2.sz] at hrun
  unfold RunV execOp resolve invoke builtin
  simp [ho, hx, hrun]
theorem d_entry {b : Nat} {lab : List (Tx × Nat)} {n : Tx} (hs : Sl N L a) (ho : o.op = .mapEntry 84 x y) (hx : ev L x = some (.map (some b))) (hy : ev L y = some (txv n)) (hn : n.length ≤ 1000000) (h : ML b lab w) (hl : lab.length < 1000000) (hnn : atL lab n = none) : Does Tryz.prog a o w (fun v w' => ∃ (v0 : Value) (st : Nat), v = .tuple #[v0, .int .i64 (st : Int)] ∧ MI b lab n st w' ∧ Fr (fun i => i = b) w w') := by
  replace hx := hs.ev hx; replace hy := hs.ev hy
  obtain ⟨D, h1, h2⟩ := h
  have h1' := h1
  obtain ⟨es, clock, hb, F, hsz, hD⟩ := h1
  obtain ⟨v0, st, es1, clock1, hrun, -, hk⟩ := WideElems.entry_then_store (WideMaps.string_law strT) mapST intZv hb F (keyT n hn)
  unfold Does execOp
  simp [ho, hx, hy, hrun]
  refine ⟨v0, st, ⟨rfl, rfl⟩, ⟨es1, clock1, heap_setBlock_same hb _, fun w2 v hv hw2 => ?_⟩, fr_setBlock _ _ _⟩
  obtain ⟨es', clock', hr2, hr3⟩ := hk w2 (.int .i64 (v : Int)) hw2
  obtain ⟨w', hr4, hown, -⟩ := h1'.update (Maps.string_keyed strT) mapST (by unfold maxLen; omega) (keyT n hn) (plainElem_int intT (q := .i64) (a := (v : Int)) (by simp [Lit.wf, IntKind.min, IntKind.max, IntKind.signed, IntKind.bits]; omega))
  rw [hr3] at hr4
  cases hr4
  refine ⟨setBlock w2 b (.map es' clock'), hr2, ⟨_, ?_, h2.put n v hnn⟩, fr_setBlock _ _ _⟩
  obtain ⟨es'', clock'', hb'', r''⟩ := hown
  rw [heap_setBlock_same hb] at hb''
  cases hb''
  exact ⟨es', clock', heap_setBlock_same hw2 _, r''⟩
theorem d_estore {b st v : Nat} {lab : List (Tx × Nat)} {n : Tx} (hs : Sl N L a) (ho : o.op = .entryStore 84 x y z) (hx : ev L x = some (.map (some b))) (hy : ev L y = some (.int .i64 (st : Int))) (hz : ev L z = some (.int .i64 (v : Int))) (hv : v ≤ 1000000) (h : MI b lab n st w) : Does Tryz.prog a o w (fun _ w' => ML b ((n, v) :: lab) w' ∧ Fr (fun i => i = b) w w') := by
  replace hx := hs.ev hx; replace hy := hs.ev hy; replace hz := hs.ev hz
  obtain ⟨es, clock, hb, hk⟩ := h
  obtain ⟨w3, hr, h1, h2⟩ := hk w v hv hb
  unfold Does execOp
  simp [ho, hx, hy, hz, hr]
  exact ⟨h1, h2⟩
theorem d_makeMapS (ho : o.op = .makeMap 84 none) (hm : Mm S w0 M w) : Does Tryz.prog a o w (fun v w' => v = .map (some w.heap.size) ∧ ML w.heap.size [] w' ∧ Pu w w' ∧ Mm S w0 M w') := by
  have hrun := run_makeMap (P := Tryz.prog) 84 w
  unfold Does execOp
  simp [ho, hrun]
  exact ⟨ML.made w, (Fr.refl _ w).alloc _, hm.pu ((Fr.refl _ w).alloc _)⟩
end
end Go.Proofs.YtajkekhnfobgiaaGreatDoor

/- The reader of a text as it lies in memory; a line of a region. -/
namespace Go.Proofs.YtajkekhnfobgiaaGreatDoor
set_option maxRecDepth 20000
open Go.RowKit

theorem idxS_F (s : Tx) : ∀ (xs : List Tx) (i : Nat), Lib.idxFromS (xs.map fun l => (⟨l.toArray⟩ : ByteArray)) ⟨s.toArray⟩ i = ((idxF s xs i).map fun k : Nat => (k : Int)).getD (-1)
  | [], _ => rfl
  | x :: t, i => by
    rw [List.map_cons]
    unfold Lib.idxFromS idxF
    by_cases h : x = s
    · subst h; rw [if_pos rfl, if_pos rfl]; rfl
    · rw [if_neg h, if_neg (fun e => h (by have := congrArg (fun b : ByteArray => b.data.toList) e; simpa using this))]
      exact idxS_F s t (i + 1)
theorem idx_c (r : SS) (s : Tx) (w : World) (hr : r.ok w) (hn : r.xs.length ≤ 1000000) : Ret Tryz.prog 68 [r.v, txv s] w (fun u w' => u = .int .i64 (((idxF s r.xs 0).map fun k : Nat => (k : Int)).getD (-1)) ∧ Pu w w') := by
  obtain ⟨A, c, xs⟩ := r
  rw [← idxS_F]
  cases hx : xs with
  | nil =>
    have h := Tryz.slices_Index_string_empty A c ⟨s.toArray⟩ w
    exact ⟨Calls.mono h fun _ _ ⟨h1, h2⟩ => ⟨_, h1, rfl, h2 ▸ Fr.refl _ _⟩⟩
  | cons x t =>
    rw [← hx]
    obtain ⟨b, o, rfl, hb, hro⟩ := hr.2.ro (by show 0 < (xs.map txv).length; rw [hx]; simp)
    have h := Tryz.slices_Index_string b o xs.length c (xs.map fun l => ⟨l.toArray⟩) ⟨s.toArray⟩ w (by rw [List.length_map]; exact Nat.le_refl _) (by dsimp only at hn; omega) (fun j hj => hro j _ (by
      rw [List.length_map] at hj
      dsimp only
      rw [List.getElem?_map, List.getElem?_eq_getElem hj]
      simp [List.getD, List.getElem?_map, List.getElem?_eq_getElem hj]
      rfl))
    rw [show (xs.map fun l => (⟨l.toArray⟩ : ByteArray)).take xs.length = xs.map fun l => (⟨l.toArray⟩ : ByteArray) by rw [List.take_of_length_le (by rw [List.length_map]; exact Nat.le_refl _)]] at h
    exact ⟨Calls.mono h fun _ _ ⟨h1, h2⟩ => ⟨_, h1, rfl, h2 ▸ Fr.refl _ _⟩⟩
theorem maxOf_gt (b : Int) : ∀ (l : List Int) (n : Int), b < l.foldl max n ↔ b < n ∨ l.any (fun x => decide (b < x)) = true
  | [], n => by simp
  | x :: t, n => by
    rw [List.foldl_cons, maxOf_gt b t (max n x), List.any_cons, Bool.or_eq_true, decide_eq_true_iff]
    constructor
    · rintro (h | h)
      · by_cases e : b < n
        · exact .inl e
        · exact .inr (.inl (by omega))
      · exact .inr (.inr h)
    · rintro (h | h | h)
      · exact .inl (by omega)
      · exact .inl (by omega)
      · exact .inr h
theorem max_c (b o n c : Nat) (xs : List Int) (w : World) (hx : xs.length = n) (hn : 0 < n) (hl : n ≤ 1000000) (hr : Ro w b o (ints xs)) : Ret Tryz.prog 84 [.slice (some ⟨b, o, none⟩) n c] w (fun u w' => u = .int .i64 (Lib.maxOf xs) ∧ Pu w w') := by
  have h := Tryz.slices_Max_int b o n c xs w hn (by omega) (by omega) (fun j hj => hr j _ (by
    unfold ints
    rw [List.getElem?_map, List.getElem?_eq_getElem hj]
    simp [List.getD, List.getElem?_eq_getElem hj]))
  rw [show xs.take n = xs by rw [← hx, List.take_length]] at h
  exact ⟨Calls.mono h fun _ _ ⟨h1, h2⟩ => ⟨_, h1, rfl, h2 ▸ Fr.refl _ _⟩⟩
/-- a jump whose label is still to be found -/
def jmV (j : Nat × Nat × Tx) : List Value := [.int .i64 (j.1 : Int), .int .i64 (j.2.1 : Int), txv j.2.2]
theorem jmV_len (j : Nat × Nat × Tx) : (jmV j).length = 3 := rfl
/-- the reader in memory -/
structure RdX where
  g : Nat
  m : Nat
  cA : Option Nat
  cc : Nat
  ccs : List Value
  sA : Option Nat
  sc : Nat
  scs : List Value
  dA : Option Nat
  dc : Nat
  dcs : List Value
  jA : Option Nat
  jc : Nat
  jcs : List Value
  ws : List WS
  line : Nat
  r : RdS
def RdX.hd (x : RdX) : Hp := ⟨some x.g, 87, [slv x.cA x.r.code.length x.cc, slv x.sA x.r.ss.length x.sc, slv x.dA x.ws.length x.dc, .map (some x.m), slv x.jA x.r.js.length x.jc, .int .i64 (x.line : Int), .bool x.r.last]⟩
def RdX.M (x : RdX) : List Hp := [x.hd, ⟨x.cA, 54, x.ccs⟩, ⟨x.sA, 3, x.scs⟩, ⟨x.dA, 56, x.dcs⟩, ⟨x.jA, 90, x.jcs⟩]
def RdX.D (x : RdX) (i : Nat) : Prop := own x.M i ∨ i = x.m
structure RdX.ok (x : RdX) (w : World) : Prop where
  mm : Mm (own x.M) w x.M w
  ml : ML x.m x.r.lab w
  nm : ¬ own x.M x.m
  c : Row x.cA x.r.code.length x.cc 5 (x.r.code.flatMap inV) x.ccs
  s : Row x.sA x.r.ss.length x.sc 1 (ints x.r.ss) x.scs
  d : Row x.dA x.ws.length x.dc 1 (x.ws.map WS.v) x.dcs
  j : Row x.jA x.r.js.length x.jc 3 (x.r.js.flatMap jmV) x.jcs
  ws : x.r.ws = x.ws.map WS.xs
  wr : ∀ r ∈ x.ws, Rd w w.heap.size (r.A.map fun g => ⟨g, 0, none⟩) (wds r.xs) ∧ ∀ g, r.A = some g → ¬ x.D g ∧ g < w.heap.size
  sz : x.r.code.length ≤ 64 ∧ x.r.ss.length ≤ 4 ∧ x.ws.length = x.r.ss.length ∧ x.r.js.length ≤ x.r.code.length ∧ x.r.lab.length ≤ 5000
/-- what a call with the reader leaves -/
structure RdN (x : RdX) (wB w' : World) (r : RdS) (y : RdX) : Prop where
  g : y.g = x.g
  m : y.m = x.m
  l : y.line = x.line
  r : y.r = r
  ok : y.ok w'
  nw : ∀ i, y.D i → x.D i ∨ wB.heap.size ≤ i
theorem Fr.rdS {S : Nat → Prop} {w w' : World} {A : Option Addr} {xs : List Value} (hf : Fr S w w') (h : Rd w w.heap.size A xs) (hn : ∀ g o, A = some ⟨g, o, none⟩ → ¬ S g) : Rd w' w'.heap.size A xs := fun h0 => by
  obtain ⟨b, o, e, hb, hc⟩ := h h0
  exact ⟨b, o, e, Nat.lt_of_lt_of_le hb hf.size, fun j u hj => hf.cl (hc j u hj) (hn b o e)⟩
theorem WS.rdn {r : WS} {S : Nat → Prop} {w w' : World} (hf : Fr S w w') (h : Rd w w.heap.size (r.A.map fun g => ⟨g, 0, none⟩) (wds r.xs)) (hn : ∀ g, r.A = some g → ¬ S g) : Rd w' w'.heap.size (r.A.map fun g => ⟨g, 0, none⟩) (wds r.xs) :=
  hf.rdS h (fun g o e => by
    cases hA : r.A with
    | none => rw [hA] at e; cases e
    | some g2 =>
      rw [hA] at e
      cases e
      exact hn g hA)
/-- behind a walk: what is still known -/
theorem RdX.after {x y : RdX} {wB w' : World} (h : x.ok wB) (hm : Mm (own x.M) wB y.M w') (e : y.m = x.m) : (∀ i, y.D i → x.D i ∨ wB.heap.size ≤ i) ∧ ¬ own y.M y.m ∧ ML y.m x.r.lab w' ∧ Mm (own y.M) w' y.M w' ∧ ∀ r ∈ x.ws, Rd w' w'.heap.size (r.A.map fun g => ⟨g, 0, none⟩) (wds r.xs) ∧ ∀ g, r.A = some g → ¬ y.D g ∧ g < w'.heap.size := by
  have hmb : ¬ own y.M y.m := fun ho => by
    rcases hm.own_ ho with h1 | h1
    · have := h.ml.lt; omega
    · rw [e] at h1; exact h.nm h1
  refine ⟨fun i hi => ?_, hmb, by rw [e]; exact h.ml.keep hm.fr h.nm, hm.rebase, fun r hr => ?_⟩
  · rcases hi with hi | hi
    · rcases hm.own_ hi with h1 | h1
      · exact .inr h1
      · exact .inl (.inl h1)
    · exact .inl (.inr (hi.trans e))
  · obtain ⟨h1, h2⟩ := h.wr r hr
    refine ⟨WS.rdn hm.fr h1 (fun g hg ho => (h2 g hg).1 (.inl ho)), fun g hg => ⟨fun hd => ?_, Nat.lt_of_lt_of_le (h2 g hg).2 hm.fr.size⟩⟩
    rcases hd with hd | hd
    · rcases hm.own_ hd with h3 | h3
      · have := (h2 g hg).2; omega
      · exact (h2 g hg).1 (.inl h3)
    · exact (h2 g hg).1 (.inr (hd.trans e))
theorem decA_none : ∀ (ws : List Tx) (k : Nat) (hk : k < ws.length), decF ws[k] = none → decA ws = none
  | [], _, hk, _ => absurd hk (Nat.not_lt_zero _)
  | s :: t, 0, _, h => by
    have h' : decF s = none := h
    unfold decA; rw [h']
  | s :: t, k + 1, hk, h => by
    have := decA_none t k (by simpa using hk) (by simpa using h)
    unfold decA; rw [this]; cases decF s <;> rfl
theorem decA_snoc : ∀ (ws : List Tx) (s : Tx) (l : List Int) (n : Int), decA ws = some l → decF s = some n → decA (ws ++ [s]) = some (l ++ [n])
  | [], s, l, n, h, hn => by
    cases h
    show decA [s] = some [n]
    unfold decA decA; rw [hn]
  | a :: t, s, l, n, h, hn => by
    unfold decA at h
    cases ha : decF a with
    | none => rw [ha] at h; cases h
    | some m =>
      rw [ha] at h
      cases ht : decA t with
      | none => rw [ht] at h; cases h
      | some l2 =>
        rw [ht] at h
        cases h
        rw [List.cons_append]
        unfold decA
        rw [ha, decA_snoc t s l2 n ht hn]
        rfl
theorem decA_bd : ∀ (ws : List Tx) (l : List Int), decA ws = some l → l.length = ws.length ∧ ∀ n ∈ l, 0 ≤ n ∧ n ≤ 65536
  | [], l, h => by cases h; exact ⟨rfl, fun n hn => absurd hn List.not_mem_nil⟩
  | a :: t, l, h => by
    unfold decA at h
    cases ha : decF a with
    | none => rw [ha] at h; cases h
    | some m =>
      rw [ha] at h
      cases ht : decA t with
      | none => rw [ht] at h; cases h
      | some l2 =>
        rw [ht] at h
        cases h
        obtain ⟨h1, h2⟩ := decA_bd t l2 ht
        refine ⟨by rw [List.length_cons, List.length_cons, h1], fun n hn => ?_⟩
        rcases List.mem_cons.1 hn with rfl | hn
        · exact decF_le ha
        · exact h2 n hn
end Go.Proofs.YtajkekhnfobgiaaGreatDoor

/- A line of a region, by the program. -/
namespace Go.Proofs.YtajkekhnfobgiaaGreatDoor
set_option maxRecDepth 20000
open Go.RowKit

structure RgX where
  k : Nat
  l : List Int
  A : Option Nat
  c : Nat
  cs : List Value
theorem wrap16 {v : Int} (h : 0 ≤ v ∧ v ≤ 65535) : IntKind.u16.wrap v = v := by simp [IntKind.wrap, IntKind.signed, IntKind.bits]; omega
theorem row_ro {S : Nat → Prop} {w0 w : World} {M : List Hp} (hm : Mm S w0 M w) {g n c s : Nat} {t : TypeId} {xs cs : List Value} (hM : (⟨some g, t, cs⟩ : Hp) ∈ M) (hr : Row (some g) n c s xs cs) : Ro w g 0 xs := fun j v hj => by
  rw [Nat.zero_add]
  exact (hm.at_ hM j).trans (hr.get hj)

set_option maxHeartbeats 32000000 in
theorem reg_c (x : RdX) (A : Option Addr) (c : Nat) (words : List Tx) (wB : World) (h : x.ok wB) (hrd : Rd wB wB.heap.size A (words.map txv)) (hnA : ∀ a, A = some a → ¬ own x.M a.block) (hlen : ∀ t ∈ words, t.length ≤ 5000) (hn : words.length ≤ 5000) :
    Ret Tryz.prog 67 [.pointer (some ⟨x.g, 0, none⟩), .slice A words.length c] wB (fun u w' => ∃ e : Int, u = .int .i64 e ∧ e = (regF x.r words).2 ∧ Fr (own x.M) wB w' ∧ (e = 0 → ∃ y, RdN x wB w' (regF x.r words).1 y)) := by
  obtain ⟨z1, z2, z3, z4, z5⟩ := h.sz
  have hm0 : Mm (own x.M) wB [⟨some x.g, 87, [slv x.cA x.r.code.length x.cc, slv x.sA x.r.ss.length x.sc, slv x.dA x.ws.length x.dc, .map (some x.m), slv x.jA x.r.js.length x.jc, .int .i64 (x.line : Int), .bool x.r.last]⟩, ⟨x.cA, 54, x.ccs⟩, ⟨x.sA, 3, x.scs⟩, ⟨x.dA, 56, x.dcs⟩, ⟨x.jA, 90, x.jcs⟩] wB := h.mm
  have hml := h.ml
  have hnm := h.nm
  obtain ⟨S0, hS0⟩ : ∃ S0 : Nat → Prop, own x.M = S0 := ⟨_, rfl⟩
  rw [hS0] at hm0 hnA hnm ⊢
  refine enterR Tryz.func67 rfl rfl rfl fun a hs hm => ?_
  clear hm
  have hm := hm0
  repeat (first | ((with_reducible refine toL hm ?_); (first | refine oneV hs gw_ rfl rfl (by intro w hm; (first | exact kv_ | exact kb2_ | exact ksl_ | exact r_lenM hs rfl rfl (by assumption) hm (by assumption))) ?_ | refine oN_ ?_); clear hs a; intro a hs) | ((with_reducible apply lCons); first | (refine dv hs gw_ rfl rfl da_ ?_; clear hs hm a; rintro _ w ⟨g, rfl, -, hm⟩ a hs) | (refine stn hs rfl rfl ds_ ?_; clear hs hm a; rintro - w hm a hs) ) | refine sx_ ?_ | refine cx_ ?_)
  replace hm := hm.zero 3
  refine cLoop (X := RgX) (fun X a w' => Sl Tryz.f67.ntmps [(0, .pointer (some ⟨x.g, 0, none⟩)), (5, slv X.A X.l.length X.c), (13, .slice A words.length c), (14, .int .i64 (words.length : Int)), (15, .int .i64 (X.k : Int))] a ∧ Mm S0 wB [⟨X.A, 3, X.cs⟩, ⟨some x.g, 87, [slv x.cA x.r.code.length x.cc, slv x.sA x.r.ss.length x.sc, slv x.dA x.ws.length x.dc, .map (some x.m), slv x.jA x.r.js.length x.jc, .int .i64 (x.line : Int), .bool x.r.last]⟩, ⟨x.cA, 54, x.ccs⟩, ⟨x.sA, 3, x.scs⟩, ⟨x.dA, 56, x.dcs⟩, ⟨x.jA, 90, x.jcs⟩] w' ∧ X.k ≤ words.length ∧ decA (words.take X.k) = some X.l ∧ Row X.A X.l.length X.c 1 (ints X.l) X.cs) (fun X => words.length - X.k) ⟨0, [], none, 0, []⟩ ⟨hs.sub (Has.all ⟨rfl, rfl, rfl, rfl, rfl, trivial⟩), hm, Nat.zero_le _, rfl, Row.empty 1⟩ ?_
  clear hs hm hm0 a
  rintro ⟨k, l, lA, lc, lcs⟩ a w' ⟨hs, hm, hk, hdl, hrow⟩
  dsimp only at hs hm hk hdl hrow
  have hll := (decA_bd _ _ hdl).1
  rw [List.length_take] at hll
  by_cases hlt : k < words.length
  · obtain ⟨b1, o1, rfl, hb1, r1⟩ := hrd.ro (by rw [List.length_map]; omega)
    have hnb : ¬ S0 b1 := hnA _ rfl
    have e1 : (words.map txv)[k]? = some (txv words[k]) := by rw [List.getElem?_map, List.getElem?_eq_getElem hlt]; rfl
    have hsl := hlen _ (List.getElem_mem hlt)
    cases hd : decF words[k] with
    | none =>
      have hdc := fun w => dec_c words[k] w (by omega)
      unfold dcV at hdc
      rw [hd] at hdc
      have hF : (regF x.r words).2 = 2 := by unfold regF; rw [decA_none words k hlt hd]
      generalize words[k] = s at *
      repeat (first | ((with_reducible refine toL hm ?_); (first | refine oneV hs gw_ rfl rfl (by intro w hm; (first | exact kv_ | exact kb2_ | exact ksl_ | exact r_lenM hs rfl rfl (by assumption) hm (by assumption))) ?_ | refine oN_ ?_); clear hs a; intro a hs) | ((with_reducible apply lCons); first | (refine dv hs gw_ rfl rfl da_ ?_; clear hs hm a; rintro _ w ⟨g, rfl, -, hm⟩ a hs) | (refine stn hs rfl rfl ds_ ?_; clear hs hm a; rintro - w hm a hs) | (refine dv hs gw_ rfl rfl (d_call hs rfl rfl rfl (pl 83 rfl) (hdc _)) ?_; clear hs a; rintro _ w ⟨rfl, hf⟩ a hs; replace hm := hm.pu hf; clear hf)) | refine sx_ ?_ | refine cx_ ?_)
      exact gRet1 hs rfl rfl ⟨_, rfl, hF.symm, hm.fr, (fun e => by cases e)⟩
    | some v =>
      have hdc := fun w => dec_c words[k] w (by omega)
      unfold dcV at hdc
      rw [hd] at hdc
      have hsn := decA_snoc _ _ _ _ hdl hd
      rw [← List.take_succ_eq_append_getElem hlt] at hsn
      generalize words[k] = s at *
      have hdc2 : ∀ w, Ret Tryz.prog 83 [txv s] w (fun u w' => u = .tuple #[.int .i64 v, .bool true] ∧ Pu w w') := hdc
      clear hdc
      repeat (first | ((with_reducible refine toL hm ?_); (first | refine oneV hs gw_ rfl rfl (by intro w hm; (first | exact kv_ | exact kb2_ | exact ksl_ | exact r_lenM hs rfl rfl (by assumption) hm (by assumption))) ?_ | refine oN_ ?_); clear hs a; intro a hs) | ((with_reducible apply lCons); first | (refine dv hs gw_ rfl rfl da_ ?_; clear hs hm a; rintro _ w ⟨g, rfl, -, hm⟩ a hs) | (refine stn hs rfl rfl ds_ ?_; clear hs hm a; rintro - w hm a hs) | (refine dv hs gw_ rfl rfl (d_call hs rfl rfl rfl (pl 83 rfl) (hdc2 _)) ?_; clear hs a; rintro _ w ⟨rfl, hf⟩ a hs; replace hm := hm.pu hf; clear hf)) | refine sx_ ?_ | refine cx_ ?_)
      refine dv hs (Wnt.none rfl) rfl rfl (d_append (A := lA) (n := l.length) (c := lc) (news := [.int .i64 v]) hs rfl rfl rfl rfl rfl tab rfl rfl rfl rfl rfl hm mem_ hrow rfl (hm.ro (n := 1) mem_ (cutF_ok rfl)) rfl (by show (l.length + 1) * 8 ≤ _; omega) (by omega)) ?_
      clear hs
      rintro _ w2 ⟨A2, c2, cs2, rfl, hr2, hM⟩ a hs
      replace hm := hM _ rep_
      clear hM
      rw [show ints l ++ [.int .i64 v] = ints (l ++ [v]) by unfold ints; rw [List.map_append]; rfl, show l.length + 1 = (l ++ [v]).length by rw [List.length_append]; rfl] at hr2
      rw [show l.length + 1 = (l ++ [v]).length by rw [List.length_append]; rfl] at hs
      repeat (first | ((with_reducible refine toL hm ?_); (first | refine oneV hs gw_ rfl rfl (by intro w hm; (first | exact kv_ | exact kb2_ | exact ksl_ | exact r_lenM hs rfl rfl (by assumption) hm (by assumption))) ?_ | refine oN_ ?_); clear hs a; intro a hs) | ((with_reducible apply lCons); first | (refine dv hs gw_ rfl rfl da_ ?_; clear hs hm a; rintro _ w ⟨g, rfl, -, hm⟩ a hs) | (refine stn hs rfl rfl ds_ ?_; clear hs hm a; rintro - w hm a hs) ) | refine sx_ ?_ | refine cx_ ?_)
      exact ⟨⟨k + 1, l ++ [v], A2, c2, cs2⟩, by dsimp only; omega, hs.sub (Has.all ⟨rfl, rfl, rfl, rfl, rfl, trivial⟩), hm.sub sub_, by dsimp only; omega, hsn, hr2⟩
  obtain rfl : k = words.length := by omega
  rw [List.take_length] at hdl
  have hbd := (decA_bd _ _ hdl).2
  cases l with
  | nil =>
    have hF : (regF x.r words).2 = 2 := by unfold regF; rw [hdl]
    repeat (first | ((with_reducible refine toL hm ?_); (first | refine oneV hs gw_ rfl rfl (by intro w hm; (first | exact kv_ | exact kb2_ | exact ksl_ | exact r_lenM hs rfl rfl (by assumption) hm (by assumption))) ?_ | refine oN_ ?_); clear hs a; intro a hs) | ((with_reducible apply lCons); first | (refine dv hs gw_ rfl rfl da_ ?_; clear hs hm a; rintro _ w ⟨g, rfl, -, hm⟩ a hs) | (refine stn hs rfl rfl ds_ ?_; clear hs hm a; rintro - w hm a hs) ) | refine sx_ ?_ | refine cx_ ?_)
    exact gRet1 hs rfl rfl ⟨_, rfl, hF.symm, hm.fr, (fun e => by cases e)⟩
  | cons v t =>
    have hv := hbd v (List.mem_cons_self ..)
    have hle := hrow.le
    have hln : (v :: t).length = t.length + 1 := rfl
    obtain ⟨lg, rfl⟩ := hrow.some_ (by rw [hln]; omega)
    have e0 : lcs[0]? = some (.int .i64 v) := hrow.get rfl
    by_cases q1 : 0 < x.r.code.length
    · have hF : (regF x.r words).2 = 2 := by unfold regF; rw [hdl]; dsimp only; rw [if_pos (.inl (List.ne_nil_of_length_pos q1))]
      repeat (first | ((with_reducible refine toL hm ?_); (first | refine oneV hs gw_ rfl rfl (by intro w hm; (first | exact kv_ | exact kb2_ | exact ksl_ | exact r_lenM hs rfl rfl (by assumption) hm (by assumption))) ?_ | refine oN_ ?_); clear hs a; intro a hs) | ((with_reducible apply lCons); first | (refine dv hs gw_ rfl rfl da_ ?_; clear hs hm a; rintro _ w ⟨g, rfl, -, hm⟩ a hs) | (refine stn hs rfl rfl ds_ ?_; clear hs hm a; rintro - w hm a hs) ) | refine sx_ ?_ | refine cx_ ?_)
      exact gRet1 hs rfl rfl ⟨_, rfl, hF.symm, hm.fr, (fun e => by cases e)⟩
    by_cases q2 : 0 < x.r.lab.length
    · have hF : (regF x.r words).2 = 2 := by unfold regF; rw [hdl]; dsimp only; rw [if_pos (.inr (List.ne_nil_of_length_pos q2))]
      repeat (first | ((with_reducible refine toL hm ?_); (first | refine oneV hs gw_ rfl rfl (by intro w hm; (first | exact kv_ | exact kb2_ | exact ksl_ | exact r_lenM hs rfl rfl (by assumption) hm (by assumption))) ?_ | refine oN_ ?_); clear hs a; intro a hs) | ((with_reducible apply lCons); first | (refine dv hs gw_ rfl rfl da_ ?_; clear hs hm a; rintro _ w ⟨g, rfl, -, hm⟩ a hs) | (refine stn hs rfl rfl ds_ ?_; clear hs hm a; rintro - w hm a hs) ) | refine sx_ ?_ | refine cx_ ?_)
      exact gRet1 hs rfl rfl ⟨_, rfl, hF.symm, hm.fr, (fun e => by cases e)⟩
    have hu : ¬ (x.r.code ≠ [] ∨ x.r.lab ≠ []) := by
      rintro (h1 | h1)
      · exact q1 (List.length_pos_iff.2 h1)
      · exact q2 (List.length_pos_iff.2 h1)
    obtain ⟨mx, hmx⟩ : ∃ z, Lib.maxOf (v :: t) = z := ⟨_, rfl⟩
    have hgt : 65535 < mx ↔ (v :: t).any (fun x => decide (65535 < x)) = true := by
      rw [← hmx]
      show 65535 < (v :: t).foldl max v ↔ _
      rw [maxOf_gt]
      refine ⟨fun h => h.elim (fun h => ?_) id, .inr⟩
      rw [List.any_cons, Bool.or_eq_true]
      exact .inl (decide_eq_true h)
    have hmc := fun (w : World) (hm : Mm S0 wB [⟨some lg, 3, lcs⟩, ⟨some x.g, 87, [slv x.cA x.r.code.length x.cc, slv x.sA x.r.ss.length x.sc, slv x.dA x.ws.length x.dc, .map (some x.m), slv x.jA x.r.js.length x.jc, .int .i64 (x.line : Int), .bool x.r.last]⟩, ⟨x.cA, 54, x.ccs⟩, ⟨x.sA, 3, x.scs⟩, ⟨x.dA, 56, x.dcs⟩, ⟨x.jA, 90, x.jcs⟩] w) => max_c lg 0 (v :: t).length lc (v :: t) w rfl (by rw [hln]; omega) (by omega) (row_ro hm mem_ hrow)
    rw [hmx] at hmc
    have h6 : 65535 < mx ∨ v < 1 ∨ 32 < v ∨ v < (t.length : Int) ∨ 4 ≤ x.r.ss.length → (regF x.r words).2 = 6 := fun h => by
      unfold regF; rw [hdl]; dsimp only; rw [if_neg hu, if_pos (by rw [hgt] at h; exact h)]
    by_cases c1 : 65535 < mx
    · have hF := h6 (.inl c1)
      repeat (first | ((with_reducible refine toL hm ?_); (first | refine oneV hs gw_ rfl rfl (by intro w hm; (first | exact kv_ | exact kb2_ | exact ksl_ | exact r_lenM hs rfl rfl (by assumption) hm (by assumption))) ?_ | refine oN_ ?_); clear hs a; intro a hs) | ((with_reducible apply lCons); first | (refine dv hs gw_ rfl rfl da_ ?_; clear hs hm a; rintro _ w ⟨g, rfl, -, hm⟩ a hs) | (refine stn hs rfl rfl ds_ ?_; clear hs hm a; rintro - w hm a hs) | (refine dv hs gw_ rfl rfl (d_call hs rfl rfl rfl (pl 84 rfl) (hmc _ hm)) ?_; clear hs a; rintro _ w ⟨rfl, hf⟩ a hs; replace hm := hm.pu hf; clear hf)) | refine sx_ ?_ | refine cx_ ?_)
      exact gRet1 hs rfl rfl ⟨_, rfl, hF.symm, hm.fr, (fun e => by cases e)⟩
    by_cases c2 : v < 1
    · have hF := h6 (.inr (.inl c2))
      repeat (first | ((with_reducible refine toL hm ?_); (first | refine oneV hs gw_ rfl rfl (by intro w hm; (first | exact kv_ | exact kb2_ | exact ksl_ | exact r_lenM hs rfl rfl (by assumption) hm (by assumption))) ?_ | refine oN_ ?_); clear hs a; intro a hs) | ((with_reducible apply lCons); first | (refine dv hs gw_ rfl rfl da_ ?_; clear hs hm a; rintro _ w ⟨g, rfl, -, hm⟩ a hs) | (refine stn hs rfl rfl ds_ ?_; clear hs hm a; rintro - w hm a hs) | (refine dv hs gw_ rfl rfl (d_call hs rfl rfl rfl (pl 84 rfl) (hmc _ hm)) ?_; clear hs a; rintro _ w ⟨rfl, hf⟩ a hs; replace hm := hm.pu hf; clear hf)) | refine sx_ ?_ | refine cx_ ?_)
      exact gRet1 hs rfl rfl ⟨_, rfl, hF.symm, hm.fr, (fun e => by cases e)⟩
    by_cases c3 : 32 < v
    · have hF := h6 (.inr (.inr (.inl c3)))
      repeat (first | ((with_reducible refine toL hm ?_); (first | refine oneV hs gw_ rfl rfl (by intro w hm; (first | exact kv_ | exact kb2_ | exact ksl_ | exact r_lenM hs rfl rfl (by assumption) hm (by assumption))) ?_ | refine oN_ ?_); clear hs a; intro a hs) | ((with_reducible apply lCons); first | (refine dv hs gw_ rfl rfl da_ ?_; clear hs hm a; rintro _ w ⟨g, rfl, -, hm⟩ a hs) | (refine stn hs rfl rfl ds_ ?_; clear hs hm a; rintro - w hm a hs) | (refine dv hs gw_ rfl rfl (d_call hs rfl rfl rfl (pl 84 rfl) (hmc _ hm)) ?_; clear hs a; rintro _ w ⟨rfl, hf⟩ a hs; replace hm := hm.pu hf; clear hf)) | refine sx_ ?_ | refine cx_ ?_)
      exact gRet1 hs rfl rfl ⟨_, rfl, hF.symm, hm.fr, (fun e => by cases e)⟩
    by_cases c4 : v < (t.length : Int)
    · have hF := h6 (.inr (.inr (.inr (.inl c4))))
      repeat (first | ((with_reducible refine toL hm ?_); (first | refine oneV hs gw_ rfl rfl (by intro w hm; (first | exact kv_ | exact kb2_ | exact ksl_ | exact r_lenM hs rfl rfl (by assumption) hm (by assumption))) ?_ | refine oN_ ?_); clear hs a; intro a hs) | ((with_reducible apply lCons); first | (refine dv hs gw_ rfl rfl da_ ?_; clear hs hm a; rintro _ w ⟨g, rfl, -, hm⟩ a hs) | (refine stn hs rfl rfl ds_ ?_; clear hs hm a; rintro - w hm a hs) | (refine dv hs gw_ rfl rfl (d_call hs rfl rfl rfl (pl 84 rfl) (hmc _ hm)) ?_; clear hs a; rintro _ w ⟨rfl, hf⟩ a hs; replace hm := hm.pu hf; clear hf)) | refine sx_ ?_ | refine cx_ ?_)
      exact gRet1 hs rfl rfl ⟨_, rfl, hF.symm, hm.fr, (fun e => by cases e)⟩
    by_cases c5 : 4 ≤ x.r.ss.length
    · have hF := h6 (.inr (.inr (.inr (.inr c5))))
      repeat (first | ((with_reducible refine toL hm ?_); (first | refine oneV hs gw_ rfl rfl (by intro w hm; (first | exact kv_ | exact kb2_ | exact ksl_ | exact r_lenM hs rfl rfl (by assumption) hm (by assumption))) ?_ | refine oN_ ?_); clear hs a; intro a hs) | ((with_reducible apply lCons); first | (refine dv hs gw_ rfl rfl da_ ?_; clear hs hm a; rintro _ w ⟨g, rfl, -, hm⟩ a hs) | (refine stn hs rfl rfl ds_ ?_; clear hs hm a; rintro - w hm a hs) | (refine dv hs gw_ rfl rfl (d_call hs rfl rfl rfl (pl 84 rfl) (hmc _ hm)) ?_; clear hs a; rintro _ w ⟨rfl, hf⟩ a hs; replace hm := hm.pu hf; clear hf)) | refine sx_ ?_ | refine cx_ ?_)
      exact gRet1 hs rfl rfl ⟨_, rfl, hF.symm, hm.fr, (fun e => by cases e)⟩
    have hF : regF x.r words = ({ x.r with ss := x.r.ss ++ [v], ws := x.r.ws ++ [t] }, 0) := by
      unfold regF; rw [hdl]; dsimp only; rw [if_neg hu, if_neg (by rw [hgt] at c1; rintro (h1 | h1 | h1 | h1 | h1) <;> first | exact c1 h1 | omega)]
    rw [hF]
    have htb : ∀ y ∈ t, 0 ≤ y ∧ y ≤ 65535 := fun y hy => ⟨(hbd y (List.mem_cons_of_mem _ hy)).1, by
      by_cases e : 65535 < y
      · exact absurd (hgt.2 (List.any_eq_true.2 ⟨y, List.mem_cons_of_mem _ hy, decide_eq_true e⟩)) c1
      · omega⟩
    clear h6 hgt hmx
    repeat (first | ((with_reducible refine toL hm ?_); (first | refine oneV hs gw_ rfl rfl (by intro w hm; (first | exact kv_ | exact kb2_ | exact ksl_ | exact r_lenM hs rfl rfl (by assumption) hm (by assumption))) ?_ | refine oN_ ?_); clear hs a; intro a hs) | ((with_reducible apply lCons); first | (refine dv hs gw_ rfl rfl da_ ?_; clear hs hm a; rintro _ w ⟨g, rfl, -, hm⟩ a hs) | (refine stn hs rfl rfl ds_ ?_; clear hs hm a; rintro - w hm a hs) | (refine dv hs gw_ rfl rfl (d_call hs rfl rfl rfl (pl 84 rfl) (hmc _ hm)) ?_; clear hs a; rintro _ w ⟨rfl, hf⟩ a hs; replace hm := hm.pu hf; clear hf)) | refine sx_ ?_ | refine cx_ ?_)
    obtain ⟨B, hB⟩ : ∃ B : Option Addr, (if lc = (1 : Int).toNat then (some ⟨lg, 0, none⟩ : Option Addr) else (some ⟨lg, 0, none⟩ : Option Addr).map (·.add ((1 : Int).toNat * 1))) = B := ⟨_, rfl⟩
    have hBv : 0 < t.length → B = some ⟨lg, 1, none⟩ := fun h0 => by
      rw [← hB, if_neg (by show lc ≠ 1; omega)]
      rfl
    replace hs : Sl Tryz.f67.ntmps [(0, .pointer (some ⟨x.g, 0, none⟩)), (5, slv (some lg) (v :: t).length lc), (10, slv none 0 0), (85, .slice B t.length (lc - 1)), (86, .int .i64 (t.length : Int)), (87, .int .i64 ((0 : Nat) : Int))] a := by
      rw [← hB]
      exact hs.sub (Has.all ⟨rfl, rfl, rfl, rfl, rfl, rfl, trivial⟩)
    clear hB
    replace hm := hm.zero 74
    refine cLoop (X := RgX) (fun X a w' => Sl Tryz.f67.ntmps [(0, .pointer (some ⟨x.g, 0, none⟩)), (5, slv (some lg) (v :: t).length lc), (10, slv X.A X.k X.c), (85, .slice B t.length (lc - 1)), (86, .int .i64 (t.length : Int)), (87, .int .i64 (X.k : Int))] a ∧ Mm S0 wB [⟨X.A, 74, X.cs⟩, ⟨some lg, 3, lcs⟩, ⟨some x.g, 87, [slv x.cA x.r.code.length x.cc, slv x.sA x.r.ss.length x.sc, slv x.dA x.ws.length x.dc, .map (some x.m), slv x.jA x.r.js.length x.jc, .int .i64 (x.line : Int), .bool x.r.last]⟩, ⟨x.cA, 54, x.ccs⟩, ⟨x.sA, 3, x.scs⟩, ⟨x.dA, 56, x.dcs⟩, ⟨x.jA, 90, x.jcs⟩] w' ∧ X.k ≤ t.length ∧ Row X.A X.k X.c 1 (wds (t.take X.k)) X.cs) (fun X => t.length - X.k) ⟨0, [], none, 0, []⟩ ⟨hs, hm, Nat.zero_le _, Row.empty 1⟩ ?_
    clear hs hm a hmc
    rintro ⟨k, l_, wA, wc, wcs⟩ a w' ⟨hs, hm, hk, hrw⟩
    dsimp only at hs hm hk hrw
    by_cases hkt : k < t.length
    · have hBe := hBv (by omega)
      subst hBe
      obtain ⟨y, hy⟩ : ∃ y, t[k] = y := ⟨_, rfl⟩
      have hyb := htb t[k] (List.getElem_mem hkt)
      rw [hy] at hyb
      have e1 : lcs[1 + k]? = some (.int .i64 y) := hrow.get (by
        show (ints (v :: t))[1 + k]? = _
        rw [Nat.add_comm 1 k]
        show (ints t)[k]? = _
        unfold ints
        rw [List.getElem?_map, List.getElem?_eq_getElem hkt, hy]; rfl)
      repeat (first | ((with_reducible refine toL hm ?_); (first | refine oneV hs gw_ rfl rfl (by intro w hm; (first | exact kv_ | exact kb2_ | exact ksl_ | exact r_lenM hs rfl rfl (by assumption) hm (by assumption))) ?_ | refine oN_ ?_); clear hs a; intro a hs) | ((with_reducible apply lCons); first | (refine dv hs gw_ rfl rfl da_ ?_; clear hs hm a; rintro _ w ⟨g, rfl, -, hm⟩ a hs) | (refine stn hs rfl rfl ds_ ?_; clear hs hm a; rintro - w hm a hs) ) | refine sx_ ?_ | refine cx_ ?_)
      rw [wrap16 hyb] at hs hm
      refine dv hs (Wnt.none rfl) rfl rfl (d_append (A := wA) (n := k) (c := wc) (news := [.int .u16 y]) hs rfl rfl rfl rfl rfl tab rfl rfl rfl rfl rfl hm mem_ hrw rfl (hm.ro (n := 1) mem_ (cutF_ok rfl)) rfl (by show (k + 1) * 2 ≤ _; omega) (by omega)) ?_
      clear hs
      rintro _ w2 ⟨A2, c2, cs2, rfl, hr2, hM⟩ a hs
      replace hm := hM _ rep_
      clear hM
      rw [show wds (t.take k) ++ [.int .u16 y] = wds (t.take (k + 1)) by unfold wds; rw [List.take_succ_eq_append_getElem hkt, List.map_append, hy]; rfl] at hr2
      repeat (first | ((with_reducible refine toL hm ?_); (first | refine oneV hs gw_ rfl rfl (by intro w hm; (first | exact kv_ | exact kb2_ | exact ksl_ | exact r_lenM hs rfl rfl (by assumption) hm (by assumption))) ?_ | refine oN_ ?_); clear hs a; intro a hs) | ((with_reducible apply lCons); first | (refine dv hs gw_ rfl rfl da_ ?_; clear hs hm a; rintro _ w ⟨g, rfl, -, hm⟩ a hs) | (refine stn hs rfl rfl ds_ ?_; clear hs hm a; rintro - w hm a hs) ) | refine sx_ ?_ | refine cx_ ?_)
      exact ⟨⟨k + 1, [], A2, c2, cs2⟩, by dsimp only; omega, hs.sub (Has.all ⟨rfl, rfl, rfl, rfl, rfl, rfl, trivial⟩), hm.sub sub_, by dsimp only; omega, hr2⟩
    obtain rfl : k = t.length := by omega
    rw [List.take_length] at hrw
    repeat (first | ((with_reducible refine toL hm ?_); (first | refine oneV hs gw_ rfl rfl (by intro w hm; (first | exact kv_ | exact kb2_ | exact ksl_ | exact r_lenM hs rfl rfl (by assumption) hm (by assumption))) ?_ | refine oN_ ?_); clear hs a; intro a hs) | ((with_reducible apply lCons); first | (refine dv hs gw_ rfl rfl da_ ?_; clear hs hm a; rintro _ w ⟨g, rfl, -, hm⟩ a hs) | (refine stn hs rfl rfl ds_ ?_; clear hs hm a; rintro - w hm a hs) ) | refine sx_ ?_ | refine cx_ ?_)
    have hxs := h.s
    have hxd := h.d
    refine cMid (fun a w => ∃ (sA2 : Option Nat) (sc2 : Nat) (scs2 : List Value) (dA2 : Option Nat) (dc2 : Nat) (dcs2 : List Value), Row sA2 (x.r.ss.length + 1) sc2 1 (ints x.r.ss ++ [.int .i64 v]) scs2 ∧ Row dA2 (x.ws.length + 1) dc2 1 (x.ws.map WS.v ++ [slv wA t.length wc]) dcs2 ∧ Sl Tryz.f67.ntmps [(0, .pointer (some ⟨x.g, 0, none⟩))] a ∧ Mm S0 wB [⟨wA, 74, wcs⟩, ⟨some x.g, 87, [slv x.cA x.r.code.length x.cc, slv sA2 (x.r.ss.length + 1) sc2, slv dA2 (x.ws.length + 1) dc2, .map (some x.m), slv x.jA x.r.js.length x.jc, .int .i64 (x.line : Int), .bool x.r.last]⟩, ⟨x.cA, 54, x.ccs⟩, ⟨sA2, 3, scs2⟩, ⟨dA2, 56, dcs2⟩, ⟨x.jA, 90, x.jcs⟩] w) ?_ ?_
    · skip
      refine cDraw (n := 28) [⟨some lg, 3, lcs⟩] hm rfl rfl ?_
      clear hm
      intro w2 hm
      refine hTake 0 hs rfl (by kernel_rfl) (Wnt.none rfl) rfl rfl (by intro w hm; replace hm : Mm _ _ _ w := hm; exact r_val hs tab rfl) (hm.sub sub_) ?_; clear hs a; intro a hs
      refine hTake 1 hs rfl (by kernel_rfl) (Wnt.none rfl) rfl rfl (by intro w hm; replace hm : Mm _ _ _ w := hm; exact r_val hs tab rfl) (hm.sub sub_) ?_; clear hs a; intro a hs
      refine hTake 2 hs rfl (by kernel_rfl) (Wnt.none rfl) rfl rfl (by intro w hm; replace hm : Mm _ _ _ w := hm; exact r_val hs tab rfl) (hm.sub sub_) ?_; clear hs a; intro a hs
      refine hTake 3 hs rfl (by kernel_rfl) (Wnt.none rfl) rfl rfl (by intro w hm; replace hm : Mm _ _ _ w := hm; exact r_val hs tab rfl) (hm.sub sub_) ?_; clear hs a; intro a hs
      refine hTake 4 hs rfl (by kernel_rfl) (Wnt.none rfl) rfl rfl (by intro w hm; replace hm : Mm _ _ _ w := hm; exact r_val hs tab rfl) (hm.sub sub_) ?_; clear hs a; intro a hs
      refine hTake 5 hs rfl (by kernel_rfl) (Wnt.none rfl) rfl rfl (by intro w hm; replace hm : Mm _ _ _ w := hm; exact r_val hs tab rfl) (hm.sub sub_) ?_; clear hs a; intro a hs
      refine hTake 7 hs rfl (by kernel_rfl) (Wnt.none rfl) rfl rfl (by intro w hm; replace hm : Mm _ _ _ w := hm; exact r_val hs tab rfl) (hm.sub sub_) ?_; clear hs a; intro a hs
      refine hTake 8 hs rfl (by kernel_rfl) (Wnt.none rfl) rfl rfl (by intro w hm; replace hm : Mm _ _ _ w := hm; (first | exact r_iz hs tab rfl rfl (by omega) | exact r_iy hs tab rfl rfl (by omega))) (hm.sub sub_) ?_; clear hs a; intro a hs
      refine hTake 9 hs rfl (by kernel_rfl) (Wnt.none rfl) rfl rfl (by intro w hm; replace hm : Mm _ _ _ w := hm; exact kl_) (hm.sub sub_) ?_; clear hs a; intro a hs
      refine hTake 12 hs rfl (by kernel_rfl) (Wnt.none rfl) rfl rfl (by intro w hm; replace hm : Mm _ _ _ w := hm; exact r_val hs tab rfl) (hm.sub sub_) ?_; clear hs a; intro a hs
      refine hTake 13 hs rfl (by kernel_rfl) (Wnt.none rfl) rfl rfl (by intro w hm; replace hm : Mm _ _ _ w := hm; exact r_val hs tab rfl) (hm.sub sub_) ?_; clear hs a; intro a hs
      refine hTake 14 hs rfl (by kernel_rfl) (Wnt.none rfl) rfl rfl (by intro w hm; replace hm : Mm _ _ _ w := hm; exact r_val hs tab rfl) (hm.sub sub_) ?_; clear hs a; intro a hs
      refine hTake 15 hs rfl (by kernel_rfl) (Wnt.none rfl) rfl rfl (by intro w hm; replace hm : Mm _ _ _ w := hm; exact r_val hs tab rfl) (hm.sub sub_) ?_; clear hs a; intro a hs
      refine hTake 17 hs rfl (by kernel_rfl) (Wnt.none rfl) rfl rfl (by intro w hm; replace hm : Mm _ _ _ w := hm; exact r_val hs tab rfl) (hm.sub sub_) ?_; clear hs a; intro a hs
      refine hEach [6, 10, 16, 18] (by kernel_rfl) (eDo hs rfl (Wnt.none rfl) rfl rfl (RunV.does kv_) ?_ (eDo hs rfl (Wnt.none rfl) rfl rfl (by exact d_buildSlice hs rfl tab rfl rfl rfl rfl rfl rfl rfl rfl rfl hm) ?_ (eDo hs rfl (Wnt.none rfl) rfl rfl (RunV.does kv_) ?_ (eDo hs rfl (Wnt.none rfl) rfl rfl (by exact d_buildSlice hs rfl tab rfl rfl rfl rfl rfl rfl rfl rfl rfl hm) ?_ eNil))))
      · skip
        clear hs a
        rintro _ _ ⟨rfl, rfl⟩ a hs
        refine ⟨hm.sub sub_, ?_⟩
        refine hEach [10, 16, 18] (by kernel_rfl) (eDo hs rfl (Wnt.none rfl) rfl rfl (by exact d_buildSlice hs rfl tab rfl rfl rfl rfl rfl rfl rfl rfl rfl hm) ?_ (eDo hs rfl (Wnt.none rfl) rfl rfl (RunV.does kv_) ?_ (eDo hs rfl (Wnt.none rfl) rfl rfl (by exact d_buildSlice hs rfl tab rfl rfl rfl rfl rfl rfl rfl rfl rfl hm) ?_ eNil)))
        · skip
          clear hs hm a
          rintro _ w30 ⟨g107, rfl, -, hm⟩ a hs
          refine ⟨hm.sub sub_, ?_⟩
          refine hEach [11, 16, 18] (by kernel_rfl) (eDo hs rfl (Wnt.none rfl) rfl rfl (d_append (A := x.sA) (n := x.r.ss.length) (c := x.sc) (news := [.int .i64 v]) hs rfl rfl rfl rfl rfl tab rfl rfl rfl rfl rfl hm mem_ hxs rfl (hm.ro (n := 1) mem_ (cutF_ok rfl)) rfl (by show (x.r.ss.length + 1) * 8 ≤ _; omega) (by omega)) ?_ (eDo hs rfl (Wnt.none rfl) rfl rfl (RunV.does kv_) ?_ (eDo hs rfl (Wnt.none rfl) rfl rfl (by exact d_buildSlice hs rfl tab rfl rfl rfl rfl rfl rfl rfl rfl rfl hm) ?_ eNil)))
          · skip
            clear hs
            rintro _ w1 ⟨sA2, sc2, scs2, rfl, hr11, hM⟩ a hs
            replace hm := hM _ rep_
            clear hM
            refine ⟨hm.sub sub_, ?_⟩
            refine hEach [16, 18] (by kernel_rfl) (eDo hs rfl (Wnt.none rfl) rfl rfl (RunV.does kv_) ?_ (eDo hs rfl (Wnt.none rfl) rfl rfl (by exact d_buildSlice hs rfl tab rfl rfl rfl rfl rfl rfl rfl rfl rfl hm) ?_ eNil))
            · skip
              clear hs a
              rintro _ _ ⟨rfl, rfl⟩ a hs
              refine ⟨hm.sub sub_, ?_⟩
              refine hEach [18] (by kernel_rfl) (eDo hs rfl (Wnt.none rfl) rfl rfl (by exact d_buildSlice hs rfl tab rfl rfl rfl rfl rfl rfl rfl rfl rfl hm) ?_ eNil)
              clear hs hm a
              rintro _ w38 ⟨g115, rfl, -, hm⟩ a hs
              refine ⟨hm.sub sub_, ?_⟩
              refine hEach [19] (by kernel_rfl) (eDo hs rfl (Wnt.none rfl) rfl rfl (d_append (A := x.dA) (n := x.ws.length) (c := x.dc) (news := [slv wA t.length wc]) hs rfl rfl rfl rfl rfl tab rfl rfl rfl rfl rfl hm mem_ hxd rfl (hm.ro (n := 1) mem_ (cutF_ok rfl)) rfl (by show (x.ws.length + 1) * 24 ≤ _; omega) (by omega)) ?_ eNil)
              clear hs
              rintro _ w1 ⟨dA2, dc2, dcs2, rfl, hr19, hM⟩ a hs
              replace hm := hM _ rep_
              clear hM
              refine ⟨hm.sub sub_, ?_⟩
              refine hTake 20 hs rfl (by kernel_rfl) (Wnt.none rfl) rfl rfl (by intro w hm; replace hm : Mm _ _ _ w := hm; exact r_val hs tab rfl) (hm.sub sub_) ?_; clear hs a; intro a hs
              refine hTake 21 hs rfl (by kernel_rfl) (Wnt.none rfl) rfl rfl (by intro w hm; replace hm : Mm _ _ _ w := hm; exact r_val hs tab rfl) (hm.sub sub_) ?_; clear hs a; intro a hs
              refine hTake 22 hs rfl (by kernel_rfl) (Wnt.none rfl) rfl rfl (by intro w hm; replace hm : Mm _ _ _ w := hm; exact r_val hs tab rfl) (hm.sub sub_) ?_; clear hs a; intro a hs
              refine hEach [23] (by kernel_rfl) (eDoN hs rfl (Wnt.none rfl) rfl ds_ ?_ eNil)
              clear hs hm
              rintro - w43 hm a hs
              refine ⟨hm.sub sub_, ?_⟩
              refine hTake 24 hs rfl (by kernel_rfl) (Wnt.none rfl) rfl rfl (by intro w hm; replace hm : Mm _ _ _ w := hm; exact r_val hs tab rfl) (hm.sub sub_) ?_; clear hs a; intro a hs
              refine hTake 25 hs rfl (by kernel_rfl) (Wnt.none rfl) rfl rfl (by intro w hm; replace hm : Mm _ _ _ w := hm; exact r_val hs tab rfl) (hm.sub sub_) ?_; clear hs a; intro a hs
              refine hTake 26 hs rfl (by kernel_rfl) (Wnt.none rfl) rfl rfl (by intro w hm; replace hm : Mm _ _ _ w := hm; exact r_val hs tab rfl) (hm.sub sub_) ?_; clear hs a; intro a hs
              refine hEach [27] (by kernel_rfl) (eDoN hs rfl (Wnt.none rfl) rfl ds_ ?_ eNil)
              clear hs hm
              rintro - w47 hm a hs
              refine ⟨hm.sub sub_, ?_⟩
              refine hDone (by kernel_rfl) ?_
              exact And.intro rfl ⟨sA2, sc2, scs2, dA2, dc2, dcs2, hr11, hr19, hs.sub (Has.all ⟨rfl, trivial⟩), hm.sub sub_⟩
            · skip
              clear hs hm a
              rintro _ w38 ⟨g115, rfl, -, hm⟩ a hs
              refine ⟨hm.sub sub_, ?_⟩
              refine hEach [16] (by kernel_rfl) (eDo hs rfl (Wnt.none rfl) rfl rfl (RunV.does kv_) ?_ eNil)
              clear hs a
              rintro _ _ ⟨rfl, rfl⟩ a hs
              refine ⟨hm.sub sub_, ?_⟩
              refine hEach [19] (by kernel_rfl) (eDo hs rfl (Wnt.none rfl) rfl rfl (d_append (A := x.dA) (n := x.ws.length) (c := x.dc) (news := [slv wA t.length wc]) hs rfl rfl rfl rfl rfl tab rfl rfl rfl rfl rfl hm mem_ hxd rfl (hm.ro (n := 1) mem_ (cutF_ok rfl)) rfl (by show (x.ws.length + 1) * 24 ≤ _; omega) (by omega)) ?_ eNil)
              clear hs
              rintro _ w1 ⟨dA2, dc2, dcs2, rfl, hr19, hM⟩ a hs
              replace hm := hM _ rep_
              clear hM
              refine ⟨hm.sub sub_, ?_⟩
              refine hTake 20 hs rfl (by kernel_rfl) (Wnt.none rfl) rfl rfl (by intro w hm; replace hm : Mm _ _ _ w := hm; exact r_val hs tab rfl) (hm.sub sub_) ?_; clear hs a; intro a hs
              refine hTake 21 hs rfl (by kernel_rfl) (Wnt.none rfl) rfl rfl (by intro w hm; replace hm : Mm _ _ _ w := hm; exact r_val hs tab rfl) (hm.sub sub_) ?_; clear hs a; intro a hs
              refine hTake 22 hs rfl (by kernel_rfl) (Wnt.none rfl) rfl rfl (by intro w hm; replace hm : Mm _ _ _ w := hm; exact r_val hs tab rfl) (hm.sub sub_) ?_; clear hs a; intro a hs
              refine hEach [23] (by kernel_rfl) (eDoN hs rfl (Wnt.none rfl) rfl ds_ ?_ eNil)
              clear hs hm
              rintro - w43 hm a hs
              refine ⟨hm.sub sub_, ?_⟩
              refine hTake 24 hs rfl (by kernel_rfl) (Wnt.none rfl) rfl rfl (by intro w hm; replace hm : Mm _ _ _ w := hm; exact r_val hs tab rfl) (hm.sub sub_) ?_; clear hs a; intro a hs
              refine hTake 25 hs rfl (by kernel_rfl) (Wnt.none rfl) rfl rfl (by intro w hm; replace hm : Mm _ _ _ w := hm; exact r_val hs tab rfl) (hm.sub sub_) ?_; clear hs a; intro a hs
              refine hTake 26 hs rfl (by kernel_rfl) (Wnt.none rfl) rfl rfl (by intro w hm; replace hm : Mm _ _ _ w := hm; exact r_val hs tab rfl) (hm.sub sub_) ?_; clear hs a; intro a hs
              refine hEach [27] (by kernel_rfl) (eDoN hs rfl (Wnt.none rfl) rfl ds_ ?_ eNil)
              clear hs hm
              rintro - w47 hm a hs
              refine ⟨hm.sub sub_, ?_⟩
              refine hDone (by kernel_rfl) ?_
              exact And.intro rfl ⟨sA2, sc2, scs2, dA2, dc2, dcs2, hr11, hr19, hs.sub (Has.all ⟨rfl, trivial⟩), hm.sub sub_⟩
          · skip
            clear hs a
            rintro _ _ ⟨rfl, rfl⟩ a hs
            refine ⟨hm.sub sub_, ?_⟩
            refine hEach [11, 18] (by kernel_rfl) (eDo hs rfl (Wnt.none rfl) rfl rfl (d_append (A := x.sA) (n := x.r.ss.length) (c := x.sc) (news := [.int .i64 v]) hs rfl rfl rfl rfl rfl tab rfl rfl rfl rfl rfl hm mem_ hxs rfl (hm.ro (n := 1) mem_ (cutF_ok rfl)) rfl (by show (x.r.ss.length + 1) * 8 ≤ _; omega) (by omega)) ?_ (eDo hs rfl (Wnt.none rfl) rfl rfl (by exact d_buildSlice hs rfl tab rfl rfl rfl rfl rfl rfl rfl rfl rfl hm) ?_ eNil))
            · skip
              clear hs
              rintro _ w1 ⟨sA2, sc2, scs2, rfl, hr11, hM⟩ a hs
              replace hm := hM _ rep_
              clear hM
              refine ⟨hm.sub sub_, ?_⟩
              refine hEach [18] (by kernel_rfl) (eDo hs rfl (Wnt.none rfl) rfl rfl (by exact d_buildSlice hs rfl tab rfl rfl rfl rfl rfl rfl rfl rfl rfl hm) ?_ eNil)
              clear hs hm a
              rintro _ w38 ⟨g115, rfl, -, hm⟩ a hs
              refine ⟨hm.sub sub_, ?_⟩
              refine hEach [19] (by kernel_rfl) (eDo hs rfl (Wnt.none rfl) rfl rfl (d_append (A := x.dA) (n := x.ws.length) (c := x.dc) (news := [slv wA t.length wc]) hs rfl rfl rfl rfl rfl tab rfl rfl rfl rfl rfl hm mem_ hxd rfl (hm.ro (n := 1) mem_ (cutF_ok rfl)) rfl (by show (x.ws.length + 1) * 24 ≤ _; omega) (by omega)) ?_ eNil)
              clear hs
              rintro _ w1 ⟨dA2, dc2, dcs2, rfl, hr19, hM⟩ a hs
              replace hm := hM _ rep_
              clear hM
              refine ⟨hm.sub sub_, ?_⟩
              refine hTake 20 hs rfl (by kernel_rfl) (Wnt.none rfl) rfl rfl (by intro w hm; replace hm : Mm _ _ _ w := hm; exact r_val hs tab rfl) (hm.sub sub_) ?_; clear hs a; intro a hs
              refine hTake 21 hs rfl (by kernel_rfl) (Wnt.none rfl) rfl rfl (by intro w hm; replace hm : Mm _ _ _ w := hm; exact r_val hs tab rfl) (hm.sub sub_) ?_; clear hs a; intro a hs
              refine hTake 22 hs rfl (by kernel_rfl) (Wnt.none rfl) rfl rfl (by intro w hm; replace hm : Mm _ _ _ w := hm; exact r_val hs tab rfl) (hm.sub sub_) ?_; clear hs a; intro a hs
              refine hEach [23] (by kernel_rfl) (eDoN hs rfl (Wnt.none rfl) rfl ds_ ?_ eNil)
              clear hs hm
              rintro - w43 hm a hs
              refine ⟨hm.sub sub_, ?_⟩
              refine hTake 24 hs rfl (by kernel_rfl) (Wnt.none rfl) rfl rfl (by intro w hm; replace hm : Mm _ _ _ w := hm; exact r_val hs tab rfl) (hm.sub sub_) ?_; clear hs a; intro a hs
              refine hTake 25 hs rfl (by kernel_rfl) (Wnt.none rfl) rfl rfl (by intro w hm; replace hm : Mm _ _ _ w := hm; exact r_val hs tab rfl) (hm.sub sub_) ?_; clear hs a; intro a hs
              refine hTake 26 hs rfl (by kernel_rfl) (Wnt.none rfl) rfl rfl (by intro w hm; replace hm : Mm _ _ _ w := hm; exact r_val hs tab rfl) (hm.sub sub_) ?_; clear hs a; intro a hs
              refine hEach [27] (by kernel_rfl) (eDoN hs rfl (Wnt.none rfl) rfl ds_ ?_ eNil)
              clear hs hm
              rintro - w47 hm a hs
              refine ⟨hm.sub sub_, ?_⟩
              refine hDone (by kernel_rfl) ?_
              exact And.intro rfl ⟨sA2, sc2, scs2, dA2, dc2, dcs2, hr11, hr19, hs.sub (Has.all ⟨rfl, trivial⟩), hm.sub sub_⟩
            · skip
              clear hs hm a
              rintro _ w38 ⟨g115, rfl, -, hm⟩ a hs
              refine ⟨hm.sub sub_, ?_⟩
              refine hEach [11] (by kernel_rfl) (eDo hs rfl (Wnt.none rfl) rfl rfl (d_append (A := x.sA) (n := x.r.ss.length) (c := x.sc) (news := [.int .i64 v]) hs rfl rfl rfl rfl rfl tab rfl rfl rfl rfl rfl hm mem_ hxs rfl (hm.ro (n := 1) mem_ (cutF_ok rfl)) rfl (by show (x.r.ss.length + 1) * 8 ≤ _; omega) (by omega)) ?_ eNil)
              clear hs
              rintro _ w1 ⟨sA2, sc2, scs2, rfl, hr11, hM⟩ a hs
              replace hm := hM _ rep_
              clear hM
              refine ⟨hm.sub sub_, ?_⟩
              refine hEach [19] (by kernel_rfl) (eDo hs rfl (Wnt.none rfl) rfl rfl (d_append (A := x.dA) (n := x.ws.length) (c := x.dc) (news := [slv wA t.length wc]) hs rfl rfl rfl rfl rfl tab rfl rfl rfl rfl rfl hm mem_ hxd rfl (hm.ro (n := 1) mem_ (cutF_ok rfl)) rfl (by show (x.ws.length + 1) * 24 ≤ _; omega) (by omega)) ?_ eNil)
              clear hs
              rintro _ w1 ⟨dA2, dc2, dcs2, rfl, hr19, hM⟩ a hs
              replace hm := hM _ rep_
              clear hM
              refine ⟨hm.sub sub_, ?_⟩
              refine hTake 20 hs rfl (by kernel_rfl) (Wnt.none rfl) rfl rfl (by intro w hm; replace hm : Mm _ _ _ w := hm; exact r_val hs tab rfl) (hm.sub sub_) ?_; clear hs a; intro a hs
              refine hTake 21 hs rfl (by kernel_rfl) (Wnt.none rfl) rfl rfl (by intro w hm; replace hm : Mm _ _ _ w := hm; exact r_val hs tab rfl) (hm.sub sub_) ?_; clear hs a; intro a hs
              refine hTake 22 hs rfl (by kernel_rfl) (Wnt.none rfl) rfl rfl (by intro w hm; replace hm : Mm _ _ _ w := hm; exact r_val hs tab rfl) (hm.sub sub_) ?_; clear hs a; intro a hs
              refine hEach [23] (by kernel_rfl) (eDoN hs rfl (Wnt.none rfl) rfl ds_ ?_ eNil)
              clear hs hm
              rintro - w43 hm a hs
              refine ⟨hm.sub sub_, ?_⟩
              refine hTake 24 hs rfl (by kernel_rfl) (Wnt.none rfl) rfl rfl (by intro w hm; replace hm : Mm _ _ _ w := hm; exact r_val hs tab rfl) (hm.sub sub_) ?_; clear hs a; intro a hs
              refine hTake 25 hs rfl (by kernel_rfl) (Wnt.none rfl) rfl rfl (by intro w hm; replace hm : Mm _ _ _ w := hm; exact r_val hs tab rfl) (hm.sub sub_) ?_; clear hs a; intro a hs
              refine hTake 26 hs rfl (by kernel_rfl) (Wnt.none rfl) rfl rfl (by intro w hm; replace hm : Mm _ _ _ w := hm; exact r_val hs tab rfl) (hm.sub sub_) ?_; clear hs a; intro a hs
              refine hEach [27] (by kernel_rfl) (eDoN hs rfl (Wnt.none rfl) rfl ds_ ?_ eNil)
              clear hs hm
              rintro - w47 hm a hs
              refine ⟨hm.sub sub_, ?_⟩
              refine hDone (by kernel_rfl) ?_
              exact And.intro rfl ⟨sA2, sc2, scs2, dA2, dc2, dcs2, hr11, hr19, hs.sub (Has.all ⟨rfl, trivial⟩), hm.sub sub_⟩
          · skip
            clear hs hm a
            rintro _ w38 ⟨g115, rfl, -, hm⟩ a hs
            refine ⟨hm.sub sub_, ?_⟩
            refine hEach [11, 16] (by kernel_rfl) (eDo hs rfl (Wnt.none rfl) rfl rfl (d_append (A := x.sA) (n := x.r.ss.length) (c := x.sc) (news := [.int .i64 v]) hs rfl rfl rfl rfl rfl tab rfl rfl rfl rfl rfl hm mem_ hxs rfl (hm.ro (n := 1) mem_ (cutF_ok rfl)) rfl (by show (x.r.ss.length + 1) * 8 ≤ _; omega) (by omega)) ?_ (eDo hs rfl (Wnt.none rfl) rfl rfl (RunV.does kv_) ?_ eNil))
            · skip
              clear hs
              rintro _ w1 ⟨sA2, sc2, scs2, rfl, hr11, hM⟩ a hs
              replace hm := hM _ rep_
              clear hM
              refine ⟨hm.sub sub_, ?_⟩
              refine hEach [16] (by kernel_rfl) (eDo hs rfl (Wnt.none rfl) rfl rfl (RunV.does kv_) ?_ eNil)
              clear hs a
              rintro _ _ ⟨rfl, rfl⟩ a hs
              refine ⟨hm.sub sub_, ?_⟩
              refine hEach [19] (by kernel_rfl) (eDo hs rfl (Wnt.none rfl) rfl rfl (d_append (A := x.dA) (n := x.ws.length) (c := x.dc) (news := [slv wA t.length wc]) hs rfl rfl rfl rfl rfl tab rfl rfl rfl rfl rfl hm mem_ hxd rfl (hm.ro (n := 1) mem_ (cutF_ok rfl)) rfl (by show (x.ws.length + 1) * 24 ≤ _; omega) (by omega)) ?_ eNil)
              clear hs
              rintro _ w1 ⟨dA2, dc2, dcs2, rfl, hr19, hM⟩ a hs
              replace hm := hM _ rep_
              clear hM
              refine ⟨hm.sub sub_, ?_⟩
              refine hTake 20 hs rfl (by kernel_rfl) (Wnt.none rfl) rfl rfl (by intro w hm; replace hm : Mm _ _ _ w := hm; exact r_val hs tab rfl) (hm.sub sub_) ?_; clear hs a; intro a hs
              refine hTake 21 hs rfl (by kernel_rfl) (Wnt.none rfl) rfl rfl (by intro w hm; replace hm : Mm _ _ _ w := hm; exact r_val hs tab rfl) (hm.sub sub_) ?_; clear hs a; intro a hs
              refine hTake 22 hs rfl (by kernel_rfl) (Wnt.none rfl) rfl rfl (by intro w hm; replace hm : Mm _ _ _ w := hm; exact r_val hs tab rfl) (hm.sub sub_) ?_; clear hs a; intro a hs
              refine hEach [23] (by kernel_rfl) (eDoN hs rfl (Wnt.none rfl) rfl ds_ ?_ eNil)
              clear hs hm
              rintro - w43 hm a hs
              refine ⟨hm.sub sub_, ?_⟩
              refine hTake 24 hs rfl (by kernel_rfl) (Wnt.none rfl) rfl rfl (by intro w hm; replace hm : Mm _ _ _ w := hm; exact r_val hs tab rfl) (hm.sub sub_) ?_; clear hs a; intro a hs
              refine hTake 25 hs rfl (by kernel_rfl) (Wnt.none rfl) rfl rfl (by intro w hm; replace hm : Mm _ _ _ w := hm; exact r_val hs tab rfl) (hm.sub sub_) ?_; clear hs a; intro a hs
              refine hTake 26 hs rfl (by kernel_rfl) (Wnt.none rfl) rfl rfl (by intro w hm; replace hm : Mm _ _ _ w := hm; exact r_val hs tab rfl) (hm.sub sub_) ?_; clear hs a; intro a hs
              refine hEach [27] (by kernel_rfl) (eDoN hs rfl (Wnt.none rfl) rfl ds_ ?_ eNil)
              clear hs hm
              rintro - w47 hm a hs
              refine ⟨hm.sub sub_, ?_⟩
              refine hDone (by kernel_rfl) ?_
              exact And.intro rfl ⟨sA2, sc2, scs2, dA2, dc2, dcs2, hr11, hr19, hs.sub (Has.all ⟨rfl, trivial⟩), hm.sub sub_⟩
            · skip
              clear hs a
              rintro _ _ ⟨rfl, rfl⟩ a hs
              refine ⟨hm.sub sub_, ?_⟩
              refine hEach [11] (by kernel_rfl) (eDo hs rfl (Wnt.none rfl) rfl rfl (d_append (A := x.sA) (n := x.r.ss.length) (c := x.sc) (news := [.int .i64 v]) hs rfl rfl rfl rfl rfl tab rfl rfl rfl rfl rfl hm mem_ hxs rfl (hm.ro (n := 1) mem_ (cutF_ok rfl)) rfl (by show (x.r.ss.length + 1) * 8 ≤ _; omega) (by omega)) ?_ eNil)
              clear hs
              rintro _ w1 ⟨sA2, sc2, scs2, rfl, hr11, hM⟩ a hs
              replace hm := hM _ rep_
              clear hM
              refine ⟨hm.sub sub_, ?_⟩
              refine hEach [19] (by kernel_rfl) (eDo hs rfl (Wnt.none rfl) rfl rfl (d_append (A := x.dA) (n := x.ws.length) (c := x.dc) (news := [slv wA t.length wc]) hs rfl rfl rfl rfl rfl tab rfl rfl rfl rfl rfl hm mem_ hxd rfl (hm.ro (n := 1) mem_ (cutF_ok rfl)) rfl (by show (x.ws.length + 1) * 24 ≤ _; omega) (by omega)) ?_ eNil)
              clear hs
              rintro _ w1 ⟨dA2, dc2, dcs2, rfl, hr19, hM⟩ a hs
              replace hm := hM _ rep_
              clear hM
              refine ⟨hm.sub sub_, ?_⟩
              refine hTake 20 hs rfl (by kernel_rfl) (Wnt.none rfl) rfl rfl (by intro w hm; replace hm : Mm _ _ _ w := hm; exact r_val hs tab rfl) (hm.sub sub_) ?_; clear hs a; intro a hs
              refine hTake 21 hs rfl (by kernel_rfl) (Wnt.none rfl) rfl rfl (by intro w hm; replace hm : Mm _ _ _ w := hm; exact r_val hs tab rfl) (hm.sub sub_) ?_; clear hs a; intro a hs
              refine hTake 22 hs rfl (by kernel_rfl) (Wnt.none rfl) rfl rfl (by intro w hm; replace hm : Mm _ _ _ w := hm; exact r_val hs tab rfl) (hm.sub sub_) ?_; clear hs a; intro a hs
              refine hEach [23] (by kernel_rfl) (eDoN hs rfl (Wnt.none rfl) rfl ds_ ?_ eNil)
              clear hs hm
              rintro - w43 hm a hs
              refine ⟨hm.sub sub_, ?_⟩
              refine hTake 24 hs rfl (by kernel_rfl) (Wnt.none rfl) rfl rfl (by intro w hm; replace hm : Mm _ _ _ w := hm; exact r_val hs tab rfl) (hm.sub sub_) ?_; clear hs a; intro a hs
              refine hTake 25 hs rfl (by kernel_rfl) (Wnt.none rfl) rfl rfl (by intro w hm; replace hm : Mm _ _ _ w := hm; exact r_val hs tab rfl) (hm.sub sub_) ?_; clear hs a; intro a hs
              refine hTake 26 hs rfl (by kernel_rfl) (Wnt.none rfl) rfl rfl (by intro w hm; replace hm : Mm _ _ _ w := hm; exact r_val hs tab rfl) (hm.sub sub_) ?_; clear hs a; intro a hs
              refine hEach [27] (by kernel_rfl) (eDoN hs rfl (Wnt.none rfl) rfl ds_ ?_ eNil)
              clear hs hm
              rintro - w47 hm a hs
              refine ⟨hm.sub sub_, ?_⟩
              refine hDone (by kernel_rfl) ?_
              exact And.intro rfl ⟨sA2, sc2, scs2, dA2, dc2, dcs2, hr11, hr19, hs.sub (Has.all ⟨rfl, trivial⟩), hm.sub sub_⟩
        · skip
          clear hs a
          rintro _ _ ⟨rfl, rfl⟩ a hs
          refine ⟨hm.sub sub_, ?_⟩
          refine hEach [10, 18] (by kernel_rfl) (eDo hs rfl (Wnt.none rfl) rfl rfl (by exact d_buildSlice hs rfl tab rfl rfl rfl rfl rfl rfl rfl rfl rfl hm) ?_ (eDo hs rfl (Wnt.none rfl) rfl rfl (by exact d_buildSlice hs rfl tab rfl rfl rfl rfl rfl rfl rfl rfl rfl hm) ?_ eNil))
          · skip
            clear hs hm a
            rintro _ w30 ⟨g107, rfl, -, hm⟩ a hs
            refine ⟨hm.sub sub_, ?_⟩
            refine hEach [11, 18] (by kernel_rfl) (eDo hs rfl (Wnt.none rfl) rfl rfl (d_append (A := x.sA) (n := x.r.ss.length) (c := x.sc) (news := [.int .i64 v]) hs rfl rfl rfl rfl rfl tab rfl rfl rfl rfl rfl hm mem_ hxs rfl (hm.ro (n := 1) mem_ (cutF_ok rfl)) rfl (by show (x.r.ss.length + 1) * 8 ≤ _; omega) (by omega)) ?_ (eDo hs rfl (Wnt.none rfl) rfl rfl (by exact d_buildSlice hs rfl tab rfl rfl rfl rfl rfl rfl rfl rfl rfl hm) ?_ eNil))
            · skip
              clear hs
              rintro _ w1 ⟨sA2, sc2, scs2, rfl, hr11, hM⟩ a hs
              replace hm := hM _ rep_
              clear hM
              refine ⟨hm.sub sub_, ?_⟩
              refine hEach [18] (by kernel_rfl) (eDo hs rfl (Wnt.none rfl) rfl rfl (by exact d_buildSlice hs rfl tab rfl rfl rfl rfl rfl rfl rfl rfl rfl hm) ?_ eNil)
              clear hs hm a
              rintro _ w38 ⟨g115, rfl, -, hm⟩ a hs
              refine ⟨hm.sub sub_, ?_⟩
              refine hEach [19] (by kernel_rfl) (eDo hs rfl (Wnt.none rfl) rfl rfl (d_append (A := x.dA) (n := x.ws.length) (c := x.dc) (news := [slv wA t.length wc]) hs rfl rfl rfl rfl rfl tab rfl rfl rfl rfl rfl hm mem_ hxd rfl (hm.ro (n := 1) mem_ (cutF_ok rfl)) rfl (by show (x.ws.length + 1) * 24 ≤ _; omega) (by omega)) ?_ eNil)
              clear hs
              rintro _ w1 ⟨dA2, dc2, dcs2, rfl, hr19, hM⟩ a hs
              replace hm := hM _ rep_
              clear hM
              refine ⟨hm.sub sub_, ?_⟩
              refine hTake 20 hs rfl (by kernel_rfl) (Wnt.none rfl) rfl rfl (by intro w hm; replace hm : Mm _ _ _ w := hm; exact r_val hs tab rfl) (hm.sub sub_) ?_; clear hs a; intro a hs
              refine hTake 21 hs rfl (by kernel_rfl) (Wnt.none rfl) rfl rfl (by intro w hm; replace hm : Mm _ _ _ w := hm; exact r_val hs tab rfl) (hm.sub sub_) ?_; clear hs a; intro a hs
              refine hTake 22 hs rfl (by kernel_rfl) (Wnt.none rfl) rfl rfl (by intro w hm; replace hm : Mm _ _ _ w := hm; exact r_val hs tab rfl) (hm.sub sub_) ?_; clear hs a; intro a hs
              refine hEach [23] (by kernel_rfl) (eDoN hs rfl (Wnt.none rfl) rfl ds_ ?_ eNil)
              clear hs hm
              rintro - w43 hm a hs
              refine ⟨hm.sub sub_, ?_⟩
              refine hTake 24 hs rfl (by kernel_rfl) (Wnt.none rfl) rfl rfl (by intro w hm; replace hm : Mm _ _ _ w := hm; exact r_val hs tab rfl) (hm.sub sub_) ?_; clear hs a; intro a hs
              refine hTake 25 hs rfl (by kernel_rfl) (Wnt.none rfl) rfl rfl (by intro w hm; replace hm : Mm _ _ _ w := hm; exact r_val hs tab rfl) (hm.sub sub_) ?_; clear hs a; intro a hs
              refine hTake 26 hs rfl (by kernel_rfl) (Wnt.none rfl) rfl rfl (by intro w hm; replace hm : Mm _ _ _ w := hm; exact r_val hs tab rfl) (hm.sub sub_) ?_; clear hs a; intro a hs
              refine hEach [27] (by kernel_rfl) (eDoN hs rfl (Wnt.none rfl) rfl ds_ ?_ eNil)
              clear hs hm
              rintro - w47 hm a hs
              refine ⟨hm.sub sub_, ?_⟩
              refine hDone (by kernel_rfl) ?_
              exact And.intro rfl ⟨sA2, sc2, scs2, dA2, dc2, dcs2, hr11, hr19, hs.sub (Has.all ⟨rfl, trivial⟩), hm.sub sub_⟩
            · skip
              clear hs hm a
              rintro _ w38 ⟨g115, rfl, -, hm⟩ a hs
              refine ⟨hm.sub sub_, ?_⟩
              refine hEach [11] (by kernel_rfl) (eDo hs rfl (Wnt.none rfl) rfl rfl (d_append (A := x.sA) (n := x.r.ss.length) (c := x.sc) (news := [.int .i64 v]) hs rfl rfl rfl rfl rfl tab rfl rfl rfl rfl rfl hm mem_ hxs rfl (hm.ro (n := 1) mem_ (cutF_ok rfl)) rfl (by show (x.r.ss.length + 1) * 8 ≤ _; omega) (by omega)) ?_ eNil)
              clear hs
              rintro _ w1 ⟨sA2, sc2, scs2, rfl, hr11, hM⟩ a hs
              replace hm := hM _ rep_
              clear hM
              refine ⟨hm.sub sub_, ?_⟩
              refine hEach [19] (by kernel_rfl) (eDo hs rfl (Wnt.none rfl) rfl rfl (d_append (A := x.dA) (n := x.ws.length) (c := x.dc) (news := [slv wA t.length wc]) hs rfl rfl rfl rfl rfl tab rfl rfl rfl rfl rfl hm mem_ hxd rfl (hm.ro (n := 1) mem_ (cutF_ok rfl)) rfl (by show (x.ws.length + 1) * 24 ≤ _; omega) (by omega)) ?_ eNil)
              clear hs
              rintro _ w1 ⟨dA2, dc2, dcs2, rfl, hr19, hM⟩ a hs
              replace hm := hM _ rep_
              clear hM
              refine ⟨hm.sub sub_, ?_⟩
              refine hTake 20 hs rfl (by kernel_rfl) (Wnt.none rfl) rfl rfl (by intro w hm; replace hm : Mm _ _ _ w := hm; exact r_val hs tab rfl) (hm.sub sub_) ?_; clear hs a; intro a hs
              refine hTake 21 hs rfl (by kernel_rfl) (Wnt.none rfl) rfl rfl (by intro w hm; replace hm : Mm _ _ _ w := hm; exact r_val hs tab rfl) (hm.sub sub_) ?_; clear hs a; intro a hs
              refine hTake 22 hs rfl (by kernel_rfl) (Wnt.none rfl) rfl rfl (by intro w hm; replace hm : Mm _ _ _ w := hm; exact r_val hs tab rfl) (hm.sub sub_) ?_; clear hs a; intro a hs
              refine hEach [23] (by kernel_rfl) (eDoN hs rfl (Wnt.none rfl) rfl ds_ ?_ eNil)
              clear hs hm
              rintro - w43 hm a hs
              refine ⟨hm.sub sub_, ?_⟩
              refine hTake 24 hs rfl (by kernel_rfl) (Wnt.none rfl) rfl rfl (by intro w hm; replace hm : Mm _ _ _ w := hm; exact r_val hs tab rfl) (hm.sub sub_) ?_; clear hs a; intro a hs
              refine hTake 25 hs rfl (by kernel_rfl) (Wnt.none rfl) rfl rfl (by intro w hm; replace hm : Mm _ _ _ w := hm; exact r_val hs tab rfl) (hm.sub sub_) ?_; clear hs a; intro a hs
              refine hTake 26 hs rfl (by kernel_rfl) (Wnt.none rfl) rfl rfl (by intro w hm; replace hm : Mm _ _ _ w := hm; exact r_val hs tab rfl) (hm.sub sub_) ?_; clear hs a; intro a hs
              refine hEach [27] (by kernel_rfl) (eDoN hs rfl (Wnt.none rfl) rfl ds_ ?_ eNil)
              clear hs hm
              rintro - w47 hm a hs
              refine ⟨hm.sub sub_, ?_⟩
              refine hDone (by kernel_rfl) ?_
              exact And.intro rfl ⟨sA2, sc2, scs2, dA2, dc2, dcs2, hr11, hr19, hs.sub (Has.all ⟨rfl, trivial⟩), hm.sub sub_⟩
          · skip
            clear hs hm a
            rintro _ w38 ⟨g115, rfl, -, hm⟩ a hs
            refine ⟨hm.sub sub_, ?_⟩
            refine hEach [10] (by kernel_rfl) (eDo hs rfl (Wnt.none rfl) rfl rfl (by exact d_buildSlice hs rfl tab rfl rfl rfl rfl rfl rfl rfl rfl rfl hm) ?_ eNil)
            clear hs hm a
            rintro _ w30 ⟨g107, rfl, -, hm⟩ a hs
            refine ⟨hm.sub sub_, ?_⟩
            refine hEach [11] (by kernel_rfl) (eDo hs rfl (Wnt.none rfl) rfl rfl (d_append (A := x.sA) (n := x.r.ss.length) (c := x.sc) (news := [.int .i64 v]) hs rfl rfl rfl rfl rfl tab rfl rfl rfl rfl rfl hm mem_ hxs rfl (hm.ro (n := 1) mem_ (cutF_ok rfl)) rfl (by show (x.r.ss.length + 1) * 8 ≤ _; omega) (by omega)) ?_ eNil)
            clear hs
            rintro _ w1 ⟨sA2, sc2, scs2, rfl, hr11, hM⟩ a hs
            replace hm := hM _ rep_
            clear hM
            refine ⟨hm.sub sub_, ?_⟩
            refine hEach [19] (by kernel_rfl) (eDo hs rfl (Wnt.none rfl) rfl rfl (d_append (A := x.dA) (n := x.ws.length) (c := x.dc) (news := [slv wA t.length wc]) hs rfl rfl rfl rfl rfl tab rfl rfl rfl rfl rfl hm mem_ hxd rfl (hm.ro (n := 1) mem_ (cutF_ok rfl)) rfl (by show (x.ws.length + 1) * 24 ≤ _; omega) (by omega)) ?_ eNil)
            clear hs
            rintro _ w1 ⟨dA2, dc2, dcs2, rfl, hr19, hM⟩ a hs
            replace hm := hM _ rep_
            clear hM
            refine ⟨hm.sub sub_, ?_⟩
            refine hTake 20 hs rfl (by kernel_rfl) (Wnt.none rfl) rfl rfl (by intro w hm; replace hm : Mm _ _ _ w := hm; exact r_val hs tab rfl) (hm.sub sub_) ?_; clear hs a; intro a hs
            refine hTake 21 hs rfl (by kernel_rfl) (Wnt.none rfl) rfl rfl (by intro w hm; replace hm : Mm _ _ _ w := hm; exact r_val hs tab rfl) (hm.sub sub_) ?_; clear hs a; intro a hs
            refine hTake 22 hs rfl (by kernel_rfl) (Wnt.none rfl) rfl rfl (by intro w hm; replace hm : Mm _ _ _ w := hm; exact r_val hs tab rfl) (hm.sub sub_) ?_; clear hs a; intro a hs
            refine hEach [23] (by kernel_rfl) (eDoN hs rfl (Wnt.none rfl) rfl ds_ ?_ eNil)
            clear hs hm
            rintro - w43 hm a hs
            refine ⟨hm.sub sub_, ?_⟩
            refine hTake 24 hs rfl (by kernel_rfl) (Wnt.none rfl) rfl rfl (by intro w hm; replace hm : Mm _ _ _ w := hm; exact r_val hs tab rfl) (hm.sub sub_) ?_; clear hs a; intro a hs
            refine hTake 25 hs rfl (by kernel_rfl) (Wnt.none rfl) rfl rfl (by intro w hm; replace hm : Mm _ _ _ w := hm; exact r_val hs tab rfl) (hm.sub sub_) ?_; clear hs a; intro a hs
            refine hTake 26 hs rfl (by kernel_rfl) (Wnt.none rfl) rfl rfl (by intro w hm; replace hm : Mm _ _ _ w := hm; exact r_val hs tab rfl) (hm.sub sub_) ?_; clear hs a; intro a hs
            refine hEach [27] (by kernel_rfl) (eDoN hs rfl (Wnt.none rfl) rfl ds_ ?_ eNil)
            clear hs hm
            rintro - w47 hm a hs
            refine ⟨hm.sub sub_, ?_⟩
            refine hDone (by kernel_rfl) ?_
            exact And.intro rfl ⟨sA2, sc2, scs2, dA2, dc2, dcs2, hr11, hr19, hs.sub (Has.all ⟨rfl, trivial⟩), hm.sub sub_⟩
        · skip
          clear hs hm a
          rintro _ w38 ⟨g115, rfl, -, hm⟩ a hs
          refine ⟨hm.sub sub_, ?_⟩
          refine hEach [10, 16] (by kernel_rfl) (eDo hs rfl (Wnt.none rfl) rfl rfl (by exact d_buildSlice hs rfl tab rfl rfl rfl rfl rfl rfl rfl rfl rfl hm) ?_ (eDo hs rfl (Wnt.none rfl) rfl rfl (RunV.does kv_) ?_ eNil))
          · skip
            clear hs hm a
            rintro _ w30 ⟨g107, rfl, -, hm⟩ a hs
            refine ⟨hm.sub sub_, ?_⟩
            refine hEach [11, 16] (by kernel_rfl) (eDo hs rfl (Wnt.none rfl) rfl rfl (d_append (A := x.sA) (n := x.r.ss.length) (c := x.sc) (news := [.int .i64 v]) hs rfl rfl rfl rfl rfl tab rfl rfl rfl rfl rfl hm mem_ hxs rfl (hm.ro (n := 1) mem_ (cutF_ok rfl)) rfl (by show (x.r.ss.length + 1) * 8 ≤ _; omega) (by omega)) ?_ (eDo hs rfl (Wnt.none rfl) rfl rfl (RunV.does kv_) ?_ eNil))
            · skip
              clear hs
              rintro _ w1 ⟨sA2, sc2, scs2, rfl, hr11, hM⟩ a hs
              replace hm := hM _ rep_
              clear hM
              refine ⟨hm.sub sub_, ?_⟩
              refine hEach [16] (by kernel_rfl) (eDo hs rfl (Wnt.none rfl) rfl rfl (RunV.does kv_) ?_ eNil)
              clear hs a
              rintro _ _ ⟨rfl, rfl⟩ a hs
              refine ⟨hm.sub sub_, ?_⟩
              refine hEach [19] (by kernel_rfl) (eDo hs rfl (Wnt.none rfl) rfl rfl (d_append (A := x.dA) (n := x.ws.length) (c := x.dc) (news := [slv wA t.length wc]) hs rfl rfl rfl rfl rfl tab rfl rfl rfl rfl rfl hm mem_ hxd rfl (hm.ro (n := 1) mem_ (cutF_ok rfl)) rfl (by show (x.ws.length + 1) * 24 ≤ _; omega) (by omega)) ?_ eNil)
              clear hs
              rintro _ w1 ⟨dA2, dc2, dcs2, rfl, hr19, hM⟩ a hs
              replace hm := hM _ rep_
              clear hM
              refine ⟨hm.sub sub_, ?_⟩
              refine hTake 20 hs rfl (by kernel_rfl) (Wnt.none rfl) rfl rfl (by intro w hm; replace hm : Mm _ _ _ w := hm; exact r_val hs tab rfl) (hm.sub sub_) ?_; clear hs a; intro a hs
              refine hTake 21 hs rfl (by kernel_rfl) (Wnt.none rfl) rfl rfl (by intro w hm; replace hm : Mm _ _ _ w := hm; exact r_val hs tab rfl) (hm.sub sub_) ?_; clear hs a; intro a hs
              refine hTake 22 hs rfl (by kernel_rfl) (Wnt.none rfl) rfl rfl (by intro w hm; replace hm : Mm _ _ _ w := hm; exact r_val hs tab rfl) (hm.sub sub_) ?_; clear hs a; intro a hs
              refine hEach [23] (by kernel_rfl) (eDoN hs rfl (Wnt.none rfl) rfl ds_ ?_ eNil)
              clear hs hm
              rintro - w43 hm a hs
              refine ⟨hm.sub sub_, ?_⟩
              refine hTake 24 hs rfl (by kernel_rfl) (Wnt.none rfl) rfl rfl (by intro w hm; replace hm : Mm _ _ _ w := hm; exact r_val hs tab rfl) (hm.sub sub_) ?_; clear hs a; intro a hs
              refine hTake 25 hs rfl (by kernel_rfl) (Wnt.none rfl) rfl rfl (by intro w hm; replace hm : Mm _ _ _ w := hm; exact r_val hs tab rfl) (hm.sub sub_) ?_; clear hs a; intro a hs
              refine hTake 26 hs rfl (by kernel_rfl) (Wnt.none rfl) rfl rfl (by intro w hm; replace hm : Mm _ _ _ w := hm; exact r_val hs tab rfl) (hm.sub sub_) ?_; clear hs a; intro a hs
              refine hEach [27] (by kernel_rfl) (eDoN hs rfl (Wnt.none rfl) rfl ds_ ?_ eNil)
              clear hs hm
              rintro - w47 hm a hs
              refine ⟨hm.sub sub_, ?_⟩
              refine hDone (by kernel_rfl) ?_
              exact And.intro rfl ⟨sA2, sc2, scs2, dA2, dc2, dcs2, hr11, hr19, hs.sub (Has.all ⟨rfl, trivial⟩), hm.sub sub_⟩
            · skip
              clear hs a
              rintro _ _ ⟨rfl, rfl⟩ a hs
              refine ⟨hm.sub sub_, ?_⟩
              refine hEach [11] (by kernel_rfl) (eDo hs rfl (Wnt.none rfl) rfl rfl (d_append (A := x.sA) (n := x.r.ss.length) (c := x.sc) (news := [.int .i64 v]) hs rfl rfl rfl rfl rfl tab rfl rfl rfl rfl rfl hm mem_ hxs rfl (hm.ro (n := 1) mem_ (cutF_ok rfl)) rfl (by show (x.r.ss.length + 1) * 8 ≤ _; omega) (by omega)) ?_ eNil)
              clear hs
              rintro _ w1 ⟨sA2, sc2, scs2, rfl, hr11, hM⟩ a hs
              replace hm := hM _ rep_
              clear hM
              refine ⟨hm.sub sub_, ?_⟩
              refine hEach [19] (by kernel_rfl) (eDo hs rfl (Wnt.none rfl) rfl rfl (d_append (A := x.dA) (n := x.ws.length) (c := x.dc) (news := [slv wA t.length wc]) hs rfl rfl rfl rfl rfl tab rfl rfl rfl rfl rfl hm mem_ hxd rfl (hm.ro (n := 1) mem_ (cutF_ok rfl)) rfl (by show (x.ws.length + 1) * 24 ≤ _; omega) (by omega)) ?_ eNil)
              clear hs
              rintro _ w1 ⟨dA2, dc2, dcs2, rfl, hr19, hM⟩ a hs
              replace hm := hM _ rep_
              clear hM
              refine ⟨hm.sub sub_, ?_⟩
              refine hTake 20 hs rfl (by kernel_rfl) (Wnt.none rfl) rfl rfl (by intro w hm; replace hm : Mm _ _ _ w := hm; exact r_val hs tab rfl) (hm.sub sub_) ?_; clear hs a; intro a hs
              refine hTake 21 hs rfl (by kernel_rfl) (Wnt.none rfl) rfl rfl (by intro w hm; replace hm : Mm _ _ _ w := hm; exact r_val hs tab rfl) (hm.sub sub_) ?_; clear hs a; intro a hs
              refine hTake 22 hs rfl (by kernel_rfl) (Wnt.none rfl) rfl rfl (by intro w hm; replace hm : Mm _ _ _ w := hm; exact r_val hs tab rfl) (hm.sub sub_) ?_; clear hs a; intro a hs
              refine hEach [23] (by kernel_rfl) (eDoN hs rfl (Wnt.none rfl) rfl ds_ ?_ eNil)
              clear hs hm
              rintro - w43 hm a hs
              refine ⟨hm.sub sub_, ?_⟩
              refine hTake 24 hs rfl (by kernel_rfl) (Wnt.none rfl) rfl rfl (by intro w hm; replace hm : Mm _ _ _ w := hm; exact r_val hs tab rfl) (hm.sub sub_) ?_; clear hs a; intro a hs
              refine hTake 25 hs rfl (by kernel_rfl) (Wnt.none rfl) rfl rfl (by intro w hm; replace hm : Mm _ _ _ w := hm; exact r_val hs tab rfl) (hm.sub sub_) ?_; clear hs a; intro a hs
              refine hTake 26 hs rfl (by kernel_rfl) (Wnt.none rfl) rfl rfl (by intro w hm; replace hm : Mm _ _ _ w := hm; exact r_val hs tab rfl) (hm.sub sub_) ?_; clear hs a; intro a hs
              refine hEach [27] (by kernel_rfl) (eDoN hs rfl (Wnt.none rfl) rfl ds_ ?_ eNil)
              clear hs hm
              rintro - w47 hm a hs
              refine ⟨hm.sub sub_, ?_⟩
              refine hDone (by kernel_rfl) ?_
              exact And.intro rfl ⟨sA2, sc2, scs2, dA2, dc2, dcs2, hr11, hr19, hs.sub (Has.all ⟨rfl, trivial⟩), hm.sub sub_⟩
          · skip
            clear hs a
            rintro _ _ ⟨rfl, rfl⟩ a hs
            refine ⟨hm.sub sub_, ?_⟩
            refine hEach [10] (by kernel_rfl) (eDo hs rfl (Wnt.none rfl) rfl rfl (by exact d_buildSlice hs rfl tab rfl rfl rfl rfl rfl rfl rfl rfl rfl hm) ?_ eNil)
            clear hs hm a
            rintro _ w30 ⟨g107, rfl, -, hm⟩ a hs
            refine ⟨hm.sub sub_, ?_⟩
            refine hEach [11] (by kernel_rfl) (eDo hs rfl (Wnt.none rfl) rfl rfl (d_append (A := x.sA) (n := x.r.ss.length) (c := x.sc) (news := [.int .i64 v]) hs rfl rfl rfl rfl rfl tab rfl rfl rfl rfl rfl hm mem_ hxs rfl (hm.ro (n := 1) mem_ (cutF_ok rfl)) rfl (by show (x.r.ss.length + 1) * 8 ≤ _; omega) (by omega)) ?_ eNil)
            clear hs
            rintro _ w1 ⟨sA2, sc2, scs2, rfl, hr11, hM⟩ a hs
            replace hm := hM _ rep_
            clear hM
            refine ⟨hm.sub sub_, ?_⟩
            refine hEach [19] (by kernel_rfl) (eDo hs rfl (Wnt.none rfl) rfl rfl (d_append (A := x.dA) (n := x.ws.length) (c := x.dc) (news := [slv wA t.length wc]) hs rfl rfl rfl rfl rfl tab rfl rfl rfl rfl rfl hm mem_ hxd rfl (hm.ro (n := 1) mem_ (cutF_ok rfl)) rfl (by show (x.ws.length + 1) * 24 ≤ _; omega) (by omega)) ?_ eNil)
            clear hs
            rintro _ w1 ⟨dA2, dc2, dcs2, rfl, hr19, hM⟩ a hs
            replace hm := hM _ rep_
            clear hM
            refine ⟨hm.sub sub_, ?_⟩
            refine hTake 20 hs rfl (by kernel_rfl) (Wnt.none rfl) rfl rfl (by intro w hm; replace hm : Mm _ _ _ w := hm; exact r_val hs tab rfl) (hm.sub sub_) ?_; clear hs a; intro a hs
            refine hTake 21 hs rfl (by kernel_rfl) (Wnt.none rfl) rfl rfl (by intro w hm; replace hm : Mm _ _ _ w := hm; exact r_val hs tab rfl) (hm.sub sub_) ?_; clear hs a; intro a hs
            refine hTake 22 hs rfl (by kernel_rfl) (Wnt.none rfl) rfl rfl (by intro w hm; replace hm : Mm _ _ _ w := hm; exact r_val hs tab rfl) (hm.sub sub_) ?_; clear hs a; intro a hs
            refine hEach [23] (by kernel_rfl) (eDoN hs rfl (Wnt.none rfl) rfl ds_ ?_ eNil)
            clear hs hm
            rintro - w43 hm a hs
            refine ⟨hm.sub sub_, ?_⟩
            refine hTake 24 hs rfl (by kernel_rfl) (Wnt.none rfl) rfl rfl (by intro w hm; replace hm : Mm _ _ _ w := hm; exact r_val hs tab rfl) (hm.sub sub_) ?_; clear hs a; intro a hs
            refine hTake 25 hs rfl (by kernel_rfl) (Wnt.none rfl) rfl rfl (by intro w hm; replace hm : Mm _ _ _ w := hm; exact r_val hs tab rfl) (hm.sub sub_) ?_; clear hs a; intro a hs
            refine hTake 26 hs rfl (by kernel_rfl) (Wnt.none rfl) rfl rfl (by intro w hm; replace hm : Mm _ _ _ w := hm; exact r_val hs tab rfl) (hm.sub sub_) ?_; clear hs a; intro a hs
            refine hEach [27] (by kernel_rfl) (eDoN hs rfl (Wnt.none rfl) rfl ds_ ?_ eNil)
            clear hs hm
            rintro - w47 hm a hs
            refine ⟨hm.sub sub_, ?_⟩
            refine hDone (by kernel_rfl) ?_
            exact And.intro rfl ⟨sA2, sc2, scs2, dA2, dc2, dcs2, hr11, hr19, hs.sub (Has.all ⟨rfl, trivial⟩), hm.sub sub_⟩
      · skip
        clear hs hm a
        rintro _ w30 ⟨g107, rfl, -, hm⟩ a hs
        refine ⟨hm.sub sub_, ?_⟩
        refine hEach [6, 16, 18] (by kernel_rfl) (eDo hs rfl (Wnt.none rfl) rfl rfl (RunV.does kv_) ?_ (eDo hs rfl (Wnt.none rfl) rfl rfl (RunV.does kv_) ?_ (eDo hs rfl (Wnt.none rfl) rfl rfl (by exact d_buildSlice hs rfl tab rfl rfl rfl rfl rfl rfl rfl rfl rfl hm) ?_ eNil)))
        · skip
          clear hs a
          rintro _ _ ⟨rfl, rfl⟩ a hs
          refine ⟨hm.sub sub_, ?_⟩
          refine hEach [11, 16, 18] (by kernel_rfl) (eDo hs rfl (Wnt.none rfl) rfl rfl (d_append (A := x.sA) (n := x.r.ss.length) (c := x.sc) (news := [.int .i64 v]) hs rfl rfl rfl rfl rfl tab rfl rfl rfl rfl rfl hm mem_ hxs rfl (hm.ro (n := 1) mem_ (cutF_ok rfl)) rfl (by show (x.r.ss.length + 1) * 8 ≤ _; omega) (by omega)) ?_ (eDo hs rfl (Wnt.none rfl) rfl rfl (RunV.does kv_) ?_ (eDo hs rfl (Wnt.none rfl) rfl rfl (by exact d_buildSlice hs rfl tab rfl rfl rfl rfl rfl rfl rfl rfl rfl hm) ?_ eNil)))
          · skip
            clear hs
            rintro _ w1 ⟨sA2, sc2, scs2, rfl, hr11, hM⟩ a hs
            replace hm := hM _ rep_
            clear hM
            refine ⟨hm.sub sub_, ?_⟩
            refine hEach [16, 18] (by kernel_rfl) (eDo hs rfl (Wnt.none rfl) rfl rfl (RunV.does kv_) ?_ (eDo hs rfl (Wnt.none rfl) rfl rfl (by exact d_buildSlice hs rfl tab rfl rfl rfl rfl rfl rfl rfl rfl rfl hm) ?_ eNil))
            · skip
              clear hs a
              rintro _ _ ⟨rfl, rfl⟩ a hs
              refine ⟨hm.sub sub_, ?_⟩
              refine hEach [18] (by kernel_rfl) (eDo hs rfl (Wnt.none rfl) rfl rfl (by exact d_buildSlice hs rfl tab rfl rfl rfl rfl rfl rfl rfl rfl rfl hm) ?_ eNil)
              clear hs hm a
              rintro _ w38 ⟨g115, rfl, -, hm⟩ a hs
              refine ⟨hm.sub sub_, ?_⟩
              refine hEach [19] (by kernel_rfl) (eDo hs rfl (Wnt.none rfl) rfl rfl (d_append (A := x.dA) (n := x.ws.length) (c := x.dc) (news := [slv wA t.length wc]) hs rfl rfl rfl rfl rfl tab rfl rfl rfl rfl rfl hm mem_ hxd rfl (hm.ro (n := 1) mem_ (cutF_ok rfl)) rfl (by show (x.ws.length + 1) * 24 ≤ _; omega) (by omega)) ?_ eNil)
              clear hs
              rintro _ w1 ⟨dA2, dc2, dcs2, rfl, hr19, hM⟩ a hs
              replace hm := hM _ rep_
              clear hM
              refine ⟨hm.sub sub_, ?_⟩
              refine hTake 20 hs rfl (by kernel_rfl) (Wnt.none rfl) rfl rfl (by intro w hm; replace hm : Mm _ _ _ w := hm; exact r_val hs tab rfl) (hm.sub sub_) ?_; clear hs a; intro a hs
              refine hTake 21 hs rfl (by kernel_rfl) (Wnt.none rfl) rfl rfl (by intro w hm; replace hm : Mm _ _ _ w := hm; exact r_val hs tab rfl) (hm.sub sub_) ?_; clear hs a; intro a hs
              refine hTake 22 hs rfl (by kernel_rfl) (Wnt.none rfl) rfl rfl (by intro w hm; replace hm : Mm _ _ _ w := hm; exact r_val hs tab rfl) (hm.sub sub_) ?_; clear hs a; intro a hs
              refine hEach [23] (by kernel_rfl) (eDoN hs rfl (Wnt.none rfl) rfl ds_ ?_ eNil)
              clear hs hm
              rintro - w43 hm a hs
              refine ⟨hm.sub sub_, ?_⟩
              refine hTake 24 hs rfl (by kernel_rfl) (Wnt.none rfl) rfl rfl (by intro w hm; replace hm : Mm _ _ _ w := hm; exact r_val hs tab rfl) (hm.sub sub_) ?_; clear hs a; intro a hs
              refine hTake 25 hs rfl (by kernel_rfl) (Wnt.none rfl) rfl rfl (by intro w hm; replace hm : Mm _ _ _ w := hm; exact r_val hs tab rfl) (hm.sub sub_) ?_; clear hs a; intro a hs
              refine hTake 26 hs rfl (by kernel_rfl) (Wnt.none rfl) rfl rfl (by intro w hm; replace hm : Mm _ _ _ w := hm; exact r_val hs tab rfl) (hm.sub sub_) ?_; clear hs a; intro a hs
              refine hEach [27] (by kernel_rfl) (eDoN hs rfl (Wnt.none rfl) rfl ds_ ?_ eNil)
              clear hs hm
              rintro - w47 hm a hs
              refine ⟨hm.sub sub_, ?_⟩
              refine hDone (by kernel_rfl) ?_
              exact And.intro rfl ⟨sA2, sc2, scs2, dA2, dc2, dcs2, hr11, hr19, hs.sub (Has.all ⟨rfl, trivial⟩), hm.sub sub_⟩
            · skip
              clear hs hm a
              rintro _ w38 ⟨g115, rfl, -, hm⟩ a hs
              refine ⟨hm.sub sub_, ?_⟩
              refine hEach [16] (by kernel_rfl) (eDo hs rfl (Wnt.none rfl) rfl rfl (RunV.does kv_) ?_ eNil)
              clear hs a
              rintro _ _ ⟨rfl, rfl⟩ a hs
              refine ⟨hm.sub sub_, ?_⟩
              refine hEach [19] (by kernel_rfl) (eDo hs rfl (Wnt.none rfl) rfl rfl (d_append (A := x.dA) (n := x.ws.length) (c := x.dc) (news := [slv wA t.length wc]) hs rfl rfl rfl rfl rfl tab rfl rfl rfl rfl rfl hm mem_ hxd rfl (hm.ro (n := 1) mem_ (cutF_ok rfl)) rfl (by show (x.ws.length + 1) * 24 ≤ _; omega) (by omega)) ?_ eNil)
              clear hs
              rintro _ w1 ⟨dA2, dc2, dcs2, rfl, hr19, hM⟩ a hs
              replace hm := hM _ rep_
              clear hM
              refine ⟨hm.sub sub_, ?_⟩
              refine hTake 20 hs rfl (by kernel_rfl) (Wnt.none rfl) rfl rfl (by intro w hm; replace hm : Mm _ _ _ w := hm; exact r_val hs tab rfl) (hm.sub sub_) ?_; clear hs a; intro a hs
              refine hTake 21 hs rfl (by kernel_rfl) (Wnt.none rfl) rfl rfl (by intro w hm; replace hm : Mm _ _ _ w := hm; exact r_val hs tab rfl) (hm.sub sub_) ?_; clear hs a; intro a hs
              refine hTake 22 hs rfl (by kernel_rfl) (Wnt.none rfl) rfl rfl (by intro w hm; replace hm : Mm _ _ _ w := hm; exact r_val hs tab rfl) (hm.sub sub_) ?_; clear hs a; intro a hs
              refine hEach [23] (by kernel_rfl) (eDoN hs rfl (Wnt.none rfl) rfl ds_ ?_ eNil)
              clear hs hm
              rintro - w43 hm a hs
              refine ⟨hm.sub sub_, ?_⟩
              refine hTake 24 hs rfl (by kernel_rfl) (Wnt.none rfl) rfl rfl (by intro w hm; replace hm : Mm _ _ _ w := hm; exact r_val hs tab rfl) (hm.sub sub_) ?_; clear hs a; intro a hs
              refine hTake 25 hs rfl (by kernel_rfl) (Wnt.none rfl) rfl rfl (by intro w hm; replace hm : Mm _ _ _ w := hm; exact r_val hs tab rfl) (hm.sub sub_) ?_; clear hs a; intro a hs
              refine hTake 26 hs rfl (by kernel_rfl) (Wnt.none rfl) rfl rfl (by intro w hm; replace hm : Mm _ _ _ w := hm; exact r_val hs tab rfl) (hm.sub sub_) ?_; clear hs a; intro a hs
              refine hEach [27] (by kernel_rfl) (eDoN hs rfl (Wnt.none rfl) rfl ds_ ?_ eNil)
              clear hs hm
              rintro - w47 hm a hs
              refine ⟨hm.sub sub_, ?_⟩
              refine hDone (by kernel_rfl) ?_
              exact And.intro rfl ⟨sA2, sc2, scs2, dA2, dc2, dcs2, hr11, hr19, hs.sub (Has.all ⟨rfl, trivial⟩), hm.sub sub_⟩
          · skip
            clear hs a
            rintro _ _ ⟨rfl, rfl⟩ a hs
            refine ⟨hm.sub sub_, ?_⟩
            refine hEach [11, 18] (by kernel_rfl) (eDo hs rfl (Wnt.none rfl) rfl rfl (d_append (A := x.sA) (n := x.r.ss.length) (c := x.sc) (news := [.int .i64 v]) hs rfl rfl rfl rfl rfl tab rfl rfl rfl rfl rfl hm mem_ hxs rfl (hm.ro (n := 1) mem_ (cutF_ok rfl)) rfl (by show (x.r.ss.length + 1) * 8 ≤ _; omega) (by omega)) ?_ (eDo hs rfl (Wnt.none rfl) rfl rfl (by exact d_buildSlice hs rfl tab rfl rfl rfl rfl rfl rfl rfl rfl rfl hm) ?_ eNil))
            · skip
              clear hs
              rintro _ w1 ⟨sA2, sc2, scs2, rfl, hr11, hM⟩ a hs
              replace hm := hM _ rep_
              clear hM
              refine ⟨hm.sub sub_, ?_⟩
              refine hEach [18] (by kernel_rfl) (eDo hs rfl (Wnt.none rfl) rfl rfl (by exact d_buildSlice hs rfl tab rfl rfl rfl rfl rfl rfl rfl rfl rfl hm) ?_ eNil)
              clear hs hm a
              rintro _ w38 ⟨g115, rfl, -, hm⟩ a hs
              refine ⟨hm.sub sub_, ?_⟩
              refine hEach [19] (by kernel_rfl) (eDo hs rfl (Wnt.none rfl) rfl rfl (d_append (A := x.dA) (n := x.ws.length) (c := x.dc) (news := [slv wA t.length wc]) hs rfl rfl rfl rfl rfl tab rfl rfl rfl rfl rfl hm mem_ hxd rfl (hm.ro (n := 1) mem_ (cutF_ok rfl)) rfl (by show (x.ws.length + 1) * 24 ≤ _; omega) (by omega)) ?_ eNil)
              clear hs
              rintro _ w1 ⟨dA2, dc2, dcs2, rfl, hr19, hM⟩ a hs
              replace hm := hM _ rep_
              clear hM
              refine ⟨hm.sub sub_, ?_⟩
              refine hTake 20 hs rfl (by kernel_rfl) (Wnt.none rfl) rfl rfl (by intro w hm; replace hm : Mm _ _ _ w := hm; exact r_val hs tab rfl) (hm.sub sub_) ?_; clear hs a; intro a hs
              refine hTake 21 hs rfl (by kernel_rfl) (Wnt.none rfl) rfl rfl (by intro w hm; replace hm : Mm _ _ _ w := hm; exact r_val hs tab rfl) (hm.sub sub_) ?_; clear hs a; intro a hs
              refine hTake 22 hs rfl (by kernel_rfl) (Wnt.none rfl) rfl rfl (by intro w hm; replace hm : Mm _ _ _ w := hm; exact r_val hs tab rfl) (hm.sub sub_) ?_; clear hs a; intro a hs
              refine hEach [23] (by kernel_rfl) (eDoN hs rfl (Wnt.none rfl) rfl ds_ ?_ eNil)
              clear hs hm
              rintro - w43 hm a hs
              refine ⟨hm.sub sub_, ?_⟩
              refine hTake 24 hs rfl (by kernel_rfl) (Wnt.none rfl) rfl rfl (by intro w hm; replace hm : Mm _ _ _ w := hm; exact r_val hs tab rfl) (hm.sub sub_) ?_; clear hs a; intro a hs
              refine hTake 25 hs rfl (by kernel_rfl) (Wnt.none rfl) rfl rfl (by intro w hm; replace hm : Mm _ _ _ w := hm; exact r_val hs tab rfl) (hm.sub sub_) ?_; clear hs a; intro a hs
              refine hTake 26 hs rfl (by kernel_rfl) (Wnt.none rfl) rfl rfl (by intro w hm; replace hm : Mm _ _ _ w := hm; exact r_val hs tab rfl) (hm.sub sub_) ?_; clear hs a; intro a hs
              refine hEach [27] (by kernel_rfl) (eDoN hs rfl (Wnt.none rfl) rfl ds_ ?_ eNil)
              clear hs hm
              rintro - w47 hm a hs
              refine ⟨hm.sub sub_, ?_⟩
              refine hDone (by kernel_rfl) ?_
              exact And.intro rfl ⟨sA2, sc2, scs2, dA2, dc2, dcs2, hr11, hr19, hs.sub (Has.all ⟨rfl, trivial⟩), hm.sub sub_⟩
            · skip
              clear hs hm a
              rintro _ w38 ⟨g115, rfl, -, hm⟩ a hs
              refine ⟨hm.sub sub_, ?_⟩
              refine hEach [11] (by kernel_rfl) (eDo hs rfl (Wnt.none rfl) rfl rfl (d_append (A := x.sA) (n := x.r.ss.length) (c := x.sc) (news := [.int .i64 v]) hs rfl rfl rfl rfl rfl tab rfl rfl rfl rfl rfl hm mem_ hxs rfl (hm.ro (n := 1) mem_ (cutF_ok rfl)) rfl (by show (x.r.ss.length + 1) * 8 ≤ _; omega) (by omega)) ?_ eNil)
              clear hs
              rintro _ w1 ⟨sA2, sc2, scs2, rfl, hr11, hM⟩ a hs
              replace hm := hM _ rep_
              clear hM
              refine ⟨hm.sub sub_, ?_⟩
              refine hEach [19] (by kernel_rfl) (eDo hs rfl (Wnt.none rfl) rfl rfl (d_append (A := x.dA) (n := x.ws.length) (c := x.dc) (news := [slv wA t.length wc]) hs rfl rfl rfl rfl rfl tab rfl rfl rfl rfl rfl hm mem_ hxd rfl (hm.ro (n := 1) mem_ (cutF_ok rfl)) rfl (by show (x.ws.length + 1) * 24 ≤ _; omega) (by omega)) ?_ eNil)
              clear hs
              rintro _ w1 ⟨dA2, dc2, dcs2, rfl, hr19, hM⟩ a hs
              replace hm := hM _ rep_
              clear hM
              refine ⟨hm.sub sub_, ?_⟩
              refine hTake 20 hs rfl (by kernel_rfl) (Wnt.none rfl) rfl rfl (by intro w hm; replace hm : Mm _ _ _ w := hm; exact r_val hs tab rfl) (hm.sub sub_) ?_; clear hs a; intro a hs
              refine hTake 21 hs rfl (by kernel_rfl) (Wnt.none rfl) rfl rfl (by intro w hm; replace hm : Mm _ _ _ w := hm; exact r_val hs tab rfl) (hm.sub sub_) ?_; clear hs a; intro a hs
              refine hTake 22 hs rfl (by kernel_rfl) (Wnt.none rfl) rfl rfl (by intro w hm; replace hm : Mm _ _ _ w := hm; exact r_val hs tab rfl) (hm.sub sub_) ?_; clear hs a; intro a hs
              refine hEach [23] (by kernel_rfl) (eDoN hs rfl (Wnt.none rfl) rfl ds_ ?_ eNil)
              clear hs hm
              rintro - w43 hm a hs
              refine ⟨hm.sub sub_, ?_⟩
              refine hTake 24 hs rfl (by kernel_rfl) (Wnt.none rfl) rfl rfl (by intro w hm; replace hm : Mm _ _ _ w := hm; exact r_val hs tab rfl) (hm.sub sub_) ?_; clear hs a; intro a hs
              refine hTake 25 hs rfl (by kernel_rfl) (Wnt.none rfl) rfl rfl (by intro w hm; replace hm : Mm _ _ _ w := hm; exact r_val hs tab rfl) (hm.sub sub_) ?_; clear hs a; intro a hs
              refine hTake 26 hs rfl (by kernel_rfl) (Wnt.none rfl) rfl rfl (by intro w hm; replace hm : Mm _ _ _ w := hm; exact r_val hs tab rfl) (hm.sub sub_) ?_; clear hs a; intro a hs
              refine hEach [27] (by kernel_rfl) (eDoN hs rfl (Wnt.none rfl) rfl ds_ ?_ eNil)
              clear hs hm
              rintro - w47 hm a hs
              refine ⟨hm.sub sub_, ?_⟩
              refine hDone (by kernel_rfl) ?_
              exact And.intro rfl ⟨sA2, sc2, scs2, dA2, dc2, dcs2, hr11, hr19, hs.sub (Has.all ⟨rfl, trivial⟩), hm.sub sub_⟩
          · skip
            clear hs hm a
            rintro _ w38 ⟨g115, rfl, -, hm⟩ a hs
            refine ⟨hm.sub sub_, ?_⟩
            refine hEach [11, 16] (by kernel_rfl) (eDo hs rfl (Wnt.none rfl) rfl rfl (d_append (A := x.sA) (n := x.r.ss.length) (c := x.sc) (news := [.int .i64 v]) hs rfl rfl rfl rfl rfl tab rfl rfl rfl rfl rfl hm mem_ hxs rfl (hm.ro (n := 1) mem_ (cutF_ok rfl)) rfl (by show (x.r.ss.length + 1) * 8 ≤ _; omega) (by omega)) ?_ (eDo hs rfl (Wnt.none rfl) rfl rfl (RunV.does kv_) ?_ eNil))
            · skip
              clear hs
              rintro _ w1 ⟨sA2, sc2, scs2, rfl, hr11, hM⟩ a hs
              replace hm := hM _ rep_
              clear hM
              refine ⟨hm.sub sub_, ?_⟩
              refine hEach [16] (by kernel_rfl) (eDo hs rfl (Wnt.none rfl) rfl rfl (RunV.does kv_) ?_ eNil)
              clear hs a
              rintro _ _ ⟨rfl, rfl⟩ a hs
              refine ⟨hm.sub sub_, ?_⟩
              refine hEach [19] (by kernel_rfl) (eDo hs rfl (Wnt.none rfl) rfl rfl (d_append (A := x.dA) (n := x.ws.length) (c := x.dc) (news := [slv wA t.length wc]) hs rfl rfl rfl rfl rfl tab rfl rfl rfl rfl rfl hm mem_ hxd rfl (hm.ro (n := 1) mem_ (cutF_ok rfl)) rfl (by show (x.ws.length + 1) * 24 ≤ _; omega) (by omega)) ?_ eNil)
              clear hs
              rintro _ w1 ⟨dA2, dc2, dcs2, rfl, hr19, hM⟩ a hs
              replace hm := hM _ rep_
              clear hM
              refine ⟨hm.sub sub_, ?_⟩
              refine hTake 20 hs rfl (by kernel_rfl) (Wnt.none rfl) rfl rfl (by intro w hm; replace hm : Mm _ _ _ w := hm; exact r_val hs tab rfl) (hm.sub sub_) ?_; clear hs a; intro a hs
              refine hTake 21 hs rfl (by kernel_rfl) (Wnt.none rfl) rfl rfl (by intro w hm; replace hm : Mm _ _ _ w := hm; exact r_val hs tab rfl) (hm.sub sub_) ?_; clear hs a; intro a hs
              refine hTake 22 hs rfl (by kernel_rfl) (Wnt.none rfl) rfl rfl (by intro w hm; replace hm : Mm _ _ _ w := hm; exact r_val hs tab rfl) (hm.sub sub_) ?_; clear hs a; intro a hs
              refine hEach [23] (by kernel_rfl) (eDoN hs rfl (Wnt.none rfl) rfl ds_ ?_ eNil)
              clear hs hm
              rintro - w43 hm a hs
              refine ⟨hm.sub sub_, ?_⟩
              refine hTake 24 hs rfl (by kernel_rfl) (Wnt.none rfl) rfl rfl (by intro w hm; replace hm : Mm _ _ _ w := hm; exact r_val hs tab rfl) (hm.sub sub_) ?_; clear hs a; intro a hs
              refine hTake 25 hs rfl (by kernel_rfl) (Wnt.none rfl) rfl rfl (by intro w hm; replace hm : Mm _ _ _ w := hm; exact r_val hs tab rfl) (hm.sub sub_) ?_; clear hs a; intro a hs
              refine hTake 26 hs rfl (by kernel_rfl) (Wnt.none rfl) rfl rfl (by intro w hm; replace hm : Mm _ _ _ w := hm; exact r_val hs tab rfl) (hm.sub sub_) ?_; clear hs a; intro a hs
              refine hEach [27] (by kernel_rfl) (eDoN hs rfl (Wnt.none rfl) rfl ds_ ?_ eNil)
              clear hs hm
              rintro - w47 hm a hs
              refine ⟨hm.sub sub_, ?_⟩
              refine hDone (by kernel_rfl) ?_
              exact And.intro rfl ⟨sA2, sc2, scs2, dA2, dc2, dcs2, hr11, hr19, hs.sub (Has.all ⟨rfl, trivial⟩), hm.sub sub_⟩
            · skip
              clear hs a
              rintro _ _ ⟨rfl, rfl⟩ a hs
              refine ⟨hm.sub sub_, ?_⟩
              refine hEach [11] (by kernel_rfl) (eDo hs rfl (Wnt.none rfl) rfl rfl (d_append (A := x.sA) (n := x.r.ss.length) (c := x.sc) (news := [.int .i64 v]) hs rfl rfl rfl rfl rfl tab rfl rfl rfl rfl rfl hm mem_ hxs rfl (hm.ro (n := 1) mem_ (cutF_ok rfl)) rfl (by show (x.r.ss.length + 1) * 8 ≤ _; omega) (by omega)) ?_ eNil)
              clear hs
              rintro _ w1 ⟨sA2, sc2, scs2, rfl, hr11, hM⟩ a hs
              replace hm := hM _ rep_
              clear hM
              refine ⟨hm.sub sub_, ?_⟩
              refine hEach [19] (by kernel_rfl) (eDo hs rfl (Wnt.none rfl) rfl rfl (d_append (A := x.dA) (n := x.ws.length) (c := x.dc) (news := [slv wA t.length wc]) hs rfl rfl rfl rfl rfl tab rfl rfl rfl rfl rfl hm mem_ hxd rfl (hm.ro (n := 1) mem_ (cutF_ok rfl)) rfl (by show (x.ws.length + 1) * 24 ≤ _; omega) (by omega)) ?_ eNil)
              clear hs
              rintro _ w1 ⟨dA2, dc2, dcs2, rfl, hr19, hM⟩ a hs
              replace hm := hM _ rep_
              clear hM
              refine ⟨hm.sub sub_, ?_⟩
              refine hTake 20 hs rfl (by kernel_rfl) (Wnt.none rfl) rfl rfl (by intro w hm; replace hm : Mm _ _ _ w := hm; exact r_val hs tab rfl) (hm.sub sub_) ?_; clear hs a; intro a hs
              refine hTake 21 hs rfl (by kernel_rfl) (Wnt.none rfl) rfl rfl (by intro w hm; replace hm : Mm _ _ _ w := hm; exact r_val hs tab rfl) (hm.sub sub_) ?_; clear hs a; intro a hs
              refine hTake 22 hs rfl (by kernel_rfl) (Wnt.none rfl) rfl rfl (by intro w hm; replace hm : Mm _ _ _ w := hm; exact r_val hs tab rfl) (hm.sub sub_) ?_; clear hs a; intro a hs
              refine hEach [23] (by kernel_rfl) (eDoN hs rfl (Wnt.none rfl) rfl ds_ ?_ eNil)
              clear hs hm
              rintro - w43 hm a hs
              refine ⟨hm.sub sub_, ?_⟩
              refine hTake 24 hs rfl (by kernel_rfl) (Wnt.none rfl) rfl rfl (by intro w hm; replace hm : Mm _ _ _ w := hm; exact r_val hs tab rfl) (hm.sub sub_) ?_; clear hs a; intro a hs
              refine hTake 25 hs rfl (by kernel_rfl) (Wnt.none rfl) rfl rfl (by intro w hm; replace hm : Mm _ _ _ w := hm; exact r_val hs tab rfl) (hm.sub sub_) ?_; clear hs a; intro a hs
              refine hTake 26 hs rfl (by kernel_rfl) (Wnt.none rfl) rfl rfl (by intro w hm; replace hm : Mm _ _ _ w := hm; exact r_val hs tab rfl) (hm.sub sub_) ?_; clear hs a; intro a hs
              refine hEach [27] (by kernel_rfl) (eDoN hs rfl (Wnt.none rfl) rfl ds_ ?_ eNil)
              clear hs hm
              rintro - w47 hm a hs
              refine ⟨hm.sub sub_, ?_⟩
              refine hDone (by kernel_rfl) ?_
              exact And.intro rfl ⟨sA2, sc2, scs2, dA2, dc2, dcs2, hr11, hr19, hs.sub (Has.all ⟨rfl, trivial⟩), hm.sub sub_⟩
        · skip
          clear hs a
          rintro _ _ ⟨rfl, rfl⟩ a hs
          refine ⟨hm.sub sub_, ?_⟩
          refine hEach [6, 18] (by kernel_rfl) (eDo hs rfl (Wnt.none rfl) rfl rfl (RunV.does kv_) ?_ (eDo hs rfl (Wnt.none rfl) rfl rfl (by exact d_buildSlice hs rfl tab rfl rfl rfl rfl rfl rfl rfl rfl rfl hm) ?_ eNil))
          · skip
            clear hs a
            rintro _ _ ⟨rfl, rfl⟩ a hs
            refine ⟨hm.sub sub_, ?_⟩
            refine hEach [11, 18] (by kernel_rfl) (eDo hs rfl (Wnt.none rfl) rfl rfl (d_append (A := x.sA) (n := x.r.ss.length) (c := x.sc) (news := [.int .i64 v]) hs rfl rfl rfl rfl rfl tab rfl rfl rfl rfl rfl hm mem_ hxs rfl (hm.ro (n := 1) mem_ (cutF_ok rfl)) rfl (by show (x.r.ss.length + 1) * 8 ≤ _; omega) (by omega)) ?_ (eDo hs rfl (Wnt.none rfl) rfl rfl (by exact d_buildSlice hs rfl tab rfl rfl rfl rfl rfl rfl rfl rfl rfl hm) ?_ eNil))
            · skip
              clear hs
              rintro _ w1 ⟨sA2, sc2, scs2, rfl, hr11, hM⟩ a hs
              replace hm := hM _ rep_
              clear hM
              refine ⟨hm.sub sub_, ?_⟩
              refine hEach [18] (by kernel_rfl) (eDo hs rfl (Wnt.none rfl) rfl rfl (by exact d_buildSlice hs rfl tab rfl rfl rfl rfl rfl rfl rfl rfl rfl hm) ?_ eNil)
              clear hs hm a
              rintro _ w38 ⟨g115, rfl, -, hm⟩ a hs
              refine ⟨hm.sub sub_, ?_⟩
              refine hEach [19] (by kernel_rfl) (eDo hs rfl (Wnt.none rfl) rfl rfl (d_append (A := x.dA) (n := x.ws.length) (c := x.dc) (news := [slv wA t.length wc]) hs rfl rfl rfl rfl rfl tab rfl rfl rfl rfl rfl hm mem_ hxd rfl (hm.ro (n := 1) mem_ (cutF_ok rfl)) rfl (by show (x.ws.length + 1) * 24 ≤ _; omega) (by omega)) ?_ eNil)
              clear hs
              rintro _ w1 ⟨dA2, dc2, dcs2, rfl, hr19, hM⟩ a hs
              replace hm := hM _ rep_
              clear hM
              refine ⟨hm.sub sub_, ?_⟩
              refine hTake 20 hs rfl (by kernel_rfl) (Wnt.none rfl) rfl rfl (by intro w hm; replace hm : Mm _ _ _ w := hm; exact r_val hs tab rfl) (hm.sub sub_) ?_; clear hs a; intro a hs
              refine hTake 21 hs rfl (by kernel_rfl) (Wnt.none rfl) rfl rfl (by intro w hm; replace hm : Mm _ _ _ w := hm; exact r_val hs tab rfl) (hm.sub sub_) ?_; clear hs a; intro a hs
              refine hTake 22 hs rfl (by kernel_rfl) (Wnt.none rfl) rfl rfl (by intro w hm; replace hm : Mm _ _ _ w := hm; exact r_val hs tab rfl) (hm.sub sub_) ?_; clear hs a; intro a hs
              refine hEach [23] (by kernel_rfl) (eDoN hs rfl (Wnt.none rfl) rfl ds_ ?_ eNil)
              clear hs hm
              rintro - w43 hm a hs
              refine ⟨hm.sub sub_, ?_⟩
              refine hTake 24 hs rfl (by kernel_rfl) (Wnt.none rfl) rfl rfl (by intro w hm; replace hm : Mm _ _ _ w := hm; exact r_val hs tab rfl) (hm.sub sub_) ?_; clear hs a; intro a hs
              refine hTake 25 hs rfl (by kernel_rfl) (Wnt.none rfl) rfl rfl (by intro w hm; replace hm : Mm _ _ _ w := hm; exact r_val hs tab rfl) (hm.sub sub_) ?_; clear hs a; intro a hs
              refine hTake 26 hs rfl (by kernel_rfl) (Wnt.none rfl) rfl rfl (by intro w hm; replace hm : Mm _ _ _ w := hm; exact r_val hs tab rfl) (hm.sub sub_) ?_; clear hs a; intro a hs
              refine hEach [27] (by kernel_rfl) (eDoN hs rfl (Wnt.none rfl) rfl ds_ ?_ eNil)
              clear hs hm
              rintro - w47 hm a hs
              refine ⟨hm.sub sub_, ?_⟩
              refine hDone (by kernel_rfl) ?_
              exact And.intro rfl ⟨sA2, sc2, scs2, dA2, dc2, dcs2, hr11, hr19, hs.sub (Has.all ⟨rfl, trivial⟩), hm.sub sub_⟩
            · skip
              clear hs hm a
              rintro _ w38 ⟨g115, rfl, -, hm⟩ a hs
              refine ⟨hm.sub sub_, ?_⟩
              refine hEach [11] (by kernel_rfl) (eDo hs rfl (Wnt.none rfl) rfl rfl (d_append (A := x.sA) (n := x.r.ss.length) (c := x.sc) (news := [.int .i64 v]) hs rfl rfl rfl rfl rfl tab rfl rfl rfl rfl rfl hm mem_ hxs rfl (hm.ro (n := 1) mem_ (cutF_ok rfl)) rfl (by show (x.r.ss.length + 1) * 8 ≤ _; omega) (by omega)) ?_ eNil)
              clear hs
              rintro _ w1 ⟨sA2, sc2, scs2, rfl, hr11, hM⟩ a hs
              replace hm := hM _ rep_
              clear hM
              refine ⟨hm.sub sub_, ?_⟩
              refine hEach [19] (by kernel_rfl) (eDo hs rfl (Wnt.none rfl) rfl rfl (d_append (A := x.dA) (n := x.ws.length) (c := x.dc) (news := [slv wA t.length wc]) hs rfl rfl rfl rfl rfl tab rfl rfl rfl rfl rfl hm mem_ hxd rfl (hm.ro (n := 1) mem_ (cutF_ok rfl)) rfl (by show (x.ws.length + 1) * 24 ≤ _; omega) (by omega)) ?_ eNil)
              clear hs
              rintro _ w1 ⟨dA2, dc2, dcs2, rfl, hr19, hM⟩ a hs
              replace hm := hM _ rep_
              clear hM
              refine ⟨hm.sub sub_, ?_⟩
              refine hTake 20 hs rfl (by kernel_rfl) (Wnt.none rfl) rfl rfl (by intro w hm; replace hm : Mm _ _ _ w := hm; exact r_val hs tab rfl) (hm.sub sub_) ?_; clear hs a; intro a hs
              refine hTake 21 hs rfl (by kernel_rfl) (Wnt.none rfl) rfl rfl (by intro w hm; replace hm : Mm _ _ _ w := hm; exact r_val hs tab rfl) (hm.sub sub_) ?_; clear hs a; intro a hs
              refine hTake 22 hs rfl (by kernel_rfl) (Wnt.none rfl) rfl rfl (by intro w hm; replace hm : Mm _ _ _ w := hm; exact r_val hs tab rfl) (hm.sub sub_) ?_; clear hs a; intro a hs
              refine hEach [23] (by kernel_rfl) (eDoN hs rfl (Wnt.none rfl) rfl ds_ ?_ eNil)
              clear hs hm
              rintro - w43 hm a hs
              refine ⟨hm.sub sub_, ?_⟩
              refine hTake 24 hs rfl (by kernel_rfl) (Wnt.none rfl) rfl rfl (by intro w hm; replace hm : Mm _ _ _ w := hm; exact r_val hs tab rfl) (hm.sub sub_) ?_; clear hs a; intro a hs
              refine hTake 25 hs rfl (by kernel_rfl) (Wnt.none rfl) rfl rfl (by intro w hm; replace hm : Mm _ _ _ w := hm; exact r_val hs tab rfl) (hm.sub sub_) ?_; clear hs a; intro a hs
              refine hTake 26 hs rfl (by kernel_rfl) (Wnt.none rfl) rfl rfl (by intro w hm; replace hm : Mm _ _ _ w := hm; exact r_val hs tab rfl) (hm.sub sub_) ?_; clear hs a; intro a hs
              refine hEach [27] (by kernel_rfl) (eDoN hs rfl (Wnt.none rfl) rfl ds_ ?_ eNil)
              clear hs hm
              rintro - w47 hm a hs
              refine ⟨hm.sub sub_, ?_⟩
              refine hDone (by kernel_rfl) ?_
              exact And.intro rfl ⟨sA2, sc2, scs2, dA2, dc2, dcs2, hr11, hr19, hs.sub (Has.all ⟨rfl, trivial⟩), hm.sub sub_⟩
          · skip
            clear hs hm a
            rintro _ w38 ⟨g115, rfl, -, hm⟩ a hs
            refine ⟨hm.sub sub_, ?_⟩
            refine hEach [6] (by kernel_rfl) (eDo hs rfl (Wnt.none rfl) rfl rfl (RunV.does kv_) ?_ eNil)
            clear hs a
            rintro _ _ ⟨rfl, rfl⟩ a hs
            refine ⟨hm.sub sub_, ?_⟩
            refine hEach [11] (by kernel_rfl) (eDo hs rfl (Wnt.none rfl) rfl rfl (d_append (A := x.sA) (n := x.r.ss.length) (c := x.sc) (news := [.int .i64 v]) hs rfl rfl rfl rfl rfl tab rfl rfl rfl rfl rfl hm mem_ hxs rfl (hm.ro (n := 1) mem_ (cutF_ok rfl)) rfl (by show (x.r.ss.length + 1) * 8 ≤ _; omega) (by omega)) ?_ eNil)
            clear hs
            rintro _ w1 ⟨sA2, sc2, scs2, rfl, hr11, hM⟩ a hs
            replace hm := hM _ rep_
            clear hM
            refine ⟨hm.sub sub_, ?_⟩
            refine hEach [19] (by kernel_rfl) (eDo hs rfl (Wnt.none rfl) rfl rfl (d_append (A := x.dA) (n := x.ws.length) (c := x.dc) (news := [slv wA t.length wc]) hs rfl rfl rfl rfl rfl tab rfl rfl rfl rfl rfl hm mem_ hxd rfl (hm.ro (n := 1) mem_ (cutF_ok rfl)) rfl (by show (x.ws.length + 1) * 24 ≤ _; omega) (by omega)) ?_ eNil)
            clear hs
            rintro _ w1 ⟨dA2, dc2, dcs2, rfl, hr19, hM⟩ a hs
            replace hm := hM _ rep_
            clear hM
            refine ⟨hm.sub sub_, ?_⟩
            refine hTake 20 hs rfl (by kernel_rfl) (Wnt.none rfl) rfl rfl (by intro w hm; replace hm : Mm _ _ _ w := hm; exact r_val hs tab rfl) (hm.sub sub_) ?_; clear hs a; intro a hs
            refine hTake 21 hs rfl (by kernel_rfl) (Wnt.none rfl) rfl rfl (by intro w hm; replace hm : Mm _ _ _ w := hm; exact r_val hs tab rfl) (hm.sub sub_) ?_; clear hs a; intro a hs
            refine hTake 22 hs rfl (by kernel_rfl) (Wnt.none rfl) rfl rfl (by intro w hm; replace hm : Mm _ _ _ w := hm; exact r_val hs tab rfl) (hm.sub sub_) ?_; clear hs a; intro a hs
            refine hEach [23] (by kernel_rfl) (eDoN hs rfl (Wnt.none rfl) rfl ds_ ?_ eNil)
            clear hs hm
            rintro - w43 hm a hs
            refine ⟨hm.sub sub_, ?_⟩
            refine hTake 24 hs rfl (by kernel_rfl) (Wnt.none rfl) rfl rfl (by intro w hm; replace hm : Mm _ _ _ w := hm; exact r_val hs tab rfl) (hm.sub sub_) ?_; clear hs a; intro a hs
            refine hTake 25 hs rfl (by kernel_rfl) (Wnt.none rfl) rfl rfl (by intro w hm; replace hm : Mm _ _ _ w := hm; exact r_val hs tab rfl) (hm.sub sub_) ?_; clear hs a; intro a hs
            refine hTake 26 hs rfl (by kernel_rfl) (Wnt.none rfl) rfl rfl (by intro w hm; replace hm : Mm _ _ _ w := hm; exact r_val hs tab rfl) (hm.sub sub_) ?_; clear hs a; intro a hs
            refine hEach [27] (by kernel_rfl) (eDoN hs rfl (Wnt.none rfl) rfl ds_ ?_ eNil)
            clear hs hm
            rintro - w47 hm a hs
            refine ⟨hm.sub sub_, ?_⟩
            refine hDone (by kernel_rfl) ?_
            exact And.intro rfl ⟨sA2, sc2, scs2, dA2, dc2, dcs2, hr11, hr19, hs.sub (Has.all ⟨rfl, trivial⟩), hm.sub sub_⟩
        · skip
          clear hs hm a
          rintro _ w38 ⟨g115, rfl, -, hm⟩ a hs
          refine ⟨hm.sub sub_, ?_⟩
          refine hEach [6, 16] (by kernel_rfl) (eDo hs rfl (Wnt.none rfl) rfl rfl (RunV.does kv_) ?_ (eDo hs rfl (Wnt.none rfl) rfl rfl (RunV.does kv_) ?_ eNil))
          · skip
            clear hs a
            rintro _ _ ⟨rfl, rfl⟩ a hs
            refine ⟨hm.sub sub_, ?_⟩
            refine hEach [11, 16] (by kernel_rfl) (eDo hs rfl (Wnt.none rfl) rfl rfl (d_append (A := x.sA) (n := x.r.ss.length) (c := x.sc) (news := [.int .i64 v]) hs rfl rfl rfl rfl rfl tab rfl rfl rfl rfl rfl hm mem_ hxs rfl (hm.ro (n := 1) mem_ (cutF_ok rfl)) rfl (by show (x.r.ss.length + 1) * 8 ≤ _; omega) (by omega)) ?_ (eDo hs rfl (Wnt.none rfl) rfl rfl (RunV.does kv_) ?_ eNil))
            · skip
              clear hs
              rintro _ w1 ⟨sA2, sc2, scs2, rfl, hr11, hM⟩ a hs
              replace hm := hM _ rep_
              clear hM
              refine ⟨hm.sub sub_, ?_⟩
              refine hEach [16] (by kernel_rfl) (eDo hs rfl (Wnt.none rfl) rfl rfl (RunV.does kv_) ?_ eNil)
              clear hs a
              rintro _ _ ⟨rfl, rfl⟩ a hs
              refine ⟨hm.sub sub_, ?_⟩
              refine hEach [19] (by kernel_rfl) (eDo hs rfl (Wnt.none rfl) rfl rfl (d_append (A := x.dA) (n := x.ws.length) (c := x.dc) (news := [slv wA t.length wc]) hs rfl rfl rfl rfl rfl tab rfl rfl rfl rfl rfl hm mem_ hxd rfl (hm.ro (n := 1) mem_ (cutF_ok rfl)) rfl (by show (x.ws.length + 1) * 24 ≤ _; omega) (by omega)) ?_ eNil)
              clear hs
              rintro _ w1 ⟨dA2, dc2, dcs2, rfl, hr19, hM⟩ a hs
              replace hm := hM _ rep_
              clear hM
              refine ⟨hm.sub sub_, ?_⟩
              refine hTake 20 hs rfl (by kernel_rfl) (Wnt.none rfl) rfl rfl (by intro w hm; replace hm : Mm _ _ _ w := hm; exact r_val hs tab rfl) (hm.sub sub_) ?_; clear hs a; intro a hs
              refine hTake 21 hs rfl (by kernel_rfl) (Wnt.none rfl) rfl rfl (by intro w hm; replace hm : Mm _ _ _ w := hm; exact r_val hs tab rfl) (hm.sub sub_) ?_; clear hs a; intro a hs
              refine hTake 22 hs rfl (by kernel_rfl) (Wnt.none rfl) rfl rfl (by intro w hm; replace hm : Mm _ _ _ w := hm; exact r_val hs tab rfl) (hm.sub sub_) ?_; clear hs a; intro a hs
              refine hEach [23] (by kernel_rfl) (eDoN hs rfl (Wnt.none rfl) rfl ds_ ?_ eNil)
              clear hs hm
              rintro - w43 hm a hs
              refine ⟨hm.sub sub_, ?_⟩
              refine hTake 24 hs rfl (by kernel_rfl) (Wnt.none rfl) rfl rfl (by intro w hm; replace hm : Mm _ _ _ w := hm; exact r_val hs tab rfl) (hm.sub sub_) ?_; clear hs a; intro a hs
              refine hTake 25 hs rfl (by kernel_rfl) (Wnt.none rfl) rfl rfl (by intro w hm; replace hm : Mm _ _ _ w := hm; exact r_val hs tab rfl) (hm.sub sub_) ?_; clear hs a; intro a hs
              refine hTake 26 hs rfl (by kernel_rfl) (Wnt.none rfl) rfl rfl (by intro w hm; replace hm : Mm _ _ _ w := hm; exact r_val hs tab rfl) (hm.sub sub_) ?_; clear hs a; intro a hs
              refine hEach [27] (by kernel_rfl) (eDoN hs rfl (Wnt.none rfl) rfl ds_ ?_ eNil)
              clear hs hm
              rintro - w47 hm a hs
              refine ⟨hm.sub sub_, ?_⟩
              refine hDone (by kernel_rfl) ?_
              exact And.intro rfl ⟨sA2, sc2, scs2, dA2, dc2, dcs2, hr11, hr19, hs.sub (Has.all ⟨rfl, trivial⟩), hm.sub sub_⟩
            · skip
              clear hs a
              rintro _ _ ⟨rfl, rfl⟩ a hs
              refine ⟨hm.sub sub_, ?_⟩
              refine hEach [11] (by kernel_rfl) (eDo hs rfl (Wnt.none rfl) rfl rfl (d_append (A := x.sA) (n := x.r.ss.length) (c := x.sc) (news := [.int .i64 v]) hs rfl rfl rfl rfl rfl tab rfl rfl rfl rfl rfl hm mem_ hxs rfl (hm.ro (n := 1) mem_ (cutF_ok rfl)) rfl (by show (x.r.ss.length + 1) * 8 ≤ _; omega) (by omega)) ?_ eNil)
              clear hs
              rintro _ w1 ⟨sA2, sc2, scs2, rfl, hr11, hM⟩ a hs
              replace hm := hM _ rep_
              clear hM
              refine ⟨hm.sub sub_, ?_⟩
              refine hEach [19] (by kernel_rfl) (eDo hs rfl (Wnt.none rfl) rfl rfl (d_append (A := x.dA) (n := x.ws.length) (c := x.dc) (news := [slv wA t.length wc]) hs rfl rfl rfl rfl rfl tab rfl rfl rfl rfl rfl hm mem_ hxd rfl (hm.ro (n := 1) mem_ (cutF_ok rfl)) rfl (by show (x.ws.length + 1) * 24 ≤ _; omega) (by omega)) ?_ eNil)
              clear hs
              rintro _ w1 ⟨dA2, dc2, dcs2, rfl, hr19, hM⟩ a hs
              replace hm := hM _ rep_
              clear hM
              refine ⟨hm.sub sub_, ?_⟩
              refine hTake 20 hs rfl (by kernel_rfl) (Wnt.none rfl) rfl rfl (by intro w hm; replace hm : Mm _ _ _ w := hm; exact r_val hs tab rfl) (hm.sub sub_) ?_; clear hs a; intro a hs
              refine hTake 21 hs rfl (by kernel_rfl) (Wnt.none rfl) rfl rfl (by intro w hm; replace hm : Mm _ _ _ w := hm; exact r_val hs tab rfl) (hm.sub sub_) ?_; clear hs a; intro a hs
              refine hTake 22 hs rfl (by kernel_rfl) (Wnt.none rfl) rfl rfl (by intro w hm; replace hm : Mm _ _ _ w := hm; exact r_val hs tab rfl) (hm.sub sub_) ?_; clear hs a; intro a hs
              refine hEach [23] (by kernel_rfl) (eDoN hs rfl (Wnt.none rfl) rfl ds_ ?_ eNil)
              clear hs hm
              rintro - w43 hm a hs
              refine ⟨hm.sub sub_, ?_⟩
              refine hTake 24 hs rfl (by kernel_rfl) (Wnt.none rfl) rfl rfl (by intro w hm; replace hm : Mm _ _ _ w := hm; exact r_val hs tab rfl) (hm.sub sub_) ?_; clear hs a; intro a hs
              refine hTake 25 hs rfl (by kernel_rfl) (Wnt.none rfl) rfl rfl (by intro w hm; replace hm : Mm _ _ _ w := hm; exact r_val hs tab rfl) (hm.sub sub_) ?_; clear hs a; intro a hs
              refine hTake 26 hs rfl (by kernel_rfl) (Wnt.none rfl) rfl rfl (by intro w hm; replace hm : Mm _ _ _ w := hm; exact r_val hs tab rfl) (hm.sub sub_) ?_; clear hs a; intro a hs
              refine hEach [27] (by kernel_rfl) (eDoN hs rfl (Wnt.none rfl) rfl ds_ ?_ eNil)
              clear hs hm
              rintro - w47 hm a hs
              refine ⟨hm.sub sub_, ?_⟩
              refine hDone (by kernel_rfl) ?_
              exact And.intro rfl ⟨sA2, sc2, scs2, dA2, dc2, dcs2, hr11, hr19, hs.sub (Has.all ⟨rfl, trivial⟩), hm.sub sub_⟩
          · skip
            clear hs a
            rintro _ _ ⟨rfl, rfl⟩ a hs
            refine ⟨hm.sub sub_, ?_⟩
            refine hEach [6] (by kernel_rfl) (eDo hs rfl (Wnt.none rfl) rfl rfl (RunV.does kv_) ?_ eNil)
            clear hs a
            rintro _ _ ⟨rfl, rfl⟩ a hs
            refine ⟨hm.sub sub_, ?_⟩
            refine hEach [11] (by kernel_rfl) (eDo hs rfl (Wnt.none rfl) rfl rfl (d_append (A := x.sA) (n := x.r.ss.length) (c := x.sc) (news := [.int .i64 v]) hs rfl rfl rfl rfl rfl tab rfl rfl rfl rfl rfl hm mem_ hxs rfl (hm.ro (n := 1) mem_ (cutF_ok rfl)) rfl (by show (x.r.ss.length + 1) * 8 ≤ _; omega) (by omega)) ?_ eNil)
            clear hs
            rintro _ w1 ⟨sA2, sc2, scs2, rfl, hr11, hM⟩ a hs
            replace hm := hM _ rep_
            clear hM
            refine ⟨hm.sub sub_, ?_⟩
            refine hEach [19] (by kernel_rfl) (eDo hs rfl (Wnt.none rfl) rfl rfl (d_append (A := x.dA) (n := x.ws.length) (c := x.dc) (news := [slv wA t.length wc]) hs rfl rfl rfl rfl rfl tab rfl rfl rfl rfl rfl hm mem_ hxd rfl (hm.ro (n := 1) mem_ (cutF_ok rfl)) rfl (by show (x.ws.length + 1) * 24 ≤ _; omega) (by omega)) ?_ eNil)
            clear hs
            rintro _ w1 ⟨dA2, dc2, dcs2, rfl, hr19, hM⟩ a hs
            replace hm := hM _ rep_
            clear hM
            refine ⟨hm.sub sub_, ?_⟩
            refine hTake 20 hs rfl (by kernel_rfl) (Wnt.none rfl) rfl rfl (by intro w hm; replace hm : Mm _ _ _ w := hm; exact r_val hs tab rfl) (hm.sub sub_) ?_; clear hs a; intro a hs
            refine hTake 21 hs rfl (by kernel_rfl) (Wnt.none rfl) rfl rfl (by intro w hm; replace hm : Mm _ _ _ w := hm; exact r_val hs tab rfl) (hm.sub sub_) ?_; clear hs a; intro a hs
            refine hTake 22 hs rfl (by kernel_rfl) (Wnt.none rfl) rfl rfl (by intro w hm; replace hm : Mm _ _ _ w := hm; exact r_val hs tab rfl) (hm.sub sub_) ?_; clear hs a; intro a hs
            refine hEach [23] (by kernel_rfl) (eDoN hs rfl (Wnt.none rfl) rfl ds_ ?_ eNil)
            clear hs hm
            rintro - w43 hm a hs
            refine ⟨hm.sub sub_, ?_⟩
            refine hTake 24 hs rfl (by kernel_rfl) (Wnt.none rfl) rfl rfl (by intro w hm; replace hm : Mm _ _ _ w := hm; exact r_val hs tab rfl) (hm.sub sub_) ?_; clear hs a; intro a hs
            refine hTake 25 hs rfl (by kernel_rfl) (Wnt.none rfl) rfl rfl (by intro w hm; replace hm : Mm _ _ _ w := hm; exact r_val hs tab rfl) (hm.sub sub_) ?_; clear hs a; intro a hs
            refine hTake 26 hs rfl (by kernel_rfl) (Wnt.none rfl) rfl rfl (by intro w hm; replace hm : Mm _ _ _ w := hm; exact r_val hs tab rfl) (hm.sub sub_) ?_; clear hs a; intro a hs
            refine hEach [27] (by kernel_rfl) (eDoN hs rfl (Wnt.none rfl) rfl ds_ ?_ eNil)
            clear hs hm
            rintro - w47 hm a hs
            refine ⟨hm.sub sub_, ?_⟩
            refine hDone (by kernel_rfl) ?_
            exact And.intro rfl ⟨sA2, sc2, scs2, dA2, dc2, dcs2, hr11, hr19, hs.sub (Has.all ⟨rfl, trivial⟩), hm.sub sub_⟩
      · skip
        clear hs a
        rintro _ _ ⟨rfl, rfl⟩ a hs
        refine ⟨hm.sub sub_, ?_⟩
        refine hEach [6, 10, 18] (by kernel_rfl) (eDo hs rfl (Wnt.none rfl) rfl rfl (RunV.does kv_) ?_ (eDo hs rfl (Wnt.none rfl) rfl rfl (by exact d_buildSlice hs rfl tab rfl rfl rfl rfl rfl rfl rfl rfl rfl hm) ?_ (eDo hs rfl (Wnt.none rfl) rfl rfl (by exact d_buildSlice hs rfl tab rfl rfl rfl rfl rfl rfl rfl rfl rfl hm) ?_ eNil)))
        · skip
          clear hs a
          rintro _ _ ⟨rfl, rfl⟩ a hs
          refine ⟨hm.sub sub_, ?_⟩
          refine hEach [10, 18] (by kernel_rfl) (eDo hs rfl (Wnt.none rfl) rfl rfl (by exact d_buildSlice hs rfl tab rfl rfl rfl rfl rfl rfl rfl rfl rfl hm) ?_ (eDo hs rfl (Wnt.none rfl) rfl rfl (by exact d_buildSlice hs rfl tab rfl rfl rfl rfl rfl rfl rfl rfl rfl hm) ?_ eNil))
          · skip
            clear hs hm a
            rintro _ w30 ⟨g107, rfl, -, hm⟩ a hs
            refine ⟨hm.sub sub_, ?_⟩
            refine hEach [11, 18] (by kernel_rfl) (eDo hs rfl (Wnt.none rfl) rfl rfl (d_append (A := x.sA) (n := x.r.ss.length) (c := x.sc) (news := [.int .i64 v]) hs rfl rfl rfl rfl rfl tab rfl rfl rfl rfl rfl hm mem_ hxs rfl (hm.ro (n := 1) mem_ (cutF_ok rfl)) rfl (by show (x.r.ss.length + 1) * 8 ≤ _; omega) (by omega)) ?_ (eDo hs rfl (Wnt.none rfl) rfl rfl (by exact d_buildSlice hs rfl tab rfl rfl rfl rfl rfl rfl rfl rfl rfl hm) ?_ eNil))
            · skip
              clear hs
              rintro _ w1 ⟨sA2, sc2, scs2, rfl, hr11, hM⟩ a hs
              replace hm := hM _ rep_
              clear hM
              refine ⟨hm.sub sub_, ?_⟩
              refine hEach [18] (by kernel_rfl) (eDo hs rfl (Wnt.none rfl) rfl rfl (by exact d_buildSlice hs rfl tab rfl rfl rfl rfl rfl rfl rfl rfl rfl hm) ?_ eNil)
              clear hs hm a
              rintro _ w38 ⟨g115, rfl, -, hm⟩ a hs
              refine ⟨hm.sub sub_, ?_⟩
              refine hEach [19] (by kernel_rfl) (eDo hs rfl (Wnt.none rfl) rfl rfl (d_append (A := x.dA) (n := x.ws.length) (c := x.dc) (news := [slv wA t.length wc]) hs rfl rfl rfl rfl rfl tab rfl rfl rfl rfl rfl hm mem_ hxd rfl (hm.ro (n := 1) mem_ (cutF_ok rfl)) rfl (by show (x.ws.length + 1) * 24 ≤ _; omega) (by omega)) ?_ eNil)
              clear hs
              rintro _ w1 ⟨dA2, dc2, dcs2, rfl, hr19, hM⟩ a hs
              replace hm := hM _ rep_
              clear hM
              refine ⟨hm.sub sub_, ?_⟩
              refine hTake 20 hs rfl (by kernel_rfl) (Wnt.none rfl) rfl rfl (by intro w hm; replace hm : Mm _ _ _ w := hm; exact r_val hs tab rfl) (hm.sub sub_) ?_; clear hs a; intro a hs
              refine hTake 21 hs rfl (by kernel_rfl) (Wnt.none rfl) rfl rfl (by intro w hm; replace hm : Mm _ _ _ w := hm; exact r_val hs tab rfl) (hm.sub sub_) ?_; clear hs a; intro a hs
              refine hTake 22 hs rfl (by kernel_rfl) (Wnt.none rfl) rfl rfl (by intro w hm; replace hm : Mm _ _ _ w := hm; exact r_val hs tab rfl) (hm.sub sub_) ?_; clear hs a; intro a hs
              refine hEach [23] (by kernel_rfl) (eDoN hs rfl (Wnt.none rfl) rfl ds_ ?_ eNil)
              clear hs hm
              rintro - w43 hm a hs
              refine ⟨hm.sub sub_, ?_⟩
              refine hTake 24 hs rfl (by kernel_rfl) (Wnt.none rfl) rfl rfl (by intro w hm; replace hm : Mm _ _ _ w := hm; exact r_val hs tab rfl) (hm.sub sub_) ?_; clear hs a; intro a hs
              refine hTake 25 hs rfl (by kernel_rfl) (Wnt.none rfl) rfl rfl (by intro w hm; replace hm : Mm _ _ _ w := hm; exact r_val hs tab rfl) (hm.sub sub_) ?_; clear hs a; intro a hs
              refine hTake 26 hs rfl (by kernel_rfl) (Wnt.none rfl) rfl rfl (by intro w hm; replace hm : Mm _ _ _ w := hm; exact r_val hs tab rfl) (hm.sub sub_) ?_; clear hs a; intro a hs
              refine hEach [27] (by kernel_rfl) (eDoN hs rfl (Wnt.none rfl) rfl ds_ ?_ eNil)
              clear hs hm
              rintro - w47 hm a hs
              refine ⟨hm.sub sub_, ?_⟩
              refine hDone (by kernel_rfl) ?_
              exact And.intro rfl ⟨sA2, sc2, scs2, dA2, dc2, dcs2, hr11, hr19, hs.sub (Has.all ⟨rfl, trivial⟩), hm.sub sub_⟩
            · skip
              clear hs hm a
              rintro _ w38 ⟨g115, rfl, -, hm⟩ a hs
              refine ⟨hm.sub sub_, ?_⟩
              refine hEach [11] (by kernel_rfl) (eDo hs rfl (Wnt.none rfl) rfl rfl (d_append (A := x.sA) (n := x.r.ss.length) (c := x.sc) (news := [.int .i64 v]) hs rfl rfl rfl rfl rfl tab rfl rfl rfl rfl rfl hm mem_ hxs rfl (hm.ro (n := 1) mem_ (cutF_ok rfl)) rfl (by show (x.r.ss.length + 1) * 8 ≤ _; omega) (by omega)) ?_ eNil)
              clear hs
              rintro _ w1 ⟨sA2, sc2, scs2, rfl, hr11, hM⟩ a hs
              replace hm := hM _ rep_
              clear hM
              refine ⟨hm.sub sub_, ?_⟩
              refine hEach [19] (by kernel_rfl) (eDo hs rfl (Wnt.none rfl) rfl rfl (d_append (A := x.dA) (n := x.ws.length) (c := x.dc) (news := [slv wA t.length wc]) hs rfl rfl rfl rfl rfl tab rfl rfl rfl rfl rfl hm mem_ hxd rfl (hm.ro (n := 1) mem_ (cutF_ok rfl)) rfl (by show (x.ws.length + 1) * 24 ≤ _; omega) (by omega)) ?_ eNil)
              clear hs
              rintro _ w1 ⟨dA2, dc2, dcs2, rfl, hr19, hM⟩ a hs
              replace hm := hM _ rep_
              clear hM
              refine ⟨hm.sub sub_, ?_⟩
              refine hTake 20 hs rfl (by kernel_rfl) (Wnt.none rfl) rfl rfl (by intro w hm; replace hm : Mm _ _ _ w := hm; exact r_val hs tab rfl) (hm.sub sub_) ?_; clear hs a; intro a hs
              refine hTake 21 hs rfl (by kernel_rfl) (Wnt.none rfl) rfl rfl (by intro w hm; replace hm : Mm _ _ _ w := hm; exact r_val hs tab rfl) (hm.sub sub_) ?_; clear hs a; intro a hs
              refine hTake 22 hs rfl (by kernel_rfl) (Wnt.none rfl) rfl rfl (by intro w hm; replace hm : Mm _ _ _ w := hm; exact r_val hs tab rfl) (hm.sub sub_) ?_; clear hs a; intro a hs
              refine hEach [23] (by kernel_rfl) (eDoN hs rfl (Wnt.none rfl) rfl ds_ ?_ eNil)
              clear hs hm
              rintro - w43 hm a hs
              refine ⟨hm.sub sub_, ?_⟩
              refine hTake 24 hs rfl (by kernel_rfl) (Wnt.none rfl) rfl rfl (by intro w hm; replace hm : Mm _ _ _ w := hm; exact r_val hs tab rfl) (hm.sub sub_) ?_; clear hs a; intro a hs
              refine hTake 25 hs rfl (by kernel_rfl) (Wnt.none rfl) rfl rfl (by intro w hm; replace hm : Mm _ _ _ w := hm; exact r_val hs tab rfl) (hm.sub sub_) ?_; clear hs a; intro a hs
              refine hTake 26 hs rfl (by kernel_rfl) (Wnt.none rfl) rfl rfl (by intro w hm; replace hm : Mm _ _ _ w := hm; exact r_val hs tab rfl) (hm.sub sub_) ?_; clear hs a; intro a hs
              refine hEach [27] (by kernel_rfl) (eDoN hs rfl (Wnt.none rfl) rfl ds_ ?_ eNil)
              clear hs hm
              rintro - w47 hm a hs
              refine ⟨hm.sub sub_, ?_⟩
              refine hDone (by kernel_rfl) ?_
              exact And.intro rfl ⟨sA2, sc2, scs2, dA2, dc2, dcs2, hr11, hr19, hs.sub (Has.all ⟨rfl, trivial⟩), hm.sub sub_⟩
          · skip
            clear hs hm a
            rintro _ w38 ⟨g115, rfl, -, hm⟩ a hs
            refine ⟨hm.sub sub_, ?_⟩
            refine hEach [10] (by kernel_rfl) (eDo hs rfl (Wnt.none rfl) rfl rfl (by exact d_buildSlice hs rfl tab rfl rfl rfl rfl rfl rfl rfl rfl rfl hm) ?_ eNil)
            clear hs hm a
            rintro _ w30 ⟨g107, rfl, -, hm⟩ a hs
            refine ⟨hm.sub sub_, ?_⟩
            refine hEach [11] (by kernel_rfl) (eDo hs rfl (Wnt.none rfl) rfl rfl (d_append (A := x.sA) (n := x.r.ss.length) (c := x.sc) (news := [.int .i64 v]) hs rfl rfl rfl rfl rfl tab rfl rfl rfl rfl rfl hm mem_ hxs rfl (hm.ro (n := 1) mem_ (cutF_ok rfl)) rfl (by show (x.r.ss.length + 1) * 8 ≤ _; omega) (by omega)) ?_ eNil)
            clear hs
            rintro _ w1 ⟨sA2, sc2, scs2, rfl, hr11, hM⟩ a hs
            replace hm := hM _ rep_
            clear hM
            refine ⟨hm.sub sub_, ?_⟩
            refine hEach [19] (by kernel_rfl) (eDo hs rfl (Wnt.none rfl) rfl rfl (d_append (A := x.dA) (n := x.ws.length) (c := x.dc) (news := [slv wA t.length wc]) hs rfl rfl rfl rfl rfl tab rfl rfl rfl rfl rfl hm mem_ hxd rfl (hm.ro (n := 1) mem_ (cutF_ok rfl)) rfl (by show (x.ws.length + 1) * 24 ≤ _; omega) (by omega)) ?_ eNil)
            clear hs
            rintro _ w1 ⟨dA2, dc2, dcs2, rfl, hr19, hM⟩ a hs
            replace hm := hM _ rep_
            clear hM
            refine ⟨hm.sub sub_, ?_⟩
            refine hTake 20 hs rfl (by kernel_rfl) (Wnt.none rfl) rfl rfl (by intro w hm; replace hm : Mm _ _ _ w := hm; exact r_val hs tab rfl) (hm.sub sub_) ?_; clear hs a; intro a hs
            refine hTake 21 hs rfl (by kernel_rfl) (Wnt.none rfl) rfl rfl (by intro w hm; replace hm : Mm _ _ _ w := hm; exact r_val hs tab rfl) (hm.sub sub_) ?_; clear hs a; intro a hs
            refine hTake 22 hs rfl (by kernel_rfl) (Wnt.none rfl) rfl rfl (by intro w hm; replace hm : Mm _ _ _ w := hm; exact r_val hs tab rfl) (hm.sub sub_) ?_; clear hs a; intro a hs
            refine hEach [23] (by kernel_rfl) (eDoN hs rfl (Wnt.none rfl) rfl ds_ ?_ eNil)
            clear hs hm
            rintro - w43 hm a hs
            refine ⟨hm.sub sub_, ?_⟩
            refine hTake 24 hs rfl (by kernel_rfl) (Wnt.none rfl) rfl rfl (by intro w hm; replace hm : Mm _ _ _ w := hm; exact r_val hs tab rfl) (hm.sub sub_) ?_; clear hs a; intro a hs
            refine hTake 25 hs rfl (by kernel_rfl) (Wnt.none rfl) rfl rfl (by intro w hm; replace hm : Mm _ _ _ w := hm; exact r_val hs tab rfl) (hm.sub sub_) ?_; clear hs a; intro a hs
            refine hTake 26 hs rfl (by kernel_rfl) (Wnt.none rfl) rfl rfl (by intro w hm; replace hm : Mm _ _ _ w := hm; exact r_val hs tab rfl) (hm.sub sub_) ?_; clear hs a; intro a hs
            refine hEach [27] (by kernel_rfl) (eDoN hs rfl (Wnt.none rfl) rfl ds_ ?_ eNil)
            clear hs hm
            rintro - w47 hm a hs
            refine ⟨hm.sub sub_, ?_⟩
            refine hDone (by kernel_rfl) ?_
            exact And.intro rfl ⟨sA2, sc2, scs2, dA2, dc2, dcs2, hr11, hr19, hs.sub (Has.all ⟨rfl, trivial⟩), hm.sub sub_⟩
        · skip
          clear hs hm a
          rintro _ w30 ⟨g107, rfl, -, hm⟩ a hs
          refine ⟨hm.sub sub_, ?_⟩
          refine hEach [6, 18] (by kernel_rfl) (eDo hs rfl (Wnt.none rfl) rfl rfl (RunV.does kv_) ?_ (eDo hs rfl (Wnt.none rfl) rfl rfl (by exact d_buildSlice hs rfl tab rfl rfl rfl rfl rfl rfl rfl rfl rfl hm) ?_ eNil))
          · skip
            clear hs a
            rintro _ _ ⟨rfl, rfl⟩ a hs
            refine ⟨hm.sub sub_, ?_⟩
            refine hEach [11, 18] (by kernel_rfl) (eDo hs rfl (Wnt.none rfl) rfl rfl (d_append (A := x.sA) (n := x.r.ss.length) (c := x.sc) (news := [.int .i64 v]) hs rfl rfl rfl rfl rfl tab rfl rfl rfl rfl rfl hm mem_ hxs rfl (hm.ro (n := 1) mem_ (cutF_ok rfl)) rfl (by show (x.r.ss.length + 1) * 8 ≤ _; omega) (by omega)) ?_ (eDo hs rfl (Wnt.none rfl) rfl rfl (by exact d_buildSlice hs rfl tab rfl rfl rfl rfl rfl rfl rfl rfl rfl hm) ?_ eNil))
            · skip
              clear hs
              rintro _ w1 ⟨sA2, sc2, scs2, rfl, hr11, hM⟩ a hs
              replace hm := hM _ rep_
              clear hM
              refine ⟨hm.sub sub_, ?_⟩
              refine hEach [18] (by kernel_rfl) (eDo hs rfl (Wnt.none rfl) rfl rfl (by exact d_buildSlice hs rfl tab rfl rfl rfl rfl rfl rfl rfl rfl rfl hm) ?_ eNil)
              clear hs hm a
              rintro _ w38 ⟨g115, rfl, -, hm⟩ a hs
              refine ⟨hm.sub sub_, ?_⟩
              refine hEach [19] (by kernel_rfl) (eDo hs rfl (Wnt.none rfl) rfl rfl (d_append (A := x.dA) (n := x.ws.length) (c := x.dc) (news := [slv wA t.length wc]) hs rfl rfl rfl rfl rfl tab rfl rfl rfl rfl rfl hm mem_ hxd rfl (hm.ro (n := 1) mem_ (cutF_ok rfl)) rfl (by show (x.ws.length + 1) * 24 ≤ _; omega) (by omega)) ?_ eNil)
              clear hs
              rintro _ w1 ⟨dA2, dc2, dcs2, rfl, hr19, hM⟩ a hs
              replace hm := hM _ rep_
              clear hM
              refine ⟨hm.sub sub_, ?_⟩
              refine hTake 20 hs rfl (by kernel_rfl) (Wnt.none rfl) rfl rfl (by intro w hm; replace hm : Mm _ _ _ w := hm; exact r_val hs tab rfl) (hm.sub sub_) ?_; clear hs a; intro a hs
              refine hTake 21 hs rfl (by kernel_rfl) (Wnt.none rfl) rfl rfl (by intro w hm; replace hm : Mm _ _ _ w := hm; exact r_val hs tab rfl) (hm.sub sub_) ?_; clear hs a; intro a hs
              refine hTake 22 hs rfl (by kernel_rfl) (Wnt.none rfl) rfl rfl (by intro w hm; replace hm : Mm _ _ _ w := hm; exact r_val hs tab rfl) (hm.sub sub_) ?_; clear hs a; intro a hs
              refine hEach [23] (by kernel_rfl) (eDoN hs rfl (Wnt.none rfl) rfl ds_ ?_ eNil)
              clear hs hm
              rintro - w43 hm a hs
              refine ⟨hm.sub sub_, ?_⟩
              refine hTake 24 hs rfl (by kernel_rfl) (Wnt.none rfl) rfl rfl (by intro w hm; replace hm : Mm _ _ _ w := hm; exact r_val hs tab rfl) (hm.sub sub_) ?_; clear hs a; intro a hs
              refine hTake 25 hs rfl (by kernel_rfl) (Wnt.none rfl) rfl rfl (by intro w hm; replace hm : Mm _ _ _ w := hm; exact r_val hs tab rfl) (hm.sub sub_) ?_; clear hs a; intro a hs
              refine hTake 26 hs rfl (by kernel_rfl) (Wnt.none rfl) rfl rfl (by intro w hm; replace hm : Mm _ _ _ w := hm; exact r_val hs tab rfl) (hm.sub sub_) ?_; clear hs a; intro a hs
              refine hEach [27] (by kernel_rfl) (eDoN hs rfl (Wnt.none rfl) rfl ds_ ?_ eNil)
              clear hs hm
              rintro - w47 hm a hs
              refine ⟨hm.sub sub_, ?_⟩
              refine hDone (by kernel_rfl) ?_
              exact And.intro rfl ⟨sA2, sc2, scs2, dA2, dc2, dcs2, hr11, hr19, hs.sub (Has.all ⟨rfl, trivial⟩), hm.sub sub_⟩
            · skip
              clear hs hm a
              rintro _ w38 ⟨g115, rfl, -, hm⟩ a hs
              refine ⟨hm.sub sub_, ?_⟩
              refine hEach [11] (by kernel_rfl) (eDo hs rfl (Wnt.none rfl) rfl rfl (d_append (A := x.sA) (n := x.r.ss.length) (c := x.sc) (news := [.int .i64 v]) hs rfl rfl rfl rfl rfl tab rfl rfl rfl rfl rfl hm mem_ hxs rfl (hm.ro (n := 1) mem_ (cutF_ok rfl)) rfl (by show (x.r.ss.length + 1) * 8 ≤ _; omega) (by omega)) ?_ eNil)
              clear hs
              rintro _ w1 ⟨sA2, sc2, scs2, rfl, hr11, hM⟩ a hs
              replace hm := hM _ rep_
              clear hM
              refine ⟨hm.sub sub_, ?_⟩
              refine hEach [19] (by kernel_rfl) (eDo hs rfl (Wnt.none rfl) rfl rfl (d_append (A := x.dA) (n := x.ws.length) (c := x.dc) (news := [slv wA t.length wc]) hs rfl rfl rfl rfl rfl tab rfl rfl rfl rfl rfl hm mem_ hxd rfl (hm.ro (n := 1) mem_ (cutF_ok rfl)) rfl (by show (x.ws.length + 1) * 24 ≤ _; omega) (by omega)) ?_ eNil)
              clear hs
              rintro _ w1 ⟨dA2, dc2, dcs2, rfl, hr19, hM⟩ a hs
              replace hm := hM _ rep_
              clear hM
              refine ⟨hm.sub sub_, ?_⟩
              refine hTake 20 hs rfl (by kernel_rfl) (Wnt.none rfl) rfl rfl (by intro w hm; replace hm : Mm _ _ _ w := hm; exact r_val hs tab rfl) (hm.sub sub_) ?_; clear hs a; intro a hs
              refine hTake 21 hs rfl (by kernel_rfl) (Wnt.none rfl) rfl rfl (by intro w hm; replace hm : Mm _ _ _ w := hm; exact r_val hs tab rfl) (hm.sub sub_) ?_; clear hs a; intro a hs
              refine hTake 22 hs rfl (by kernel_rfl) (Wnt.none rfl) rfl rfl (by intro w hm; replace hm : Mm _ _ _ w := hm; exact r_val hs tab rfl) (hm.sub sub_) ?_; clear hs a; intro a hs
              refine hEach [23] (by kernel_rfl) (eDoN hs rfl (Wnt.none rfl) rfl ds_ ?_ eNil)
              clear hs hm
              rintro - w43 hm a hs
              refine ⟨hm.sub sub_, ?_⟩
              refine hTake 24 hs rfl (by kernel_rfl) (Wnt.none rfl) rfl rfl (by intro w hm; replace hm : Mm _ _ _ w := hm; exact r_val hs tab rfl) (hm.sub sub_) ?_; clear hs a; intro a hs
              refine hTake 25 hs rfl (by kernel_rfl) (Wnt.none rfl) rfl rfl (by intro w hm; replace hm : Mm _ _ _ w := hm; exact r_val hs tab rfl) (hm.sub sub_) ?_; clear hs a; intro a hs
              refine hTake 26 hs rfl (by kernel_rfl) (Wnt.none rfl) rfl rfl (by intro w hm; replace hm : Mm _ _ _ w := hm; exact r_val hs tab rfl) (hm.sub sub_) ?_; clear hs a; intro a hs
              refine hEach [27] (by kernel_rfl) (eDoN hs rfl (Wnt.none rfl) rfl ds_ ?_ eNil)
              clear hs hm
              rintro - w47 hm a hs
              refine ⟨hm.sub sub_, ?_⟩
              refine hDone (by kernel_rfl) ?_
              exact And.intro rfl ⟨sA2, sc2, scs2, dA2, dc2, dcs2, hr11, hr19, hs.sub (Has.all ⟨rfl, trivial⟩), hm.sub sub_⟩
          · skip
            clear hs hm a
            rintro _ w38 ⟨g115, rfl, -, hm⟩ a hs
            refine ⟨hm.sub sub_, ?_⟩
            refine hEach [6] (by kernel_rfl) (eDo hs rfl (Wnt.none rfl) rfl rfl (RunV.does kv_) ?_ eNil)
            clear hs a
            rintro _ _ ⟨rfl, rfl⟩ a hs
            refine ⟨hm.sub sub_, ?_⟩
            refine hEach [11] (by kernel_rfl) (eDo hs rfl (Wnt.none rfl) rfl rfl (d_append (A := x.sA) (n := x.r.ss.length) (c := x.sc) (news := [.int .i64 v]) hs rfl rfl rfl rfl rfl tab rfl rfl rfl rfl rfl hm mem_ hxs rfl (hm.ro (n := 1) mem_ (cutF_ok rfl)) rfl (by show (x.r.ss.length + 1) * 8 ≤ _; omega) (by omega)) ?_ eNil)
            clear hs
            rintro _ w1 ⟨sA2, sc2, scs2, rfl, hr11, hM⟩ a hs
            replace hm := hM _ rep_
            clear hM
            refine ⟨hm.sub sub_, ?_⟩
            refine hEach [19] (by kernel_rfl) (eDo hs rfl (Wnt.none rfl) rfl rfl (d_append (A := x.dA) (n := x.ws.length) (c := x.dc) (news := [slv wA t.length wc]) hs rfl rfl rfl rfl rfl tab rfl rfl rfl rfl rfl hm mem_ hxd rfl (hm.ro (n := 1) mem_ (cutF_ok rfl)) rfl (by show (x.ws.length + 1) * 24 ≤ _; omega) (by omega)) ?_ eNil)
            clear hs
            rintro _ w1 ⟨dA2, dc2, dcs2, rfl, hr19, hM⟩ a hs
            replace hm := hM _ rep_
            clear hM
            refine ⟨hm.sub sub_, ?_⟩
            refine hTake 20 hs rfl (by kernel_rfl) (Wnt.none rfl) rfl rfl (by intro w hm; replace hm : Mm _ _ _ w := hm; exact r_val hs tab rfl) (hm.sub sub_) ?_; clear hs a; intro a hs
            refine hTake 21 hs rfl (by kernel_rfl) (Wnt.none rfl) rfl rfl (by intro w hm; replace hm : Mm _ _ _ w := hm; exact r_val hs tab rfl) (hm.sub sub_) ?_; clear hs a; intro a hs
            refine hTake 22 hs rfl (by kernel_rfl) (Wnt.none rfl) rfl rfl (by intro w hm; replace hm : Mm _ _ _ w := hm; exact r_val hs tab rfl) (hm.sub sub_) ?_; clear hs a; intro a hs
            refine hEach [23] (by kernel_rfl) (eDoN hs rfl (Wnt.none rfl) rfl ds_ ?_ eNil)
            clear hs hm
            rintro - w43 hm a hs
            refine ⟨hm.sub sub_, ?_⟩
            refine hTake 24 hs rfl (by kernel_rfl) (Wnt.none rfl) rfl rfl (by intro w hm; replace hm : Mm _ _ _ w := hm; exact r_val hs tab rfl) (hm.sub sub_) ?_; clear hs a; intro a hs
            refine hTake 25 hs rfl (by kernel_rfl) (Wnt.none rfl) rfl rfl (by intro w hm; replace hm : Mm _ _ _ w := hm; exact r_val hs tab rfl) (hm.sub sub_) ?_; clear hs a; intro a hs
            refine hTake 26 hs rfl (by kernel_rfl) (Wnt.none rfl) rfl rfl (by intro w hm; replace hm : Mm _ _ _ w := hm; exact r_val hs tab rfl) (hm.sub sub_) ?_; clear hs a; intro a hs
            refine hEach [27] (by kernel_rfl) (eDoN hs rfl (Wnt.none rfl) rfl ds_ ?_ eNil)
            clear hs hm
            rintro - w47 hm a hs
            refine ⟨hm.sub sub_, ?_⟩
            refine hDone (by kernel_rfl) ?_
            exact And.intro rfl ⟨sA2, sc2, scs2, dA2, dc2, dcs2, hr11, hr19, hs.sub (Has.all ⟨rfl, trivial⟩), hm.sub sub_⟩
        · skip
          clear hs hm a
          rintro _ w38 ⟨g115, rfl, -, hm⟩ a hs
          refine ⟨hm.sub sub_, ?_⟩
          refine hEach [6, 10] (by kernel_rfl) (eDo hs rfl (Wnt.none rfl) rfl rfl (RunV.does kv_) ?_ (eDo hs rfl (Wnt.none rfl) rfl rfl (by exact d_buildSlice hs rfl tab rfl rfl rfl rfl rfl rfl rfl rfl rfl hm) ?_ eNil))
          · skip
            clear hs a
            rintro _ _ ⟨rfl, rfl⟩ a hs
            refine ⟨hm.sub sub_, ?_⟩
            refine hEach [10] (by kernel_rfl) (eDo hs rfl (Wnt.none rfl) rfl rfl (by exact d_buildSlice hs rfl tab rfl rfl rfl rfl rfl rfl rfl rfl rfl hm) ?_ eNil)
            clear hs hm a
            rintro _ w30 ⟨g107, rfl, -, hm⟩ a hs
            refine ⟨hm.sub sub_, ?_⟩
            refine hEach [11] (by kernel_rfl) (eDo hs rfl (Wnt.none rfl) rfl rfl (d_append (A := x.sA) (n := x.r.ss.length) (c := x.sc) (news := [.int .i64 v]) hs rfl rfl rfl rfl rfl tab rfl rfl rfl rfl rfl hm mem_ hxs rfl (hm.ro (n := 1) mem_ (cutF_ok rfl)) rfl (by show (x.r.ss.length + 1) * 8 ≤ _; omega) (by omega)) ?_ eNil)
            clear hs
            rintro _ w1 ⟨sA2, sc2, scs2, rfl, hr11, hM⟩ a hs
            replace hm := hM _ rep_
            clear hM
            refine ⟨hm.sub sub_, ?_⟩
            refine hEach [19] (by kernel_rfl) (eDo hs rfl (Wnt.none rfl) rfl rfl (d_append (A := x.dA) (n := x.ws.length) (c := x.dc) (news := [slv wA t.length wc]) hs rfl rfl rfl rfl rfl tab rfl rfl rfl rfl rfl hm mem_ hxd rfl (hm.ro (n := 1) mem_ (cutF_ok rfl)) rfl (by show (x.ws.length + 1) * 24 ≤ _; omega) (by omega)) ?_ eNil)
            clear hs
            rintro _ w1 ⟨dA2, dc2, dcs2, rfl, hr19, hM⟩ a hs
            replace hm := hM _ rep_
            clear hM
            refine ⟨hm.sub sub_, ?_⟩
            refine hTake 20 hs rfl (by kernel_rfl) (Wnt.none rfl) rfl rfl (by intro w hm; replace hm : Mm _ _ _ w := hm; exact r_val hs tab rfl) (hm.sub sub_) ?_; clear hs a; intro a hs
            refine hTake 21 hs rfl (by kernel_rfl) (Wnt.none rfl) rfl rfl (by intro w hm; replace hm : Mm _ _ _ w := hm; exact r_val hs tab rfl) (hm.sub sub_) ?_; clear hs a; intro a hs
            refine hTake 22 hs rfl (by kernel_rfl) (Wnt.none rfl) rfl rfl (by intro w hm; replace hm : Mm _ _ _ w := hm; exact r_val hs tab rfl) (hm.sub sub_) ?_; clear hs a; intro a hs
            refine hEach [23] (by kernel_rfl) (eDoN hs rfl (Wnt.none rfl) rfl ds_ ?_ eNil)
            clear hs hm
            rintro - w43 hm a hs
            refine ⟨hm.sub sub_, ?_⟩
            refine hTake 24 hs rfl (by kernel_rfl) (Wnt.none rfl) rfl rfl (by intro w hm; replace hm : Mm _ _ _ w := hm; exact r_val hs tab rfl) (hm.sub sub_) ?_; clear hs a; intro a hs
            refine hTake 25 hs rfl (by kernel_rfl) (Wnt.none rfl) rfl rfl (by intro w hm; replace hm : Mm _ _ _ w := hm; exact r_val hs tab rfl) (hm.sub sub_) ?_; clear hs a; intro a hs
            refine hTake 26 hs rfl (by kernel_rfl) (Wnt.none rfl) rfl rfl (by intro w hm; replace hm : Mm _ _ _ w := hm; exact r_val hs tab rfl) (hm.sub sub_) ?_; clear hs a; intro a hs
            refine hEach [27] (by kernel_rfl) (eDoN hs rfl (Wnt.none rfl) rfl ds_ ?_ eNil)
            clear hs hm
            rintro - w47 hm a hs
            refine ⟨hm.sub sub_, ?_⟩
            refine hDone (by kernel_rfl) ?_
            exact And.intro rfl ⟨sA2, sc2, scs2, dA2, dc2, dcs2, hr11, hr19, hs.sub (Has.all ⟨rfl, trivial⟩), hm.sub sub_⟩
          · skip
            clear hs hm a
            rintro _ w30 ⟨g107, rfl, -, hm⟩ a hs
            refine ⟨hm.sub sub_, ?_⟩
            refine hEach [6] (by kernel_rfl) (eDo hs rfl (Wnt.none rfl) rfl rfl (RunV.does kv_) ?_ eNil)
            clear hs a
            rintro _ _ ⟨rfl, rfl⟩ a hs
            refine ⟨hm.sub sub_, ?_⟩
            refine hEach [11] (by kernel_rfl) (eDo hs rfl (Wnt.none rfl) rfl rfl (d_append (A := x.sA) (n := x.r.ss.length) (c := x.sc) (news := [.int .i64 v]) hs rfl rfl rfl rfl rfl tab rfl rfl rfl rfl rfl hm mem_ hxs rfl (hm.ro (n := 1) mem_ (cutF_ok rfl)) rfl (by show (x.r.ss.length + 1) * 8 ≤ _; omega) (by omega)) ?_ eNil)
            clear hs
            rintro _ w1 ⟨sA2, sc2, scs2, rfl, hr11, hM⟩ a hs
            replace hm := hM _ rep_
            clear hM
            refine ⟨hm.sub sub_, ?_⟩
            refine hEach [19] (by kernel_rfl) (eDo hs rfl (Wnt.none rfl) rfl rfl (d_append (A := x.dA) (n := x.ws.length) (c := x.dc) (news := [slv wA t.length wc]) hs rfl rfl rfl rfl rfl tab rfl rfl rfl rfl rfl hm mem_ hxd rfl (hm.ro (n := 1) mem_ (cutF_ok rfl)) rfl (by show (x.ws.length + 1) * 24 ≤ _; omega) (by omega)) ?_ eNil)
            clear hs
            rintro _ w1 ⟨dA2, dc2, dcs2, rfl, hr19, hM⟩ a hs
            replace hm := hM _ rep_
            clear hM
            refine ⟨hm.sub sub_, ?_⟩
            refine hTake 20 hs rfl (by kernel_rfl) (Wnt.none rfl) rfl rfl (by intro w hm; replace hm : Mm _ _ _ w := hm; exact r_val hs tab rfl) (hm.sub sub_) ?_; clear hs a; intro a hs
            refine hTake 21 hs rfl (by kernel_rfl) (Wnt.none rfl) rfl rfl (by intro w hm; replace hm : Mm _ _ _ w := hm; exact r_val hs tab rfl) (hm.sub sub_) ?_; clear hs a; intro a hs
            refine hTake 22 hs rfl (by kernel_rfl) (Wnt.none rfl) rfl rfl (by intro w hm; replace hm : Mm _ _ _ w := hm; exact r_val hs tab rfl) (hm.sub sub_) ?_; clear hs a; intro a hs
            refine hEach [23] (by kernel_rfl) (eDoN hs rfl (Wnt.none rfl) rfl ds_ ?_ eNil)
            clear hs hm
            rintro - w43 hm a hs
            refine ⟨hm.sub sub_, ?_⟩
            refine hTake 24 hs rfl (by kernel_rfl) (Wnt.none rfl) rfl rfl (by intro w hm; replace hm : Mm _ _ _ w := hm; exact r_val hs tab rfl) (hm.sub sub_) ?_; clear hs a; intro a hs
            refine hTake 25 hs rfl (by kernel_rfl) (Wnt.none rfl) rfl rfl (by intro w hm; replace hm : Mm _ _ _ w := hm; exact r_val hs tab rfl) (hm.sub sub_) ?_; clear hs a; intro a hs
            refine hTake 26 hs rfl (by kernel_rfl) (Wnt.none rfl) rfl rfl (by intro w hm; replace hm : Mm _ _ _ w := hm; exact r_val hs tab rfl) (hm.sub sub_) ?_; clear hs a; intro a hs
            refine hEach [27] (by kernel_rfl) (eDoN hs rfl (Wnt.none rfl) rfl ds_ ?_ eNil)
            clear hs hm
            rintro - w47 hm a hs
            refine ⟨hm.sub sub_, ?_⟩
            refine hDone (by kernel_rfl) ?_
            exact And.intro rfl ⟨sA2, sc2, scs2, dA2, dc2, dcs2, hr11, hr19, hs.sub (Has.all ⟨rfl, trivial⟩), hm.sub sub_⟩
      · skip
        clear hs hm a
        rintro _ w38 ⟨g115, rfl, -, hm⟩ a hs
        refine ⟨hm.sub sub_, ?_⟩
        refine hEach [6, 10, 16] (by kernel_rfl) (eDo hs rfl (Wnt.none rfl) rfl rfl (RunV.does kv_) ?_ (eDo hs rfl (Wnt.none rfl) rfl rfl (by exact d_buildSlice hs rfl tab rfl rfl rfl rfl rfl rfl rfl rfl rfl hm) ?_ (eDo hs rfl (Wnt.none rfl) rfl rfl (RunV.does kv_) ?_ eNil)))
        · skip
          clear hs a
          rintro _ _ ⟨rfl, rfl⟩ a hs
          refine ⟨hm.sub sub_, ?_⟩
          refine hEach [10, 16] (by kernel_rfl) (eDo hs rfl (Wnt.none rfl) rfl rfl (by exact d_buildSlice hs rfl tab rfl rfl rfl rfl rfl rfl rfl rfl rfl hm) ?_ (eDo hs rfl (Wnt.none rfl) rfl rfl (RunV.does kv_) ?_ eNil))
          · skip
            clear hs hm a
            rintro _ w30 ⟨g107, rfl, -, hm⟩ a hs
            refine ⟨hm.sub sub_, ?_⟩
            refine hEach [11, 16] (by kernel_rfl) (eDo hs rfl (Wnt.none rfl) rfl rfl (d_append (A := x.sA) (n := x.r.ss.length) (c := x.sc) (news := [.int .i64 v]) hs rfl rfl rfl rfl rfl tab rfl rfl rfl rfl rfl hm mem_ hxs rfl (hm.ro (n := 1) mem_ (cutF_ok rfl)) rfl (by show (x.r.ss.length + 1) * 8 ≤ _; omega) (by omega)) ?_ (eDo hs rfl (Wnt.none rfl) rfl rfl (RunV.does kv_) ?_ eNil))
            · skip
              clear hs
              rintro _ w1 ⟨sA2, sc2, scs2, rfl, hr11, hM⟩ a hs
              replace hm := hM _ rep_
              clear hM
              refine ⟨hm.sub sub_, ?_⟩
              refine hEach [16] (by kernel_rfl) (eDo hs rfl (Wnt.none rfl) rfl rfl (RunV.does kv_) ?_ eNil)
              clear hs a
              rintro _ _ ⟨rfl, rfl⟩ a hs
              refine ⟨hm.sub sub_, ?_⟩
              refine hEach [19] (by kernel_rfl) (eDo hs rfl (Wnt.none rfl) rfl rfl (d_append (A := x.dA) (n := x.ws.length) (c := x.dc) (news := [slv wA t.length wc]) hs rfl rfl rfl rfl rfl tab rfl rfl rfl rfl rfl hm mem_ hxd rfl (hm.ro (n := 1) mem_ (cutF_ok rfl)) rfl (by show (x.ws.length + 1) * 24 ≤ _; omega) (by omega)) ?_ eNil)
              clear hs
              rintro _ w1 ⟨dA2, dc2, dcs2, rfl, hr19, hM⟩ a hs
              replace hm := hM _ rep_
              clear hM
              refine ⟨hm.sub sub_, ?_⟩
              refine hTake 20 hs rfl (by kernel_rfl) (Wnt.none rfl) rfl rfl (by intro w hm; replace hm : Mm _ _ _ w := hm; exact r_val hs tab rfl) (hm.sub sub_) ?_; clear hs a; intro a hs
              refine hTake 21 hs rfl (by kernel_rfl) (Wnt.none rfl) rfl rfl (by intro w hm; replace hm : Mm _ _ _ w := hm; exact r_val hs tab rfl) (hm.sub sub_) ?_; clear hs a; intro a hs
              refine hTake 22 hs rfl (by kernel_rfl) (Wnt.none rfl) rfl rfl (by intro w hm; replace hm : Mm _ _ _ w := hm; exact r_val hs tab rfl) (hm.sub sub_) ?_; clear hs a; intro a hs
              refine hEach [23] (by kernel_rfl) (eDoN hs rfl (Wnt.none rfl) rfl ds_ ?_ eNil)
              clear hs hm
              rintro - w43 hm a hs
              refine ⟨hm.sub sub_, ?_⟩
              refine hTake 24 hs rfl (by kernel_rfl) (Wnt.none rfl) rfl rfl (by intro w hm; replace hm : Mm _ _ _ w := hm; exact r_val hs tab rfl) (hm.sub sub_) ?_; clear hs a; intro a hs
              refine hTake 25 hs rfl (by kernel_rfl) (Wnt.none rfl) rfl rfl (by intro w hm; replace hm : Mm _ _ _ w := hm; exact r_val hs tab rfl) (hm.sub sub_) ?_; clear hs a; intro a hs
              refine hTake 26 hs rfl (by kernel_rfl) (Wnt.none rfl) rfl rfl (by intro w hm; replace hm : Mm _ _ _ w := hm; exact r_val hs tab rfl) (hm.sub sub_) ?_; clear hs a; intro a hs
              refine hEach [27] (by kernel_rfl) (eDoN hs rfl (Wnt.none rfl) rfl ds_ ?_ eNil)
              clear hs hm
              rintro - w47 hm a hs
              refine ⟨hm.sub sub_, ?_⟩
              refine hDone (by kernel_rfl) ?_
              exact And.intro rfl ⟨sA2, sc2, scs2, dA2, dc2, dcs2, hr11, hr19, hs.sub (Has.all ⟨rfl, trivial⟩), hm.sub sub_⟩
            · skip
              clear hs a
              rintro _ _ ⟨rfl, rfl⟩ a hs
              refine ⟨hm.sub sub_, ?_⟩
              refine hEach [11] (by kernel_rfl) (eDo hs rfl (Wnt.none rfl) rfl rfl (d_append (A := x.sA) (n := x.r.ss.length) (c := x.sc) (news := [.int .i64 v]) hs rfl rfl rfl rfl rfl tab rfl rfl rfl rfl rfl hm mem_ hxs rfl (hm.ro (n := 1) mem_ (cutF_ok rfl)) rfl (by show (x.r.ss.length + 1) * 8 ≤ _; omega) (by omega)) ?_ eNil)
              clear hs
              rintro _ w1 ⟨sA2, sc2, scs2, rfl, hr11, hM⟩ a hs
              replace hm := hM _ rep_
              clear hM
              refine ⟨hm.sub sub_, ?_⟩
              refine hEach [19] (by kernel_rfl) (eDo hs rfl (Wnt.none rfl) rfl rfl (d_append (A := x.dA) (n := x.ws.length) (c := x.dc) (news := [slv wA t.length wc]) hs rfl rfl rfl rfl rfl tab rfl rfl rfl rfl rfl hm mem_ hxd rfl (hm.ro (n := 1) mem_ (cutF_ok rfl)) rfl (by show (x.ws.length + 1) * 24 ≤ _; omega) (by omega)) ?_ eNil)
              clear hs
              rintro _ w1 ⟨dA2, dc2, dcs2, rfl, hr19, hM⟩ a hs
              replace hm := hM _ rep_
              clear hM
              refine ⟨hm.sub sub_, ?_⟩
              refine hTake 20 hs rfl (by kernel_rfl) (Wnt.none rfl) rfl rfl (by intro w hm; replace hm : Mm _ _ _ w := hm; exact r_val hs tab rfl) (hm.sub sub_) ?_; clear hs a; intro a hs
              refine hTake 21 hs rfl (by kernel_rfl) (Wnt.none rfl) rfl rfl (by intro w hm; replace hm : Mm _ _ _ w := hm; exact r_val hs tab rfl) (hm.sub sub_) ?_; clear hs a; intro a hs
              refine hTake 22 hs rfl (by kernel_rfl) (Wnt.none rfl) rfl rfl (by intro w hm; replace hm : Mm _ _ _ w := hm; exact r_val hs tab rfl) (hm.sub sub_) ?_; clear hs a; intro a hs
              refine hEach [23] (by kernel_rfl) (eDoN hs rfl (Wnt.none rfl) rfl ds_ ?_ eNil)
              clear hs hm
              rintro - w43 hm a hs
              refine ⟨hm.sub sub_, ?_⟩
              refine hTake 24 hs rfl (by kernel_rfl) (Wnt.none rfl) rfl rfl (by intro w hm; replace hm : Mm _ _ _ w := hm; exact r_val hs tab rfl) (hm.sub sub_) ?_; clear hs a; intro a hs
              refine hTake 25 hs rfl (by kernel_rfl) (Wnt.none rfl) rfl rfl (by intro w hm; replace hm : Mm _ _ _ w := hm; exact r_val hs tab rfl) (hm.sub sub_) ?_; clear hs a; intro a hs
              refine hTake 26 hs rfl (by kernel_rfl) (Wnt.none rfl) rfl rfl (by intro w hm; replace hm : Mm _ _ _ w := hm; exact r_val hs tab rfl) (hm.sub sub_) ?_; clear hs a; intro a hs
              refine hEach [27] (by kernel_rfl) (eDoN hs rfl (Wnt.none rfl) rfl ds_ ?_ eNil)
              clear hs hm
              rintro - w47 hm a hs
              refine ⟨hm.sub sub_, ?_⟩
              refine hDone (by kernel_rfl) ?_
              exact And.intro rfl ⟨sA2, sc2, scs2, dA2, dc2, dcs2, hr11, hr19, hs.sub (Has.all ⟨rfl, trivial⟩), hm.sub sub_⟩
          · skip
            clear hs a
            rintro _ _ ⟨rfl, rfl⟩ a hs
            refine ⟨hm.sub sub_, ?_⟩
            refine hEach [10] (by kernel_rfl) (eDo hs rfl (Wnt.none rfl) rfl rfl (by exact d_buildSlice hs rfl tab rfl rfl rfl rfl rfl rfl rfl rfl rfl hm) ?_ eNil)
            clear hs hm a
            rintro _ w30 ⟨g107, rfl, -, hm⟩ a hs
            refine ⟨hm.sub sub_, ?_⟩
            refine hEach [11] (by kernel_rfl) (eDo hs rfl (Wnt.none rfl) rfl rfl (d_append (A := x.sA) (n := x.r.ss.length) (c := x.sc) (news := [.int .i64 v]) hs rfl rfl rfl rfl rfl tab rfl rfl rfl rfl rfl hm mem_ hxs rfl (hm.ro (n := 1) mem_ (cutF_ok rfl)) rfl (by show (x.r.ss.length + 1) * 8 ≤ _; omega) (by omega)) ?_ eNil)
            clear hs
            rintro _ w1 ⟨sA2, sc2, scs2, rfl, hr11, hM⟩ a hs
            replace hm := hM _ rep_
            clear hM
            refine ⟨hm.sub sub_, ?_⟩
            refine hEach [19] (by kernel_rfl) (eDo hs rfl (Wnt.none rfl) rfl rfl (d_append (A := x.dA) (n := x.ws.length) (c := x.dc) (news := [slv wA t.length wc]) hs rfl rfl rfl rfl rfl tab rfl rfl rfl rfl rfl hm mem_ hxd rfl (hm.ro (n := 1) mem_ (cutF_ok rfl)) rfl (by show (x.ws.length + 1) * 24 ≤ _; omega) (by omega)) ?_ eNil)
            clear hs
            rintro _ w1 ⟨dA2, dc2, dcs2, rfl, hr19, hM⟩ a hs
            replace hm := hM _ rep_
            clear hM
            refine ⟨hm.sub sub_, ?_⟩
            refine hTake 20 hs rfl (by kernel_rfl) (Wnt.none rfl) rfl rfl (by intro w hm; replace hm : Mm _ _ _ w := hm; exact r_val hs tab rfl) (hm.sub sub_) ?_; clear hs a; intro a hs
            refine hTake 21 hs rfl (by kernel_rfl) (Wnt.none rfl) rfl rfl (by intro w hm; replace hm : Mm _ _ _ w := hm; exact r_val hs tab rfl) (hm.sub sub_) ?_; clear hs a; intro a hs
            refine hTake 22 hs rfl (by kernel_rfl) (Wnt.none rfl) rfl rfl (by intro w hm; replace hm : Mm _ _ _ w := hm; exact r_val hs tab rfl) (hm.sub sub_) ?_; clear hs a; intro a hs
            refine hEach [23] (by kernel_rfl) (eDoN hs rfl (Wnt.none rfl) rfl ds_ ?_ eNil)
            clear hs hm
            rintro - w43 hm a hs
            refine ⟨hm.sub sub_, ?_⟩
            refine hTake 24 hs rfl (by kernel_rfl) (Wnt.none rfl) rfl rfl (by intro w hm; replace hm : Mm _ _ _ w := hm; exact r_val hs tab rfl) (hm.sub sub_) ?_; clear hs a; intro a hs
            refine hTake 25 hs rfl (by kernel_rfl) (Wnt.none rfl) rfl rfl (by intro w hm; replace hm : Mm _ _ _ w := hm; exact r_val hs tab rfl) (hm.sub sub_) ?_; clear hs a; intro a hs
            refine hTake 26 hs rfl (by kernel_rfl) (Wnt.none rfl) rfl rfl (by intro w hm; replace hm : Mm _ _ _ w := hm; exact r_val hs tab rfl) (hm.sub sub_) ?_; clear hs a; intro a hs
            refine hEach [27] (by kernel_rfl) (eDoN hs rfl (Wnt.none rfl) rfl ds_ ?_ eNil)
            clear hs hm
            rintro - w47 hm a hs
            refine ⟨hm.sub sub_, ?_⟩
            refine hDone (by kernel_rfl) ?_
            exact And.intro rfl ⟨sA2, sc2, scs2, dA2, dc2, dcs2, hr11, hr19, hs.sub (Has.all ⟨rfl, trivial⟩), hm.sub sub_⟩
        · skip
          clear hs hm a
          rintro _ w30 ⟨g107, rfl, -, hm⟩ a hs
          refine ⟨hm.sub sub_, ?_⟩
          refine hEach [6, 16] (by kernel_rfl) (eDo hs rfl (Wnt.none rfl) rfl rfl (RunV.does kv_) ?_ (eDo hs rfl (Wnt.none rfl) rfl rfl (RunV.does kv_) ?_ eNil))
          · skip
            clear hs a
            rintro _ _ ⟨rfl, rfl⟩ a hs
            refine ⟨hm.sub sub_, ?_⟩
            refine hEach [11, 16] (by kernel_rfl) (eDo hs rfl (Wnt.none rfl) rfl rfl (d_append (A := x.sA) (n := x.r.ss.length) (c := x.sc) (news := [.int .i64 v]) hs rfl rfl rfl rfl rfl tab rfl rfl rfl rfl rfl hm mem_ hxs rfl (hm.ro (n := 1) mem_ (cutF_ok rfl)) rfl (by show (x.r.ss.length + 1) * 8 ≤ _; omega) (by omega)) ?_ (eDo hs rfl (Wnt.none rfl) rfl rfl (RunV.does kv_) ?_ eNil))
            · skip
              clear hs
              rintro _ w1 ⟨sA2, sc2, scs2, rfl, hr11, hM⟩ a hs
              replace hm := hM _ rep_
              clear hM
              refine ⟨hm.sub sub_, ?_⟩
              refine hEach [16] (by kernel_rfl) (eDo hs rfl (Wnt.none rfl) rfl rfl (RunV.does kv_) ?_ eNil)
              clear hs a
              rintro _ _ ⟨rfl, rfl⟩ a hs
              refine ⟨hm.sub sub_, ?_⟩
              refine hEach [19] (by kernel_rfl) (eDo hs rfl (Wnt.none rfl) rfl rfl (d_append (A := x.dA) (n := x.ws.length) (c := x.dc) (news := [slv wA t.length wc]) hs rfl rfl rfl rfl rfl tab rfl rfl rfl rfl rfl hm mem_ hxd rfl (hm.ro (n := 1) mem_ (cutF_ok rfl)) rfl (by show (x.ws.length + 1) * 24 ≤ _; omega) (by omega)) ?_ eNil)
              clear hs
              rintro _ w1 ⟨dA2, dc2, dcs2, rfl, hr19, hM⟩ a hs
              replace hm := hM _ rep_
              clear hM
              refine ⟨hm.sub sub_, ?_⟩
              refine hTake 20 hs rfl (by kernel_rfl) (Wnt.none rfl) rfl rfl (by intro w hm; replace hm : Mm _ _ _ w := hm; exact r_val hs tab rfl) (hm.sub sub_) ?_; clear hs a; intro a hs
              refine hTake 21 hs rfl (by kernel_rfl) (Wnt.none rfl) rfl rfl (by intro w hm; replace hm : Mm _ _ _ w := hm; exact r_val hs tab rfl) (hm.sub sub_) ?_; clear hs a; intro a hs
              refine hTake 22 hs rfl (by kernel_rfl) (Wnt.none rfl) rfl rfl (by intro w hm; replace hm : Mm _ _ _ w := hm; exact r_val hs tab rfl) (hm.sub sub_) ?_; clear hs a; intro a hs
              refine hEach [23] (by kernel_rfl) (eDoN hs rfl (Wnt.none rfl) rfl ds_ ?_ eNil)
              clear hs hm
              rintro - w43 hm a hs
              refine ⟨hm.sub sub_, ?_⟩
              refine hTake 24 hs rfl (by kernel_rfl) (Wnt.none rfl) rfl rfl (by intro w hm; replace hm : Mm _ _ _ w := hm; exact r_val hs tab rfl) (hm.sub sub_) ?_; clear hs a; intro a hs
              refine hTake 25 hs rfl (by kernel_rfl) (Wnt.none rfl) rfl rfl (by intro w hm; replace hm : Mm _ _ _ w := hm; exact r_val hs tab rfl) (hm.sub sub_) ?_; clear hs a; intro a hs
              refine hTake 26 hs rfl (by kernel_rfl) (Wnt.none rfl) rfl rfl (by intro w hm; replace hm : Mm _ _ _ w := hm; exact r_val hs tab rfl) (hm.sub sub_) ?_; clear hs a; intro a hs
              refine hEach [27] (by kernel_rfl) (eDoN hs rfl (Wnt.none rfl) rfl ds_ ?_ eNil)
              clear hs hm
              rintro - w47 hm a hs
              refine ⟨hm.sub sub_, ?_⟩
              refine hDone (by kernel_rfl) ?_
              exact And.intro rfl ⟨sA2, sc2, scs2, dA2, dc2, dcs2, hr11, hr19, hs.sub (Has.all ⟨rfl, trivial⟩), hm.sub sub_⟩
            · skip
              clear hs a
              rintro _ _ ⟨rfl, rfl⟩ a hs
              refine ⟨hm.sub sub_, ?_⟩
              refine hEach [11] (by kernel_rfl) (eDo hs rfl (Wnt.none rfl) rfl rfl (d_append (A := x.sA) (n := x.r.ss.length) (c := x.sc) (news := [.int .i64 v]) hs rfl rfl rfl rfl rfl tab rfl rfl rfl rfl rfl hm mem_ hxs rfl (hm.ro (n := 1) mem_ (cutF_ok rfl)) rfl (by show (x.r.ss.length + 1) * 8 ≤ _; omega) (by omega)) ?_ eNil)
              clear hs
              rintro _ w1 ⟨sA2, sc2, scs2, rfl, hr11, hM⟩ a hs
              replace hm := hM _ rep_
              clear hM
              refine ⟨hm.sub sub_, ?_⟩
              refine hEach [19] (by kernel_rfl) (eDo hs rfl (Wnt.none rfl) rfl rfl (d_append (A := x.dA) (n := x.ws.length) (c := x.dc) (news := [slv wA t.length wc]) hs rfl rfl rfl rfl rfl tab rfl rfl rfl rfl rfl hm mem_ hxd rfl (hm.ro (n := 1) mem_ (cutF_ok rfl)) rfl (by show (x.ws.length + 1) * 24 ≤ _; omega) (by omega)) ?_ eNil)
              clear hs
              rintro _ w1 ⟨dA2, dc2, dcs2, rfl, hr19, hM⟩ a hs
              replace hm := hM _ rep_
              clear hM
              refine ⟨hm.sub sub_, ?_⟩
              refine hTake 20 hs rfl (by kernel_rfl) (Wnt.none rfl) rfl rfl (by intro w hm; replace hm : Mm _ _ _ w := hm; exact r_val hs tab rfl) (hm.sub sub_) ?_; clear hs a; intro a hs
              refine hTake 21 hs rfl (by kernel_rfl) (Wnt.none rfl) rfl rfl (by intro w hm; replace hm : Mm _ _ _ w := hm; exact r_val hs tab rfl) (hm.sub sub_) ?_; clear hs a; intro a hs
              refine hTake 22 hs rfl (by kernel_rfl) (Wnt.none rfl) rfl rfl (by intro w hm; replace hm : Mm _ _ _ w := hm; exact r_val hs tab rfl) (hm.sub sub_) ?_; clear hs a; intro a hs
              refine hEach [23] (by kernel_rfl) (eDoN hs rfl (Wnt.none rfl) rfl ds_ ?_ eNil)
              clear hs hm
              rintro - w43 hm a hs
              refine ⟨hm.sub sub_, ?_⟩
              refine hTake 24 hs rfl (by kernel_rfl) (Wnt.none rfl) rfl rfl (by intro w hm; replace hm : Mm _ _ _ w := hm; exact r_val hs tab rfl) (hm.sub sub_) ?_; clear hs a; intro a hs
              refine hTake 25 hs rfl (by kernel_rfl) (Wnt.none rfl) rfl rfl (by intro w hm; replace hm : Mm _ _ _ w := hm; exact r_val hs tab rfl) (hm.sub sub_) ?_; clear hs a; intro a hs
              refine hTake 26 hs rfl (by kernel_rfl) (Wnt.none rfl) rfl rfl (by intro w hm; replace hm : Mm _ _ _ w := hm; exact r_val hs tab rfl) (hm.sub sub_) ?_; clear hs a; intro a hs
              refine hEach [27] (by kernel_rfl) (eDoN hs rfl (Wnt.none rfl) rfl ds_ ?_ eNil)
              clear hs hm
              rintro - w47 hm a hs
              refine ⟨hm.sub sub_, ?_⟩
              refine hDone (by kernel_rfl) ?_
              exact And.intro rfl ⟨sA2, sc2, scs2, dA2, dc2, dcs2, hr11, hr19, hs.sub (Has.all ⟨rfl, trivial⟩), hm.sub sub_⟩
          · skip
            clear hs a
            rintro _ _ ⟨rfl, rfl⟩ a hs
            refine ⟨hm.sub sub_, ?_⟩
            refine hEach [6] (by kernel_rfl) (eDo hs rfl (Wnt.none rfl) rfl rfl (RunV.does kv_) ?_ eNil)
            clear hs a
            rintro _ _ ⟨rfl, rfl⟩ a hs
            refine ⟨hm.sub sub_, ?_⟩
            refine hEach [11] (by kernel_rfl) (eDo hs rfl (Wnt.none rfl) rfl rfl (d_append (A := x.sA) (n := x.r.ss.length) (c := x.sc) (news := [.int .i64 v]) hs rfl rfl rfl rfl rfl tab rfl rfl rfl rfl rfl hm mem_ hxs rfl (hm.ro (n := 1) mem_ (cutF_ok rfl)) rfl (by show (x.r.ss.length + 1) * 8 ≤ _; omega) (by omega)) ?_ eNil)
            clear hs
            rintro _ w1 ⟨sA2, sc2, scs2, rfl, hr11, hM⟩ a hs
            replace hm := hM _ rep_
            clear hM
            refine ⟨hm.sub sub_, ?_⟩
            refine hEach [19] (by kernel_rfl) (eDo hs rfl (Wnt.none rfl) rfl rfl (d_append (A := x.dA) (n := x.ws.length) (c := x.dc) (news := [slv wA t.length wc]) hs rfl rfl rfl rfl rfl tab rfl rfl rfl rfl rfl hm mem_ hxd rfl (hm.ro (n := 1) mem_ (cutF_ok rfl)) rfl (by show (x.ws.length + 1) * 24 ≤ _; omega) (by omega)) ?_ eNil)
            clear hs
            rintro _ w1 ⟨dA2, dc2, dcs2, rfl, hr19, hM⟩ a hs
            replace hm := hM _ rep_
            clear hM
            refine ⟨hm.sub sub_, ?_⟩
            refine hTake 20 hs rfl (by kernel_rfl) (Wnt.none rfl) rfl rfl (by intro w hm; replace hm : Mm _ _ _ w := hm; exact r_val hs tab rfl) (hm.sub sub_) ?_; clear hs a; intro a hs
            refine hTake 21 hs rfl (by kernel_rfl) (Wnt.none rfl) rfl rfl (by intro w hm; replace hm : Mm _ _ _ w := hm; exact r_val hs tab rfl) (hm.sub sub_) ?_; clear hs a; intro a hs
            refine hTake 22 hs rfl (by kernel_rfl) (Wnt.none rfl) rfl rfl (by intro w hm; replace hm : Mm _ _ _ w := hm; exact r_val hs tab rfl) (hm.sub sub_) ?_; clear hs a; intro a hs
            refine hEach [23] (by kernel_rfl) (eDoN hs rfl (Wnt.none rfl) rfl ds_ ?_ eNil)
            clear hs hm
            rintro - w43 hm a hs
            refine ⟨hm.sub sub_, ?_⟩
            refine hTake 24 hs rfl (by kernel_rfl) (Wnt.none rfl) rfl rfl (by intro w hm; replace hm : Mm _ _ _ w := hm; exact r_val hs tab rfl) (hm.sub sub_) ?_; clear hs a; intro a hs
            refine hTake 25 hs rfl (by kernel_rfl) (Wnt.none rfl) rfl rfl (by intro w hm; replace hm : Mm _ _ _ w := hm; exact r_val hs tab rfl) (hm.sub sub_) ?_; clear hs a; intro a hs
            refine hTake 26 hs rfl (by kernel_rfl) (Wnt.none rfl) rfl rfl (by intro w hm; replace hm : Mm _ _ _ w := hm; exact r_val hs tab rfl) (hm.sub sub_) ?_; clear hs a; intro a hs
            refine hEach [27] (by kernel_rfl) (eDoN hs rfl (Wnt.none rfl) rfl ds_ ?_ eNil)
            clear hs hm
            rintro - w47 hm a hs
            refine ⟨hm.sub sub_, ?_⟩
            refine hDone (by kernel_rfl) ?_
            exact And.intro rfl ⟨sA2, sc2, scs2, dA2, dc2, dcs2, hr11, hr19, hs.sub (Has.all ⟨rfl, trivial⟩), hm.sub sub_⟩
        · skip
          clear hs a
          rintro _ _ ⟨rfl, rfl⟩ a hs
          refine ⟨hm.sub sub_, ?_⟩
          refine hEach [6, 10] (by kernel_rfl) (eDo hs rfl (Wnt.none rfl) rfl rfl (RunV.does kv_) ?_ (eDo hs rfl (Wnt.none rfl) rfl rfl (by exact d_buildSlice hs rfl tab rfl rfl rfl rfl rfl rfl rfl rfl rfl hm) ?_ eNil))
          · skip
            clear hs a
            rintro _ _ ⟨rfl, rfl⟩ a hs
            refine ⟨hm.sub sub_, ?_⟩
            refine hEach [10] (by kernel_rfl) (eDo hs rfl (Wnt.none rfl) rfl rfl (by exact d_buildSlice hs rfl tab rfl rfl rfl rfl rfl rfl rfl rfl rfl hm) ?_ eNil)
            clear hs hm a
            rintro _ w30 ⟨g107, rfl, -, hm⟩ a hs
            refine ⟨hm.sub sub_, ?_⟩
            refine hEach [11] (by kernel_rfl) (eDo hs rfl (Wnt.none rfl) rfl rfl (d_append (A := x.sA) (n := x.r.ss.length) (c := x.sc) (news := [.int .i64 v]) hs rfl rfl rfl rfl rfl tab rfl rfl rfl rfl rfl hm mem_ hxs rfl (hm.ro (n := 1) mem_ (cutF_ok rfl)) rfl (by show (x.r.ss.length + 1) * 8 ≤ _; omega) (by omega)) ?_ eNil)
            clear hs
            rintro _ w1 ⟨sA2, sc2, scs2, rfl, hr11, hM⟩ a hs
            replace hm := hM _ rep_
            clear hM
            refine ⟨hm.sub sub_, ?_⟩
            refine hEach [19] (by kernel_rfl) (eDo hs rfl (Wnt.none rfl) rfl rfl (d_append (A := x.dA) (n := x.ws.length) (c := x.dc) (news := [slv wA t.length wc]) hs rfl rfl rfl rfl rfl tab rfl rfl rfl rfl rfl hm mem_ hxd rfl (hm.ro (n := 1) mem_ (cutF_ok rfl)) rfl (by show (x.ws.length + 1) * 24 ≤ _; omega) (by omega)) ?_ eNil)
            clear hs
            rintro _ w1 ⟨dA2, dc2, dcs2, rfl, hr19, hM⟩ a hs
            replace hm := hM _ rep_
            clear hM
            refine ⟨hm.sub sub_, ?_⟩
            refine hTake 20 hs rfl (by kernel_rfl) (Wnt.none rfl) rfl rfl (by intro w hm; replace hm : Mm _ _ _ w := hm; exact r_val hs tab rfl) (hm.sub sub_) ?_; clear hs a; intro a hs
            refine hTake 21 hs rfl (by kernel_rfl) (Wnt.none rfl) rfl rfl (by intro w hm; replace hm : Mm _ _ _ w := hm; exact r_val hs tab rfl) (hm.sub sub_) ?_; clear hs a; intro a hs
            refine hTake 22 hs rfl (by kernel_rfl) (Wnt.none rfl) rfl rfl (by intro w hm; replace hm : Mm _ _ _ w := hm; exact r_val hs tab rfl) (hm.sub sub_) ?_; clear hs a; intro a hs
            refine hEach [23] (by kernel_rfl) (eDoN hs rfl (Wnt.none rfl) rfl ds_ ?_ eNil)
            clear hs hm
            rintro - w43 hm a hs
            refine ⟨hm.sub sub_, ?_⟩
            refine hTake 24 hs rfl (by kernel_rfl) (Wnt.none rfl) rfl rfl (by intro w hm; replace hm : Mm _ _ _ w := hm; exact r_val hs tab rfl) (hm.sub sub_) ?_; clear hs a; intro a hs
            refine hTake 25 hs rfl (by kernel_rfl) (Wnt.none rfl) rfl rfl (by intro w hm; replace hm : Mm _ _ _ w := hm; exact r_val hs tab rfl) (hm.sub sub_) ?_; clear hs a; intro a hs
            refine hTake 26 hs rfl (by kernel_rfl) (Wnt.none rfl) rfl rfl (by intro w hm; replace hm : Mm _ _ _ w := hm; exact r_val hs tab rfl) (hm.sub sub_) ?_; clear hs a; intro a hs
            refine hEach [27] (by kernel_rfl) (eDoN hs rfl (Wnt.none rfl) rfl ds_ ?_ eNil)
            clear hs hm
            rintro - w47 hm a hs
            refine ⟨hm.sub sub_, ?_⟩
            refine hDone (by kernel_rfl) ?_
            exact And.intro rfl ⟨sA2, sc2, scs2, dA2, dc2, dcs2, hr11, hr19, hs.sub (Has.all ⟨rfl, trivial⟩), hm.sub sub_⟩
          · skip
            clear hs hm a
            rintro _ w30 ⟨g107, rfl, -, hm⟩ a hs
            refine ⟨hm.sub sub_, ?_⟩
            refine hEach [6] (by kernel_rfl) (eDo hs rfl (Wnt.none rfl) rfl rfl (RunV.does kv_) ?_ eNil)
            clear hs a
            rintro _ _ ⟨rfl, rfl⟩ a hs
            refine ⟨hm.sub sub_, ?_⟩
            refine hEach [11] (by kernel_rfl) (eDo hs rfl (Wnt.none rfl) rfl rfl (d_append (A := x.sA) (n := x.r.ss.length) (c := x.sc) (news := [.int .i64 v]) hs rfl rfl rfl rfl rfl tab rfl rfl rfl rfl rfl hm mem_ hxs rfl (hm.ro (n := 1) mem_ (cutF_ok rfl)) rfl (by show (x.r.ss.length + 1) * 8 ≤ _; omega) (by omega)) ?_ eNil)
            clear hs
            rintro _ w1 ⟨sA2, sc2, scs2, rfl, hr11, hM⟩ a hs
            replace hm := hM _ rep_
            clear hM
            refine ⟨hm.sub sub_, ?_⟩
            refine hEach [19] (by kernel_rfl) (eDo hs rfl (Wnt.none rfl) rfl rfl (d_append (A := x.dA) (n := x.ws.length) (c := x.dc) (news := [slv wA t.length wc]) hs rfl rfl rfl rfl rfl tab rfl rfl rfl rfl rfl hm mem_ hxd rfl (hm.ro (n := 1) mem_ (cutF_ok rfl)) rfl (by show (x.ws.length + 1) * 24 ≤ _; omega) (by omega)) ?_ eNil)
            clear hs
            rintro _ w1 ⟨dA2, dc2, dcs2, rfl, hr19, hM⟩ a hs
            replace hm := hM _ rep_
            clear hM
            refine ⟨hm.sub sub_, ?_⟩
            refine hTake 20 hs rfl (by kernel_rfl) (Wnt.none rfl) rfl rfl (by intro w hm; replace hm : Mm _ _ _ w := hm; exact r_val hs tab rfl) (hm.sub sub_) ?_; clear hs a; intro a hs
            refine hTake 21 hs rfl (by kernel_rfl) (Wnt.none rfl) rfl rfl (by intro w hm; replace hm : Mm _ _ _ w := hm; exact r_val hs tab rfl) (hm.sub sub_) ?_; clear hs a; intro a hs
            refine hTake 22 hs rfl (by kernel_rfl) (Wnt.none rfl) rfl rfl (by intro w hm; replace hm : Mm _ _ _ w := hm; exact r_val hs tab rfl) (hm.sub sub_) ?_; clear hs a; intro a hs
            refine hEach [23] (by kernel_rfl) (eDoN hs rfl (Wnt.none rfl) rfl ds_ ?_ eNil)
            clear hs hm
            rintro - w43 hm a hs
            refine ⟨hm.sub sub_, ?_⟩
            refine hTake 24 hs rfl (by kernel_rfl) (Wnt.none rfl) rfl rfl (by intro w hm; replace hm : Mm _ _ _ w := hm; exact r_val hs tab rfl) (hm.sub sub_) ?_; clear hs a; intro a hs
            refine hTake 25 hs rfl (by kernel_rfl) (Wnt.none rfl) rfl rfl (by intro w hm; replace hm : Mm _ _ _ w := hm; exact r_val hs tab rfl) (hm.sub sub_) ?_; clear hs a; intro a hs
            refine hTake 26 hs rfl (by kernel_rfl) (Wnt.none rfl) rfl rfl (by intro w hm; replace hm : Mm _ _ _ w := hm; exact r_val hs tab rfl) (hm.sub sub_) ?_; clear hs a; intro a hs
            refine hEach [27] (by kernel_rfl) (eDoN hs rfl (Wnt.none rfl) rfl ds_ ?_ eNil)
            clear hs hm
            rintro - w47 hm a hs
            refine ⟨hm.sub sub_, ?_⟩
            refine hDone (by kernel_rfl) ?_
            exact And.intro rfl ⟨sA2, sc2, scs2, dA2, dc2, dcs2, hr11, hr19, hs.sub (Has.all ⟨rfl, trivial⟩), hm.sub sub_⟩
    clear hs hm a
    rintro a w ⟨sA2, sc2, scs2, dA2, dc2, dcs2, hr11, hr19, hs, hm⟩
    repeat (first | ((with_reducible refine toL hm ?_); (first | refine oneV hs gw_ rfl rfl (by intro w hm; (first | exact kv_ | exact kb2_ | exact ksl_ | exact r_lenM hs rfl rfl (by assumption) hm (by assumption))) ?_ | refine oN_ ?_); clear hs a; intro a hs) | ((with_reducible apply lCons); first | (refine dv hs gw_ rfl rfl da_ ?_; clear hs hm a; rintro _ w ⟨g, rfl, -, hm⟩ a hs) | (refine stn hs rfl rfl ds_ ?_; clear hs hm a; rintro - w hm a hs) ) | refine sx_ ?_ | refine cx_ ?_)
    refine gRet1 hs rfl rfl ⟨_, rfl, rfl, hm.fr, fun _ => ?_⟩
    obtain ⟨y, hy⟩ : ∃ y : RdX, y = ⟨x.g, x.m, x.cA, x.cc, x.ccs, sA2, sc2, scs2, dA2, dc2, dcs2, x.jA, x.jc, x.jcs, x.ws ++ [⟨wA, wc, wcs, t⟩], x.line, { x.r with ss := x.r.ss ++ [v], ws := x.r.ws ++ [t] }⟩ := ⟨_, rfl⟩
    have l1 : (x.r.ss ++ [v]).length = x.r.ss.length + 1 := by rw [List.length_append]; rfl
    have l2 : (x.ws ++ [(⟨wA, wc, wcs, t⟩ : WS)]).length = x.ws.length + 1 := by rw [List.length_append]; rfl
    have hmy : Mm S0 wB (⟨wA, 74, wcs⟩ :: y.M) w := by
      rw [hy]
      unfold RdX.M RdX.hd
      dsimp only
      rw [l1, l2]
      exact hm
    have hmy2 := hmy.sub (List.sublist_cons_self _ _)
    rw [← hS0] at hmy2
    obtain ⟨p1, p2, p3, p4, p5⟩ := RdX.after h hmy2 (by rw [hy])
    refine ⟨y, by rw [hy], by rw [hy], by rw [hy], by rw [hy], ⟨p4, by rw [hy]; rw [hy] at p3; exact p3, p2, by rw [hy]; exact h.c, ?_, ?_, by rw [hy]; exact h.j, by rw [hy]; dsimp only; rw [List.map_append, h.ws]; rfl, ?_, ?_⟩, p1⟩
    · rw [hy]
      dsimp only
      rw [l1, show ints (x.r.ss ++ [v]) = ints x.r.ss ++ [.int .i64 v] by unfold ints; rw [List.map_append]; rfl]
      exact hr11
    · rw [hy]
      dsimp only
      rw [l2, List.map_append]
      exact hr19
    · intro r hr
      have hr' : r ∈ x.ws ∨ r = ⟨wA, wc, wcs, t⟩ := by
        rw [hy] at hr
        rcases List.mem_append.1 hr with hr | hr
        · exact .inl hr
        · exact .inr (List.mem_singleton.1 hr)
      rcases hr' with hr' | rfl
      · exact p5 r hr'
      · refine ⟨hmy.rd_row (List.mem_cons_self ..) hrw, fun g hg => ⟨fun hd => ?_, Hp.lt (hmy.me _ (List.mem_cons_self ..)) hg⟩⟩
        rcases hd with ⟨z, hz, e⟩ | hd
        · exact hmy.dj.1 z hz g hg e
        · rcases hmy.ow _ (List.mem_cons_self ..) g hg with h1 | h1
          · have := h.ml.lt
            rw [hd, hy] at h1
            dsimp only at h1
            omega
          · rw [hd, hy] at h1
            exact hnm h1
    · rw [hy]
      dsimp only
      rw [l1, l2]
      exact ⟨z1, by omega, by omega, z4, z5⟩
end Go.Proofs.YtajkekhnfobgiaaGreatDoor

/- Taking a word off an instruction's line; whether a word is a label. -/
namespace Go.Proofs.YtajkekhnfobgiaaGreatDoor
set_option maxRecDepth 20000
open Go.RowKit

theorem cutp_c (s p : Tx) (w : World) : Ret Tryz.prog 86 [txv s, txv p] w (fun u w' => u = .tuple #[txv (Lib.trimPrefix s p), .bool (p.isPrefixOf s)] ∧ Pu w w') := by
  have h := Tryz.strings_CutPrefix ⟨s.toArray⟩ ⟨p.toArray⟩ w
  rw [ba_l, ba_l] at h
  exact ⟨Calls.mono h fun _ _ ⟨h1, h2⟩ => ⟨_, h1, rfl, h2 ▸ Fr.refl _ _⟩⟩
theorem cuts_c (s p : Tx) (w : World) (hs : s.length ≤ 1000000) : Ret Tryz.prog 65 [txv s, txv p] w (fun u w' => u = .tuple #[txv (Lib.trimSuffix s p), .bool (p.isSuffixOf s)] ∧ Pu w w') := by
  have h := Tryz.strings_CutSuffix ⟨s.toArray⟩ ⟨p.toArray⟩ w (by rw [ba_s]; omega)
  rw [ba_l, ba_l] at h
  exact ⟨Calls.mono h fun _ _ ⟨h1, h2⟩ => ⟨_, h1, rfl, h2 ▸ Fr.refl _ _⟩⟩
theorem trimP_len (s p : Tx) : (Lib.trimPrefix s p).length ≤ s.length := by
  unfold Lib.trimPrefix
  split
  · rw [List.length_drop]; omega
  · exact Nat.le_refl _
section
variable {D : Nat → Prop} {w0 : World} {M : List Hp}
theorem tk_nil (gw gi gf pos : Nat) (A : Option Addr) (c : Nat) (ics : List Value) (f : Bool) (pre : Tx) (most : Int) (wB : World) (hm0 : Mm D w0 (⟨some gw, 40, [.slice A 0 c]⟩ :: ⟨some gi, 54, ics⟩ :: ⟨some gf, 4, [.bool f]⟩ :: M) wB) :
    Ret Tryz.prog 85 [txv pre, .int .i64 most, .pointer (some ⟨gi, pos, none⟩), .pointer (some ⟨gw, 0, none⟩), .pointer (some ⟨gf, 0, none⟩)] wB (fun u w' => u = .bool false ∧ Mm D w0 (⟨some gw, 40, [.slice A 0 c]⟩ :: ⟨some gi, 54, ics⟩ :: ⟨some gf, 4, [.bool f]⟩ :: M) w') := by
  refine enterR Tryz.func85 rfl rfl rfl fun a hs hm => ?_
  clear hm
  have hm := hm0
  repeat (first | ((with_reducible refine toL hm ?_); (first | refine oneV hs gw_ rfl rfl (by intro w hm; (first | exact kv_ | exact ksl_)) ?_ | refine oN_ ?_); clear hs a; intro a hs) | ((with_reducible apply lCons); first | (refine dv hs gw_ rfl rfl da_ ?_; clear hs hm a; rintro _ w ⟨g, rfl, -, hm⟩ a hs) | (refine stn hs rfl rfl ds_ ?_; clear hs hm a; rintro - w hm a hs) ) | refine sx_ ?_ | refine cx_ ?_)
  exact gRet1 hs rfl rfl ⟨rfl, hm⟩
set_option maxHeartbeats 8000000 in
theorem tk_cons (gw gi gf pos : Nat) (b o : Nat) (c : Nat) (s : Tx) (t : List Tx) (ics : List Value) (f : Bool) (pre : Tx) (most : Int) (wB : World) (hm0 : Mm D w0 (⟨some gw, 40, [.slice (some ⟨b, o, none⟩) (t.length + 1) c]⟩ :: ⟨some gi, 54, ics⟩ :: ⟨some gf, 4, [.bool f]⟩ :: M) wB)
    (hro : Ro w0 b o ((s :: t).map txv)) (hnb : ¬ D b) (hl : s.length ≤ 5000) (hi : ics.length = 5) (hp : pos < 5) :
    Ret Tryz.prog 85 [txv pre, .int .i64 most, .pointer (some ⟨gi, pos, none⟩), .pointer (some ⟨gw, 0, none⟩), .pointer (some ⟨gf, 0, none⟩)] wB (fun u w' => u = .bool (pre.isPrefixOf s && (decF (Lib.trimPrefix s pre)).isSome) ∧ Mm D w0 (⟨some gw, 40, [.slice (if c = 1 then some ⟨b, o, none⟩ else some ⟨b, o + 1, none⟩) t.length (c - 1)]⟩ :: ⟨some gi, 54, ics.set pos (.int .i64 ((decF (Lib.trimPrefix s pre)).getD 0))⟩ :: ⟨some gf, 4, [.bool (f || decide (most < (decF (Lib.trimPrefix s pre)).getD 0))]⟩ :: M) w') := by
  have hcp := fun w => cutp_c s pre w
  have hdc := fun w => dec_c (Lib.trimPrefix s pre) w (by have := trimP_len s pre; omega)
  unfold dcV at hdc
  obtain ⟨pf, hpf⟩ : ∃ z, pre.isPrefixOf s = z := ⟨_, rfl⟩
  obtain ⟨rs, hrs⟩ : ∃ z, Lib.trimPrefix s pre = z := ⟨_, rfl⟩
  obtain ⟨is, his⟩ : ∃ z, (decF (Lib.trimPrefix s pre)).isSome = z := ⟨_, rfl⟩
  obtain ⟨n, hn⟩ : ∃ z, (decF (Lib.trimPrefix s pre)).getD 0 = z := ⟨_, rfl⟩
  rw [hpf] at hcp
  rw [his, hn] at hdc
  rw [hpf, his, hn]
  rw [hrs] at hcp hdc
  clear hpf hrs his hn
  have e1 : ((s :: t).map txv)[0]? = some (txv s) := rfl
  have hA : (if c = (1 : Int).toNat then some ⟨b, o, none⟩ else (some ⟨b, o, none⟩ : Option Addr).map (·.add ((1 : Int).toNat * 1))) = (if c = 1 then some ⟨b, o, none⟩ else some ⟨b, o + 1, none⟩ : Option Addr) := by
    show (if c = 1 then _ else _) = _
    split <;> rfl
  rw [← hA]
  by_cases q : most < n
  · rw [decide_eq_true q]
    cases f <;> cases pf <;> cases is
    all_goals
      refine enterR Tryz.func85 rfl rfl rfl fun a hs hm => ?_
      clear hm
      have hm := hm0
      repeat (first | ((with_reducible refine toL hm ?_); (first | refine oneV hs gw_ rfl rfl (by intro w hm; (first | exact kv_ | exact ksl_)) ?_ | refine oN_ ?_); clear hs a; intro a hs) | ((with_reducible apply lCons); first | (refine dv hs gw_ rfl rfl da_ ?_; clear hs hm a; rintro _ w ⟨g, rfl, -, hm⟩ a hs) | (refine stn hs rfl rfl ds_ ?_; clear hs hm a; rintro - w hm a hs) | (refine dv hs gw_ rfl rfl (d_call hs rfl rfl rfl (pl 86 rfl) (hcp _)) ?_; clear hs a; rintro _ w ⟨rfl, hf⟩ a hs; replace hm := hm.pu hf; clear hf) | (refine dv hs gw_ rfl rfl (d_call hs rfl rfl rfl (pl 83 rfl) (hdc _)) ?_; clear hs a; rintro _ w ⟨rfl, hf⟩ a hs; replace hm := hm.pu hf; clear hf)) | refine sx_ ?_ | refine cx_ ?_)
      exact gRet1 hs rfl rfl ⟨rfl, hm⟩
  · rw [decide_eq_false q]
    cases f <;> cases pf <;> cases is
    all_goals
      refine enterR Tryz.func85 rfl rfl rfl fun a hs hm => ?_
      clear hm
      have hm := hm0
      repeat (first | ((with_reducible refine toL hm ?_); (first | refine oneV hs gw_ rfl rfl (by intro w hm; (first | exact kv_ | exact ksl_)) ?_ | refine oN_ ?_); clear hs a; intro a hs) | ((with_reducible apply lCons); first | (refine dv hs gw_ rfl rfl da_ ?_; clear hs hm a; rintro _ w ⟨g, rfl, -, hm⟩ a hs) | (refine stn hs rfl rfl ds_ ?_; clear hs hm a; rintro - w hm a hs) | (refine dv hs gw_ rfl rfl (d_call hs rfl rfl rfl (pl 86 rfl) (hcp _)) ?_; clear hs a; rintro _ w ⟨rfl, hf⟩ a hs; replace hm := hm.pu hf; clear hf) | (refine dv hs gw_ rfl rfl (d_call hs rfl rfl rfl (pl 83 rfl) (hdc _)) ?_; clear hs a; rintro _ w ⟨rfl, hf⟩ a hs; replace hm := hm.pu hf; clear hf)) | refine sx_ ?_ | refine cx_ ?_)
      exact gRet1 hs rfl rfl ⟨rfl, hm⟩
end

set_option maxHeartbeats 4000000 in
theorem nm_c (s : Tx) (wB : World) (hl : s.length ≤ 100000) : Ret Tryz.prog 66 [txv s] wB (fun u w' => u = .bool (nmB s) ∧ Pu wB w') := by
  have hsz := ba_s s
  have htr := fun w => trim_c s alns w (by omega) (by decide) (by decide)
  have htd := trim_alns s
  by_cases h8 : 8 < s.length
  · rw [show nmB s = false by unfold nmB; rw [decide_eq_false (by omega), Bool.and_false]]
    refine enterR Tryz.func66 rfl rfl rfl fun a hs hm => ?_
    repeat (first | ((with_reducible first | refine toL hm ?_ | refine toQ ?_); (first | refine oneV hs gw_ rfl rfl (by intro w hm; (first | exact kv_ | exact r_sidx (k := 0) hs rfl rfl rfl tab rfl rfl (by assumption))) ?_ | refine oN_ ?_); clear hs a; intro a hs) | ((with_reducible apply lCons); first | (refine dv hs gw_ rfl rfl da_ ?_; clear hs hm a; rintro _ w ⟨g, rfl, -, hm⟩ a hs) | (refine stn hs rfl rfl ds_ ?_; clear hs hm a; rintro - w hm a hs) ) | ((with_reducible apply qNil); clear hm; intro w hm) | ((with_reducible refine cQuiet hm ?_ ?_ ?_ ?_); rfl; kernel_rfl; kernel_rfl) | refine sx_ ?_ | refine cx_ ?_)
    exact gRet1 hs rfl rfl ⟨rfl, hm.fr⟩
  cases s with
  | nil =>
    refine enterR Tryz.func66 rfl rfl rfl fun a hs hm => ?_
    rw [List.length_nil] at hsz
    repeat (first | ((with_reducible first | refine toL hm ?_ | refine toQ ?_); (first | refine oneV hs gw_ rfl rfl (by intro w hm; (first | exact kv_ | exact r_sidx (k := 0) hs rfl rfl rfl tab rfl rfl (by assumption))) ?_ | refine oN_ ?_); clear hs a; intro a hs) | ((with_reducible apply lCons); first | (refine dv hs gw_ rfl rfl da_ ?_; clear hs hm a; rintro _ w ⟨g, rfl, -, hm⟩ a hs) | (refine stn hs rfl rfl ds_ ?_; clear hs hm a; rintro - w hm a hs) ) | ((with_reducible apply qNil); clear hm; intro w hm) | ((with_reducible refine cQuiet hm ?_ ?_ ?_ ?_); rfl; kernel_rfl; kernel_rfl) | refine sx_ ?_ | refine cx_ ?_)
    exact gRet1 hs rfl rfl ⟨rfl, hm.fr⟩
  | cons c t =>
    have hc : (c :: t)[0]? = some c := rfl
    have hln : (c :: t).length = t.length + 1 := rfl
    have hn1 : nmB (c :: t) = (lowB c && (c :: t).all alnB) := by unfold nmB; rw [decide_eq_true (by omega), Bool.and_true]; rfl
    rw [hn1]
    clear hn1
    have hlc : lowB c = decide (97 ≤ c.toNat ∧ c.toNat ≤ 122) := rfl
    have ha : (c :: t).all alnB = decide ((c :: t).all alnB = true) := by cases (c :: t).all alnB <;> rfl
    generalize (c :: t) = s at *
    by_cases h1 : c.toNat < 97
    · rw [hlc, decide_eq_false (by omega), Bool.false_and]
      refine enterR Tryz.func66 rfl rfl rfl fun a hs hm => ?_
      repeat (first | ((with_reducible first | refine toL hm ?_ | refine toQ ?_); (first | refine oneV hs gw_ rfl rfl (by intro w hm; (first | exact kv_ | exact r_sidx (k := 0) hs rfl rfl rfl tab rfl rfl (by assumption))) ?_ | refine oN_ ?_); clear hs a; intro a hs) | ((with_reducible apply lCons); first | (refine dv hs gw_ rfl rfl da_ ?_; clear hs hm a; rintro _ w ⟨g, rfl, -, hm⟩ a hs) | (refine stn hs rfl rfl ds_ ?_; clear hs hm a; rintro - w hm a hs) ) | ((with_reducible apply qNil); clear hm; intro w hm) | ((with_reducible refine cQuiet hm ?_ ?_ ?_ ?_); rfl; kernel_rfl; kernel_rfl) | refine sx_ ?_ | refine cx_ ?_)
      exact gRet1 hs rfl rfl ⟨rfl, hm.fr⟩
    by_cases h2 : 122 < c.toNat
    · rw [hlc, decide_eq_false (by omega), Bool.false_and]
      refine enterR Tryz.func66 rfl rfl rfl fun a hs hm => ?_
      repeat (first | ((with_reducible first | refine toL hm ?_ | refine toQ ?_); (first | refine oneV hs gw_ rfl rfl (by intro w hm; (first | exact kv_ | exact r_sidx (k := 0) hs rfl rfl rfl tab rfl rfl (by assumption))) ?_ | refine oN_ ?_); clear hs a; intro a hs) | ((with_reducible apply lCons); first | (refine dv hs gw_ rfl rfl da_ ?_; clear hs hm a; rintro _ w ⟨g, rfl, -, hm⟩ a hs) | (refine stn hs rfl rfl ds_ ?_; clear hs hm a; rintro - w hm a hs) ) | ((with_reducible apply qNil); clear hm; intro w hm) | ((with_reducible refine cQuiet hm ?_ ?_ ?_ ?_); rfl; kernel_rfl; kernel_rfl) | refine sx_ ?_ | refine cx_ ?_)
      exact gRet1 hs rfl rfl ⟨rfl, hm.fr⟩
    rw [hlc, decide_eq_true (by omega), Bool.true_and]
    by_cases h3 : s.all alnB = true
    · rw [h3]
      rw [htd.2 h3] at htr
      refine enterR Tryz.func66 rfl rfl rfl fun a hs hm => ?_
      repeat (first | ((with_reducible first | refine toL hm ?_ | refine toQ ?_); (first | refine oneV hs gw_ rfl rfl (by intro w hm; (first | exact kv_ | exact r_sidx (k := 0) hs rfl rfl rfl tab rfl rfl (by assumption))) ?_ | refine oN_ ?_); clear hs a; intro a hs) | ((with_reducible apply lCons); first | (refine dv hs gw_ rfl rfl da_ ?_; clear hs hm a; rintro _ w ⟨g, rfl, -, hm⟩ a hs) | (refine stn hs rfl rfl ds_ ?_; clear hs hm a; rintro - w hm a hs) | (refine dv hs gw_ rfl rfl (d_call hs rfl rfl rfl (pl 82 rfl) (htr _)) ?_; clear hs a; rintro _ w ⟨rfl, hf⟩ a hs; replace hm := hm.pu hf; clear hf)) | ((with_reducible apply qCons); first | (refine qwcall hs gw_ rfl rfl rfl rfl rfl (pl 82 rfl) (by intro w hm; exact Ret.mono (htr _) (fun _ _ ⟨h1, h2⟩ => ⟨h1, hm.pu h2⟩)) ?_; clear hs a; intro a hs)) | ((with_reducible apply qNil); clear hm; intro w hm) | ((with_reducible refine cQuiet hm ?_ ?_ ?_ ?_); rfl; kernel_rfl; kernel_rfl) | refine sx_ ?_ | refine cx_ ?_)
      rw [sEE] at hs
      repeat (first | ((with_reducible first | refine toL hm ?_ | refine toQ ?_); (first | refine oneV hs gw_ rfl rfl (by intro w hm; (first | exact kv_ | exact r_sidx (k := 0) hs rfl rfl rfl tab rfl rfl (by assumption))) ?_ | refine oN_ ?_); clear hs a; intro a hs) | ((with_reducible apply lCons); first | (refine dv hs gw_ rfl rfl da_ ?_; clear hs hm a; rintro _ w ⟨g, rfl, -, hm⟩ a hs) | (refine stn hs rfl rfl ds_ ?_; clear hs hm a; rintro - w hm a hs) ) | ((with_reducible apply qNil); clear hm; intro w hm) | ((with_reducible refine cQuiet hm ?_ ?_ ?_ ?_); rfl; kernel_rfl; kernel_rfl) | refine sx_ ?_ | refine cx_ ?_)
      exact gRet1 hs rfl rfl ⟨rfl, hm.fr⟩
    · have h4 := sEqF (l := Lib.trimS s alns) (m := []) fun e => h3 (htd.1 e)
      rw [ha, decide_eq_false h3]
      refine enterR Tryz.func66 rfl rfl rfl fun a hs hm => ?_
      repeat (first | ((with_reducible first | refine toL hm ?_ | refine toQ ?_); (first | refine oneV hs gw_ rfl rfl (by intro w hm; (first | exact kv_ | exact r_sidx (k := 0) hs rfl rfl rfl tab rfl rfl (by assumption))) ?_ | refine oN_ ?_); clear hs a; intro a hs) | ((with_reducible apply lCons); first | (refine dv hs gw_ rfl rfl da_ ?_; clear hs hm a; rintro _ w ⟨g, rfl, -, hm⟩ a hs) | (refine stn hs rfl rfl ds_ ?_; clear hs hm a; rintro - w hm a hs) | (refine dv hs gw_ rfl rfl (d_call hs rfl rfl rfl (pl 82 rfl) (htr _)) ?_; clear hs a; rintro _ w ⟨rfl, hf⟩ a hs; replace hm := hm.pu hf; clear hf)) | ((with_reducible apply qCons); first | (refine qwcall hs gw_ rfl rfl rfl rfl rfl (pl 82 rfl) (by intro w hm; exact Ret.mono (htr _) (fun _ _ ⟨h1, h2⟩ => ⟨h1, hm.pu h2⟩)) ?_; clear hs a; intro a hs)) | ((with_reducible apply qNil); clear hm; intro w hm) | ((with_reducible refine cQuiet hm ?_ ?_ ?_ ?_); rfl; kernel_rfl; kernel_rfl) | refine sx_ ?_ | refine cx_ ?_)
      rw [h4] at hs
      repeat (first | ((with_reducible first | refine toL hm ?_ | refine toQ ?_); (first | refine oneV hs gw_ rfl rfl (by intro w hm; (first | exact kv_ | exact r_sidx (k := 0) hs rfl rfl rfl tab rfl rfl (by assumption))) ?_ | refine oN_ ?_); clear hs a; intro a hs) | ((with_reducible apply lCons); first | (refine dv hs gw_ rfl rfl da_ ?_; clear hs hm a; rintro _ w ⟨g, rfl, -, hm⟩ a hs) | (refine stn hs rfl rfl ds_ ?_; clear hs hm a; rintro - w hm a hs) ) | ((with_reducible apply qNil); clear hm; intro w hm) | ((with_reducible refine cQuiet hm ?_ ?_ ?_ ?_); rfl; kernel_rfl; kernel_rfl) | refine sx_ ?_ | refine cx_ ?_)
      exact gRet1 hs rfl rfl ⟨rfl, hm.fr⟩
end Go.Proofs.YtajkekhnfobgiaaGreatDoor
