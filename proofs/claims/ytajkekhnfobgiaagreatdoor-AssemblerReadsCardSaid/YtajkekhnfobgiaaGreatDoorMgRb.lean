/- Texts put together: Asa, Asb, Eng14, Dck, Dck2, Pg0, Pg1, Pg2, Pg3, Pg4. -/
import Derived.Test.YtajkekhnfobgiaaGreatDoorShf
import Derived.Laws.Strings
import Derived.Lib.ItoaLen
import Derived.Laws.StructEq
import Derived.Test.YtajkekhnfobgiaaGreatDoorMgRa
/- A Builder that a call has made: what writes to it, what reads it; numbers as text. -/
namespace Go.Proofs.YtajkekhnfobgiaaGreatDoor
set_option maxRecDepth 20000
open Go.RowKit

abbrev BAt (B b : Nat) (p : Value) (bs : List Value) (w : World) : Prop := Lib.BuilderAt 69 5 B b p bs w
abbrev IsBd (B b : Nat) (bs : List Value) (w : World) : Prop := Lib.IsBuilder 69 5 B b bs w
theorem Tryz.sizeB : (Tryz.prog.info? 69).map (·.size) = some 2 := by kernel_rfl
theorem Tryz.liesB : liesAt Tryz.prog Tryz.prog.depth 69 (2 / Tryz.prog.cellsOf 69) 0 69 1 = true := by kernel_rfl
theorem Tryz.infoB : (Tryz.prog.info? 5).map (fun i => (i.zero, i.size, i.bytes)) = some (some (.int .u8 0), 1, 1) := by kernel_rfl
set_option maxRecDepth 100000 in
set_option maxHeartbeats 1000000 in
theorem cc_used (b : Nat) (w : World) (h0 : w.cell? ⟨b, 0, none⟩ = some (.pointer (some ⟨b, 0, none⟩))) :
    Calls Tryz.prog 56 #[.pointer (some ⟨b, 0, none⟩)] w fun e w' => e = .returned (.tuple #[]) ∧ w' = w := by
  obtain ⟨j, hj, _⟩ := Option.map_eq_some_iff.1 Tryz.sizeB
  go_enter Tryz.func56, Tryz.ntmps56
  go_wp2
  rw [Lib.run_neq_ptr_same w _ Tryz.underlying67 hj]
  go_wp2
  go_end0
  exact ⟨rfl, rfl⟩
set_option maxRecDepth 100000 in
set_option maxHeartbeats 1000000 in
theorem cc_fresh (b : Nat) (w : World) (h0 : w.cell? ⟨b, 0, none⟩ = some (.pointer none)) (hsh : w.shape? b = some (69, 2)) (hfz : w.frozen? ⟨b, 0, none⟩ = false) :
    Calls Tryz.prog 56 #[.pointer (some ⟨b, 0, none⟩)] w fun e w' => e = .returned (.tuple #[]) ∧ w' = w.setCell ⟨b, 0, none⟩ (.pointer (some ⟨b, 0, none⟩)) := by
  obtain ⟨j, hj, hjs⟩ := Option.map_eq_some_iff.1 Tryz.sizeB
  go_enter Tryz.func56, Tryz.ntmps56
  go_wp2
  rw [Lib.run_to_unsafe w ⟨b, 0, none⟩ Tryz.underlying67 Tryz.underlying119 hj (by rw [hjs]; decide) hsh (Nat.zero_lt_succ 1)]
  simp only [Result.andThen]
  rw [Oper.upon_value]
  go_wp2
  rw [run_callFunc_extern Tryz.func76 (by kernel_rfl) (by kernel_rfl) (by kernel_rfl) (e := Extern.AbiNoEscape.same) (by kernel_rfl)]
  rw [Lib.run_noEscape]
  simp only [Result.andThen]
  rw [Oper.upon_value]
  go_wp2
  rw [Lib.run_from_unsafe w ⟨b, 0, none⟩ Tryz.underlying119 Tryz.underlying67 hj hsh Tryz.liesB]
  simp only [Result.andThen]
  rw [Oper.upon_value]
  go_wp2
  go_end0
  exact ⟨rfl, rfl⟩
/-- blocks that are neither Builders nor rows of bytes stand as they stood -/
def Kept (w w' : World) : Prop := ∀ (g : Nat) (o : Obj), w.heap[g]? = some o → (∀ cs f, o ≠ .cells cs 69 f) → (∀ cs f, o ≠ .cells cs 5 f) → w'.heap[g]? = some o
theorem Kept.refl (w : World) : Kept w w := fun _ _ h _ _ => h
theorem Kept.trans {w w' w'' : World} (h : Kept w w') (k : Kept w' w'') : Kept w w'' := fun g o hb h1 h2 => k g o (h g o hb h1 h2) h1 h2
theorem Kept.blk {w w' : World} (h : Kept w w') {g : Nat} {t : TypeId} {cs : Array Value} (hb : Blk w g t cs) (h1 : t ≠ 69) (h2 : t ≠ 5) : Blk w' g t cs :=
  h g _ hb (fun cs' f e => by injection e with _ e2 _; exact h1 e2) (fun cs' f e => by injection e with _ e2 _; exact h2 e2)
theorem Kept.setCell {w : World} {b o : Nat} {v : Value} {cs : Array Value} (hb : Blk w b 69 cs) : Kept w (w.setCell ⟨b, o, none⟩ v) := fun g x h h1 _ => by
  have hne : g ≠ b := fun e => by
    subst e
    unfold Blk at hb
    rw [h] at hb
    injection hb with hb
    exact h1 _ _ hb
  exact (Below.heap_setCell _ _ _ _ hne).trans h
theorem cc_c (B b : Nat) (bs : List Value) (w : World) (h : IsBd B b bs w) :
    Calls Tryz.prog 56 #[.pointer (some ⟨b, 0, none⟩)] w fun e w' => e = .returned (.tuple #[]) ∧ (BAt B b (.pointer (some ⟨b, 0, none⟩)) bs w' ∧ Below B w w' ∧ Kept w w') := by
  rcases h with h | h
  · refine (cc_fresh b w h.cell0 h.shape h.frozen0).mono ?_
    rintro e w' ⟨rfl, rfl⟩
    obtain ⟨_, v, hb, _⟩ := id h
    exact ⟨rfl, h.used _, (Below.refl B w).setCell (p := ⟨b, 0, none⟩) h.1 _, Kept.setCell hb⟩
  · refine (cc_used b w h.cell0).mono ?_
    rintro e w' ⟨rfl, rfl⟩
    exact ⟨rfl, h, Below.refl B _, Kept.refl _⟩
set_option maxRecDepth 100000 in
set_option maxHeartbeats 2000000 in
theorem ws_c (B b : Nat) (bs : List Value) (s : ByteArray) (w : World) (h : IsBd B b bs w) (hlen : bs.length + s.size ≤ 140737488355328) (hBw : B ≤ w.heap.size) :
    Calls Tryz.prog 33 #[.pointer (some ⟨b, 0, none⟩), .string s] w fun e w' => e = .returned (.tuple #[.int .i64 s.size, .nilIface]) ∧ (BAt B b (.pointer (some ⟨b, 0, none⟩)) (bs ++ Lib.strCells s) w' ∧ Below B w w' ∧ Kept w w') := by
  obtain ⟨i0, hi, hz0, hz1, hz2⟩ := info_parts Tryz.infoB
  go_enter Tryz.func33, Tryz.ntmps33
  go_wp2_with (go_at_call 56; refine (cc_c B b bs _ h).mono ?_)
  rintro e w1 ⟨rfl, h1, hb1, hk1⟩
  obtain ⟨hB, v, hbk, hown, hne⟩ := h1
  have c0 : w1.cell? ⟨b, 0, none⟩ = some (.pointer (some ⟨b, 0, none⟩)) := by rw [Lib.cell_of_heap hbk]; rfl
  have c1 : w1.cell? ⟨b, 1, none⟩ = some v := by rw [Lib.cell_of_heap hbk]; rfl
  go_wp2_with (at_builtin; refine Lib.wpList_append_own_string _ rfl _ _ 43 9 rfl B 5 i0 Tryz.underlying43 Tryz.underlying9 hi hz0 hz1 hz2 _ _ _ rfl hown s rfl ?c3 ?c4 ?c5 ?_)
  case c3 => unfold maxLen; omega
  case c4 => omega
  case c5 => have := hb1.size; omega
  intro v' w2 hown' hgrow _
  have hlt : b < w1.heap.size := by
    rcases Nat.lt_or_ge b w1.heap.size with h' | h'
    · exact h'
    · simp [Array.getElem?_eq_none h'] at hbk
  have hb2 : w2.heap[b]? = some (.cells #[.pointer (some ⟨b, 0, none⟩), v] 69 (0, 0)) := by
    rw [hgrow.block b hlt (fun e => hne e.symm)]
    exact hbk
  have d0 : w2.cell? ⟨b, 0, none⟩ = some (.pointer (some ⟨b, 0, none⟩)) := by rw [Lib.cell_of_heap hb2]; rfl
  have d1 : w2.cell? ⟨b, 1, none⟩ = some v := by rw [Lib.cell_of_heap hb2]; rfl
  have f1 : w2.frozen? ⟨b, 1, none⟩ = false := Lib.frozen_of_heap hb2 1
  obtain ⟨ao, n', cap, rfl⟩ : ∃ ao n' cap, v' = .slice ao n' cap := by
    rcases hown'.2 with ⟨hv, _⟩ | ⟨g, cap, cur, hv, _⟩
    · exact ⟨_, _, _, hv⟩
    · exact ⟨_, _, _, hv⟩
  go_wp2
  go_ret2
  refine ⟨rfl, ?_, ?_, ?_⟩
  · exact Lib.BuilderAt.put (T := 69) (e := 5) hB hb2 (bs' := bs ++ Lib.strCells s) (by simpa [Lib.strCells_length] using hown') (by decide)
  · exact (hb1.grown hgrow (by have := hb1.size; omega) (fun k hk => (hown.lt k hk).1)).setCell (p := ⟨b, 1, none⟩) hB _
  · refine (hk1.trans fun g x hg h1 h2 => ?_).trans (Kept.setCell hb2)
    have hgl : g < w1.heap.size := (Array.getElem?_eq_some_iff.1 hg).1
    refine (hgrow.block g hgl fun e => ?_).trans hg
    rcases hown.2 with ⟨rfl, _⟩ | ⟨g', cap', cur', rfl, hg', hh', hc', _⟩
    · cases e
    · have e' : g = g' := Option.some.inj e
      subst e'
      rw [hg] at hh'
      injection hh' with hh'
      exact h2 _ _ hh'
end Go.Proofs.YtajkekhnfobgiaaGreatDoor

/- Texts: split at a byte, words, put together, cut, counted: the library's contracts as the walks want them. -/
namespace Go.Proofs.YtajkekhnfobgiaaGreatDoor
set_option maxRecDepth 20000
open Go.RowKit

def txv (l : List UInt8) : Value := .string ⟨l.toArray⟩
theorem ba_l (l : List UInt8) : (⟨l.toArray⟩ : ByteArray).data.toList = l := by simp
theorem ba_s (l : List UInt8) : (⟨l.toArray⟩ : ByteArray).size = l.length := by simp [ByteArray.size]
theorem ba_e (s : ByteArray) : (⟨s.data.toList.toArray⟩ : ByteArray) = s := by cases s; simp
theorem txv_of (s : ByteArray) : Value.string s = txv s.data.toList := by unfold txv; rw [ba_e]
/-- a row split at each byte c -/
def spl (c : UInt8) : List UInt8 → List (List UInt8)
  | [] => [[]]
  | b :: l => if b = c then [] :: spl c l else match spl c l with
    | h :: t => (b :: h) :: t
    | [] => [[b]]
theorem spl_cons (c b : UInt8) (l : List UInt8) : spl c (b :: l) = if b = c then [] :: spl c l else match spl c l with | h :: t => (b :: h) :: t | [] => [[b]] := rfl
theorem spl_ne (c : UInt8) (l : List UInt8) : spl c l ≠ [] := by
  cases l with
  | nil => simp [spl]
  | cons b l => unfold spl; split <;> (try split) <;> simp
theorem spl_miss (c : UInt8) : ∀ l : List UInt8, c ∉ l → spl c l = [l]
  | [], _ => rfl
  | b :: l, h => by
    rw [List.mem_cons, not_or] at h
    rw [spl_cons, if_neg (fun e => h.1 e.symm), spl_miss c l h.2]
theorem spl_hit (c : UInt8) : ∀ a b : List UInt8, c ∉ a → spl c (a ++ c :: b) = a :: spl c b
  | [], b, _ => by simp [spl]
  | x :: a, b, h => by
    rw [List.mem_cons, not_or] at h
    rw [List.cons_append, spl_cons, if_neg (fun e => h.1 e.symm), spl_hit c a b h.2]
theorem occ1 (l : List UInt8) (c : UInt8) (i : Nat) : Lib.occAt l [c] i = true ↔ l[i]? = some c := by
  unfold Lib.occAt
  rw [← List.head?_drop]
  cases h : l.drop i with
  | nil => simp
  | cons b t =>
    rw [show [c].isPrefixOf (b :: t) = (c == b) from by simp [List.isPrefixOf]]
    simp only [beq_iff_eq, List.head?_cons, Option.some.injEq]
    exact eq_comm
theorem splitK_spl (c : UInt8) : ∀ (n : Nat) (l : List UInt8), l.length < n → Lib.splitK [c] 0 (Lib.count l [c]) l = spl c l
  | 0, _, h => absurd h (Nat.not_lt_zero _)
  | n + 1, l, h => by
    rcases Lib.index_spec l [c] with ⟨h1, h2⟩ | ⟨i, h1, h2, h3, h4⟩
    · rw [Lib.count_miss h1, spl_miss c l]
      · rfl
      · intro hc
        obtain ⟨j, hj, e⟩ := List.getElem_of_mem hc
        have := (occ1 l c j).2 (by rw [List.getElem?_eq_getElem hj, e])
        rw [h2 j (by omega)] at this
        cases this
    · have h5 := (occ1 l c i).1 h3
      have hi : i < l.length := by
        rcases Nat.lt_or_ge i l.length with h | h
        · exact h
        · rw [List.getElem?_eq_none h] at h5; cases h5
      rw [List.getElem?_eq_getElem hi] at h5
      have hl : l = l.take i ++ c :: l.drop (i + 1) := by
        rw [← Option.some.inj h5, ← List.drop_eq_getElem_cons hi, List.take_append_drop]
      rw [Lib.count_hit (by simp) h1, Nat.add_comm]
      unfold Lib.splitK
      rw [h1, if_neg (by intro e; have := beq_iff_eq.1 e; omega)]
      simp only [Int.toNat_natCast, Nat.add_zero, List.length_singleton]
      rw [splitK_spl c n (l.drop (i + 1)) (by rw [List.length_drop]; omega)]
      conv => rhs; rw [hl]
      rw [spl_hit c (l.take i) _ ?_]
      intro hc
      obtain ⟨j, hj, e⟩ := List.getElem_of_mem hc
      rw [List.length_take] at hj
      have := (occ1 l c j).2 (by rw [List.getElem?_eq_getElem (by omega)]; rw [List.getElem_take] at e; rw [e])
      rw [h4 j (by omega)] at this
      cases this
theorem splitB_spl (c : UInt8) (l : List UInt8) : (Lib.splitB ⟨[c].toArray⟩ 0 (Lib.countB ⟨l.toArray⟩ ⟨[c].toArray⟩) ⟨l.toArray⟩).map Value.string = (spl c l).map txv := by
  have h := Lib.splitB_data ⟨[c].toArray⟩ 0 (Lib.countB ⟨l.toArray⟩ ⟨[c].toArray⟩) ⟨l.toArray⟩
  have h2 : ∀ s : ByteArray, Value.string s = txv s.data.toList := txv_of
  rw [show Value.string = fun s : ByteArray => txv s.data.toList from funext h2, show (fun s : ByteArray => txv s.data.toList) = txv ∘ fun s : ByteArray => s.data.toList from rfl, ← List.map_map, h]
  unfold Lib.countB
  rw [ba_l, ba_l, splitK_spl c _ l (Nat.lt_succ_self _)]
theorem spl_len (c : UInt8) (l : List UInt8) : (spl c l).length = Lib.countB ⟨l.toArray⟩ ⟨[c].toArray⟩ + 1 := by
  have h := congrArg List.length (splitK_spl c _ l (Nat.lt_succ_self _))
  rw [← h]
  unfold Lib.countB
  rw [ba_l, ba_l]
  clear h
  induction h : l.length using Nat.strongRecOn generalizing l with
  | _ n ih =>
    rcases Lib.index_spec l [c] with ⟨h1, h2⟩ | ⟨i, h1, h2, h3, h4⟩
    · rw [Lib.count_miss h1]; rfl
    · have h5 := (occ1 l c i).1 h3
      have hi : i < l.length := by
        rcases Nat.lt_or_ge i l.length with h | h
        · exact h
        · rw [List.getElem?_eq_none h] at h5; cases h5
      rw [Lib.count_hit (by simp) h1, Nat.add_comm 1]
      unfold Lib.splitK
      rw [h1, if_neg (by intro e; have := beq_iff_eq.1 e; omega)]
      simp only [Int.toNat_natCast, Nat.add_zero, List.length_cons]
      rw [ih _ (by rw [← h, List.length_drop]; omega) _ rfl]
/-- what the library's tables say -/
abbrev TabN (w : World) (n : String) (k : IntKind) (zs : List Int) : Prop := Lib.TabIs Tryz.prog w n k zs
theorem TabN.pu {w w' : World} {n : String} {k : IntKind} {zs : List Int} (h : TabN w n k zs) (hf : Pu w w') : TabN w' n k zs := by
  unfold TabN Lib.TabIs World.var? at *
  cases hg : Tryz.prog.globalNamed n with
  | none => rw [hg] at h; cases h
  | some g =>
    rw [hg] at h
    simp only [Option.bind_some] at h ⊢
    have hlt : g < w.heap.size := by
      rcases Nat.lt_or_ge g w.heap.size with h' | h'
      · exact h'
      · rw [Array.getElem?_eq_none h'] at h; cases h
    rw [hf.block g hlt (fun t => t)]
    exact h
structure TW (w : World) : Prop where
  pow : TabN w "internal/strconv.uint64pow10" .u64 Lib.pow10Tab
  asp : TabN w "strings.asciiSpace" .u8 Lib.asciiSpaceTab
  mxl : ∃ m, w.cell? ⟨1, 0, none⟩ = some (.int .i64 m)
theorem TW.pu {w w' : World} (h : TW w) (hf : Pu w w') : TW w' := ⟨h.pow.pu hf, h.asp.pu hf, by
  obtain ⟨m, hm⟩ := h.mxl
  exact ⟨m, hf.cell hm (fun t => t)⟩⟩
theorem Fr.grow (w : World) (k : Nat) (os : Array Obj) : Pu w (Go.Sort.grow (w.drewN k) os) :=
  ⟨rfl, rfl, rfl, by show w.heap.size ≤ (w.heap ++ os).size; rw [Array.size_append]; omega, fun i hi _ => by
    show (w.heap ++ os)[i]? = w.heap[i]?
    rw [Array.getElem?_append_left hi]⟩
/-- a slice of texts -/
structure SS where
  A : Option Addr
  c : Nat
  xs : List (List UInt8)
def SS.v (b : SS) : Value := .slice b.A b.xs.length b.c
def SS.ok (b : SS) (w : World) : Prop := b.xs.length ≤ b.c ∧ Rd w w.heap.size b.A (b.xs.map txv)
theorem SS.ok.pu {b : SS} {w w' : World} (h : b.ok w) (hf : Pu w w') : b.ok w' := ⟨h.1, hf.rd' h.2⟩
theorem ss_new (w : World) (xs : List (List UInt8)) (c : Nat) (hc : xs.length ≤ c) : (⟨some ⟨w.heap.size, 0, none⟩, c, xs⟩ : SS).ok (w.alloc (.cells (xs.map txv).toArray 9)) :=
  ⟨hc, ((Mm.nil (fun _ => False) w).alloc 9 (xs.map txv)).rd (List.mem_cons_self ..) (List.prefix_refl _)⟩
theorem itoa_c (n : Int) (w : World) (h0 : -9223372036854775808 ≤ n) (h1 : n ≤ 9223372036854775807) (ht : TW w) : Ret Tryz.prog 34 [.int .i64 n] w (fun u w' => u = txv (Lib.itoa n) ∧ Pu w w') :=
  ⟨Calls.mono (Tryz.strconv_Itoa n h0 h1 w ht.pow) fun _ _ ⟨h, k, os, e⟩ => ⟨_, h, rfl, e ▸ Fr.grow w k os⟩⟩
theorem split_c (c : UInt8) (l : List UInt8) (w : World) (hl : l.length < 4294967281) (ht : TW w) : Ret Tryz.prog 18 [txv l, txv [c]] w (fun u w' => ∃ r : SS, u = r.v ∧ r.ok w' ∧ r.xs = spl c l ∧ Pu w w') := by
  obtain ⟨m, hm⟩ := ht.mxl
  refine ⟨Calls.mono (Tryz.strings_Split ⟨l.toArray⟩ ⟨[c].toArray⟩ m w (by rw [ba_s]; exact hl) hm (by rw [ba_s]; exact Nat.le_refl 1)) ?_⟩
  rintro e w' ⟨rfl, rfl⟩
  rw [splitB_spl, ← spl_len c l]
  exact ⟨_, rfl, ⟨some ⟨w.heap.size, 0, none⟩, (spl c l).length, spl c l⟩, rfl, ss_new w _ _ (Nat.le_refl _), rfl, (Fr.refl _ w).alloc _⟩
theorem fields_c (l : List UInt8) (w : World) (hl : l.length < 4294967281) (ha : ∀ b ∈ l, b.toNat < 128) (ht : TW w) : Ret Tryz.prog 41 [txv l] w (fun u w' => ∃ r : SS, u = r.v ∧ r.ok w' ∧ r.xs = Lib.fields l ∧ Pu w w') := by
  refine ⟨Calls.mono (Tryz.strings_Fields_laid ⟨l.toArray⟩ w (by rw [ba_s]; exact hl) (fun j b hb => ha b (by rw [ba_l] at hb; exact List.mem_of_getElem? hb)) ht.asp) ?_⟩
  rintro e w' ⟨rfl, rfl⟩
  rw [ba_l]
  exact ⟨_, rfl, ⟨some ⟨w.heap.size, 0, none⟩, (Lib.fields l).length, Lib.fields l⟩, rfl, ss_new w _ _ (Nat.le_refl _), rfl, (Fr.refl _ w).alloc _⟩
theorem join_c (r : SS) (sep : List UInt8) (w : World) (hr : r.ok w) (hn : r.xs.length ≤ 1000000) (hlen : (Lib.join r.xs sep).length ≤ 140737488355328) : Ret Tryz.prog 19 [r.v, txv sep] w (fun u w' => u = txv (Lib.join r.xs sep) ∧ Pu w w') := by
  obtain ⟨A, c, xs⟩ := r
  cases hx : xs with
  | nil =>
    subst hx
    refine ⟨Calls.mono (Tryz.strings_Join_none A c ⟨sep.toArray⟩ w) ?_⟩
    rintro e w' ⟨rfl, rfl⟩
    exact ⟨_, rfl, rfl, Fr.refl _ _⟩
  | cons x t =>
    rw [← hx]
    have h0 : 0 < (xs.map txv).length := by rw [hx]; simp
    obtain ⟨b, o, rfl, hb, hro⟩ := hr.2.ro h0
    have e1 : (xs.map fun l => (⟨l.toArray⟩ : ByteArray)).map (·.data.toList) = xs := by rw [List.map_map]; exact (List.map_congr_left (g := id) (fun l _ => ba_l l)).trans (List.map_id xs)
    have h := Tryz.strings_Join b o c (xs.map fun l => ⟨l.toArray⟩) ⟨sep.toArray⟩ w (fun j x hx => hro j _ (by
      rw [List.getElem?_map] at hx ⊢
      cases hj : xs[j]? with
      | none => rw [hj] at hx; cases hx
      | some l => rw [hj] at hx; cases hx; rfl)) hb (by rw [List.length_map]; dsimp only at hn; omega) (by rw [List.length_map]; exact hr.1) (by rw [e1, ba_l]; exact hlen)
    rw [e1, ba_l, List.length_map] at h
    refine ⟨Calls.mono h ?_⟩
    rintro e w' ⟨rfl, hbl⟩
    exact ⟨_, rfl, rfl, ⟨hbl.os, hbl.tape, hbl.output, hbl.size, fun i hi _ => hbl.block i hi⟩⟩
end Go.Proofs.YtajkekhnfobgiaaGreatDoor

/- Elements of arrays that are values; structs of numbers compared; a block that a call has changed. -/
namespace Go.Proofs.YtajkekhnfobgiaaGreatDoor
set_option maxRecDepth 20000
open Go.RowKit

section
variable (T : List (Nat × TI))
/-- are these fields equal: numbers and bools -/
def stEq : List (Bool × Nat × TypeId) → List Value → List Value → Option Bool
  | [], _, _ => some true
  | (true, off, t) :: r, xs, ys => match tlk T t with
    | some ⟨_, _, _, .int _⟩ => match xs[off]? with
      | some (.int k1 n) => match ys[off]? with
        | some (.int k2 m) => bif kEq k1 k2 then match stEq r xs ys with
          | some b => some ((n == m) && b)
          | none => none else none
        | _ => none
      | _ => none
    | _ => none
  | _, _, _ => none
end
section
variable {P : Program} {T : List (Nat × TI)} {N : Nat} {L : List (Nat × Value)} {a : Act} {w w0 : World} {S : Nat → Prop} {M : List Hp} {o : Oper} {x y z : Operand} {v u : Value}
theorem run_partF {t : TypeId} {i : TI} {cs : Array Value} {off : Nat} (h : TOk P t i) (hf : i.d.flat = true) (hv : cs.toList[off]? = some v) : Sem.run P (part t cs off) w = .ok v w := by
  have hv' : cs[off]? = some v := by simpa using hv
  unfold part
  simp [run_isAgg h, hf, hv']
theorem run_eqFields_T (hT : TabOk P T) (d : Nat) (xs ys : Array Value) : ∀ (fs : List Field) (b : Bool), stEq T (fs.map fun f => (f.name != "_", f.offset, f.type)) xs.toList ys.toList = some b → Sem.run P (Op.eqFields (d + 1) xs ys fs) w = .ok b w
  | [], b, h => by
    simp only [List.map_nil, stEq, Option.some.injEq] at h
    subst h
    simp [Op.eqFields]
  | f :: r, b, h => by
    rw [List.map_cons] at h
    cases hn : (f.name != "_") with
    | false => rw [hn] at h; simp [stEq] at h
    | true =>
      rw [hn] at h
      simp only [stEq] at h
      have hn' : f.name ≠ "_" := by simpa using hn
      split at h
      · rename_i s1 b1 z1 k ht
        split at h
        · rename_i k1 n hx
          split at h
          · rename_i k2 m hy
            cases hk : kEq k1 k2 with
            | false => rw [hk] at h; cases h
            | true =>
              have e := kEq_ok hk
              subst e
              rw [hk, cond_true] at h
              split at h
              · rename_i b' hb
                obtain rfl := Option.some.inj h
                have ih := run_eqFields_T hT d xs ys r b' hb
                have hi := (hT _ _ ht).int rfl
                simp only [Op.eqFields, hn', ne_eq, not_false_eq_true, if_true, Sem.run_bind, run_partF (hT _ _ ht) rfl hx, run_partF (hT _ _ ht) rfl hy, Result.andThen_ok, run_equalIn_int w d f.type k2 k n m hi]
                cases hnm : (n == m)
                · simp
                · simp only [Bool.not_true, Bool.false_eq_true, if_false, Bool.true_and]
                  exact ih
              · cases h
          · cases h
        · cases h
      · cases h
theorem r_neqSt {t yt : TypeId} {xs ys : Array Value} {fl : List (Bool × Nat × TypeId)} {b : Bool} (hs : Sl N L a) (ho : o.op = .binOp .neq t x y yt) (hx : ev L x = some (.agg xs)) (hy : ev L y = some (.agg ys)) (hT : TabOk P T) (hg : P.eqGuardType P.depth t = false) (hp : P.stoodInHeld t = false) (hu : P.underlying t = some (.struct (P.fieldsOf t))) (hf : ((P.fieldsOf t).toList.map fun f => (f.name != "_", f.offset, f.type)) = fl) (he : stEq T fl xs.toList ys.toList = some b) : RunV P a o w (.bool (!b)) := by
  replace hx := hs.ev hx; replace hy := hs.ev hy
  have h1 := run_equalIn_struct w 9999 t xs ys hu hp
  rw [run_eqFields_T hT 9998 xs ys _ b (by rw [hf]; exact he)] at h1
  unfold RunV execOp
  simp [ho, hx, hy, run_eqGuard_agg w .neq t x y xs ys hg, run_neq_struct, h1]
theorem r_eqlSt {t yt : TypeId} {xs ys : Array Value} {fl : List (Bool × Nat × TypeId)} {b : Bool} (hs : Sl N L a) (ho : o.op = .binOp .eql t x y yt) (hx : ev L x = some (.agg xs)) (hy : ev L y = some (.agg ys)) (hT : TabOk P T) (hg : P.eqGuardType P.depth t = false) (hp : P.stoodInHeld t = false) (hu : P.underlying t = some (.struct (P.fieldsOf t))) (hf : ((P.fieldsOf t).toList.map fun f => (f.name != "_", f.offset, f.type)) = fl) (he : stEq T fl xs.toList ys.toList = some b) : RunV P a o w (.bool b) := by
  replace hx := hs.ev hx; replace hy := hs.ev hy
  have h1 := run_equalIn_struct w 9999 t xs ys hu hp
  rw [run_eqFields_T hT 9998 xs ys _ b (by rw [hf]; exact he)] at h1
  unfold RunV execOp
  simp [ho, hx, hy, run_eqGuard_agg w .eql t x y xs ys hg, run_eql_struct, h1]
/-- an element of an array that is a value -/
theorem r_idx {t e : TypeId} {i j : TI} {n k : Nat} {kk : IntKind} {ii : Int} {cs : List Value} (hs : Sl N L a) (ho : o.op = .index t x y) (hx : ev L x = some (.agg cs.toArray)) (hy : ev L y = some (.int kk ii)) (hii : litN ii = some k) (hT : TabOk P T) (hc : tlk T t = some i) (hd : i.d = .arr n e) (he : tlk T e = some j) (hf : j.d.flat = true) (hk : ii < (n : Int)) (hv : cs[k * j.sz]? = some v) : RunV P a o w v := by
  replace hx := hs.ev hx; replace hy := hs.ev hy
  have e1 := litN_ok hii
  subst e1
  have hp := run_partF (w := w) (cs := cs.toArray) (hT _ _ he) hf hv
  have hk' : k < n := by omega
  unfold RunV execOp
  simp [ho, hx, hy, Instr.index, asIntOf, run_und ((hT _ _ hc).arr hd), run_sizeOf (hT _ _ he), hk', hp]
theorem r_idxA {t e : TypeId} {i j : TI} {n k : Nat} {kk : IntKind} {ii : Int} {cs vs : List Value} (hs : Sl N L a) (ho : o.op = .index t x y) (hx : ev L x = some (.agg cs.toArray)) (hy : ev L y = some (.int kk ii)) (hii : litN ii = some k) (hT : TabOk P T) (hc : tlk T t = some i) (hd : i.d = .arr n e) (he : tlk T e = some j) (hf : j.d.flat = false) (hk : ii < (n : Int)) (hv : some ((cs.drop (k * j.sz)).take j.sz) = some vs) : RunV P a o w (.agg vs.toArray) := by
  replace hx := hs.ev hx; replace hy := hs.ev hy
  have e1 := litN_ok hii
  subst e1
  have hk' : k < n := by omega
  have hp : Sem.run P (part e cs.toArray (k * j.sz)) w = .ok (.agg vs.toArray) w := by
    obtain rfl := Option.some.inj hv
    unfold part
    simp [run_isAgg (hT _ _ he), hf, run_sizeOf (hT _ _ he)]
  unfold RunV execOp
  simp [ho, hx, hy, Instr.index, asIntOf, run_und ((hT _ _ hc).arr hd), run_sizeOf (hT _ _ he), hk', hp]
end
end Go.Proofs.YtajkekhnfobgiaaGreatDoor

/- The deck of redundancymake: numbers that are taken one after the other. -/
namespace Go.Proofs.YtajkekhnfobgiaaGreatDoor
set_option maxRecDepth 20000
open Go.RowKit
theorem ovXDck0_ {G H : Prop} (k : H) (s : H → G := by intro k; (with_reducible refine toL hm ?_); first | exact oneV hs gw_ rfl rfl (by intro w hm; (first | exact kv_ | exact r_remH hs rfl rfl rfl (by assumption) (by omega) (by omega) | exact r_rem64 hs rfl rfl rfl (by omega) (by omega) | exact r_rem hs rfl rfl rfl (by omega))) k | exact oneN hs rfl rfl rfl rfl rfl rfl rfl k | exact oneU hs rfl rfl rfl rfl rfl rfl k) : G := s k

def modF (v m : Int) : Int := if v.tmod m < 0 then v.tmod m + m else v.tmod m
theorem tmod_bd (v : Int) {m : Int} (hm : 0 < m) : -m < v.tmod m ∧ v.tmod m < m := by
  by_cases h : 0 ≤ v
  · rw [Int.tmod_eq_emod_of_nonneg h]
    have := Int.emod_nonneg v (b := m) (by omega)
    have := Int.emod_lt_of_pos v hm
    omega
  · have e : v.tmod m = -((-v).tmod m) := by rw [Int.neg_tmod, Int.neg_neg]
    rw [e, Int.tmod_eq_emod_of_nonneg (by omega)]
    have := Int.emod_nonneg (-v) (b := m) (by omega)
    have := Int.emod_lt_of_pos (-v) hm
    omega
theorem modF_bd (v : Int) {m : Int} (hm : 0 < m) : 0 ≤ modF v m ∧ modF v m < m := by
  have := tmod_bd v hm
  unfold modF
  split <;> omega
theorem rmod_c (v m : Int) (w : World) (hm : 0 < m) (hm' : m ≤ 2000000) : Ret Tryz.prog 42 [.int .i64 v, .int .i64 m] w (fun u w' => u = .int .i64 (modF v m) ∧ Pu w w') := by
  have hb := tmod_bd v hm
  generalize hR : modF v m = R
  unfold modF at hR
  refine enterR Tryz.func42 rfl rfl rfl fun a hs hm => ?_
  repeat (first | (refine ovXDck0_ ?_; clear hs a; intro a hs) | ((with_reducible apply lCons); first | (refine dv hs gw_ rfl rfl da_ ?_; clear hs hm a; rintro _ w ⟨g, rfl, -, hm⟩ a hs) | (refine stn hs rfl rfl ds_ ?_; clear hs hm a; rintro - w hm a hs)) | refine sc_ ?_)
  generalize v.tmod m = q at *
  by_cases h : q < 0
  · rw [if_pos h] at hR
    repeat (first | (refine ovXDck0_ ?_; clear hs a; intro a hs) | ((with_reducible apply lCons); first | (refine dv hs gw_ rfl rfl da_ ?_; clear hs hm a; rintro _ w ⟨g, rfl, -, hm⟩ a hs) | (refine stn hs rfl rfl ds_ ?_; clear hs hm a; rintro - w hm a hs)) | refine sc_ ?_)
    exact gRet1 hs rfl rfl ⟨by rw [← hR], hm.fr⟩
  · rw [if_neg h] at hR
    repeat (first | (refine ovXDck0_ ?_; clear hs a; intro a hs) | ((with_reducible apply lCons); first | (refine dv hs gw_ rfl rfl da_ ?_; clear hs hm a; rintro _ w ⟨g, rfl, -, hm⟩ a hs) | (refine stn hs rfl rfl ds_ ?_; clear hs hm a; rintro - w hm a hs)) | refine sc_ ?_)
    exact gRet1 hs rfl rfl ⟨by rw [← hR], hm.fr⟩
theorem mod_c (v m : Int) (w : World) (hm : 0 < m) (hm' : m ≤ 2000000) : Ret Tryz.prog 17 [.int .i64 v, .int .i64 m] w (fun u w' => u = .int .i64 (modF v m) ∧ Pu w w') := by
  have hr := fun w => rmod_c v m w hm hm'
  refine enterR Tryz.func17 rfl rfl rfl fun a hs hm => ?_
  repeat (first | (refine ov_ ?_; clear hs a; intro a hs) | ((with_reducible apply lCons); first | (refine dv hs gw_ rfl rfl da_ ?_; clear hs hm a; rintro _ w ⟨g, rfl, -, hm⟩ a hs) | (refine stn hs rfl rfl ds_ ?_; clear hs hm a; rintro - w hm a hs) | (refine dvc hs hm gw_ rfl rfl rfl rfl rfl (pl 42 rfl) (hr _) ?_; clear hs hm a; intro w hm a hs)) | refine sc_ ?_)
  exact gRet1 hs rfl rfl ⟨rfl, hm.fr⟩
/-- the deck's block -/
def dk (g : Nat) (A : Option Addr) (n c at_ : Nat) : Hp := ⟨some g, 58, [.slice A n c, .int .i64 (at_ : Int)]⟩
theorem mk_c (A : Option Addr) (n c : Nat) (w : World) : Ret Tryz.prog 10 [.slice A n c] w (fun u w' => ∃ g, u = .pointer (some ⟨g, 0, none⟩) ∧ New w w' [dk g A n c 0] ∧ Pu w w') := by
  refine enterR Tryz.func10 rfl rfl rfl fun a hs hm => ?_
  repeat (first | (refine ov_ ?_; clear hs a; intro a hs) | ((with_reducible apply lCons); first | (refine dv hs gw_ rfl rfl da_ ?_; clear hs hm a; rintro _ w ⟨g, rfl, -, hm⟩ a hs) | (refine stn hs rfl rfl ds_ ?_; clear hs hm a; rintro - w hm a hs)) | refine sc_ ?_)
  exact gRet1 hs rfl rfl ⟨g, rfl, hm.new (List.Sublist.refl _), hm.fr⟩
theorem dk_adopt {w w' : World} {M : List Hp} {h : Hp} (hm : Mm (fun _ => False) w M w') {g : Nat} (hg : h.g = some g) (hs : h.sat w) : Mm (own [h]) w (h :: M) w' := by
  have hlt : g < w.heap.size := Hp.lt hs hg
  refine ⟨fun x hx => ?_, ⟨hm.fr.os, hm.fr.tape, hm.fr.output, hm.fr.size, fun k hk _ => hm.fr.block k hk (fun t => t)⟩, ⟨fun x hx k hk e => ?_, hm.dj⟩, fun x hx k hk => ?_⟩
  · rcases List.mem_cons.1 hx with rfl | hx
    · exact Hp.sat_fr hm.fr hs fun _ _ t => t
    · exact hm.me x hx
  · rw [hg] at hk
    obtain rfl := Option.some.inj hk
    rcases hm.ow x hx _ e with h | h
    · omega
    · exact h
  · rcases List.mem_cons.1 hx with rfl | hx
    · exact .inr ⟨_, List.mem_singleton.2 rfl, hk⟩
    · rcases hm.ow x hx k hk with h | h
      · exact .inl h
      · exact h.elim
theorem own_dk {g k : Nat} {A : Option Addr} {n c at_ : Nat} (h : own [dk g A n c at_] k) : (some g : Option Nat) = some k := by
  obtain ⟨y, hy, e⟩ := h
  rcases List.mem_singleton.1 hy with rfl
  exact e
/-- the next number: where the deck stands then, and what came -/
def dkAt (n at_ : Nat) : Nat := if at_ < n then at_ + 1 else at_
def dkV (xs : List Int) (at_ : Nat) (m : Int) : Int := match xs[at_]? with
  | some v => modF v m
  | none => 0
theorem dkV_bd (xs : List Int) (at_ : Nat) {m : Int} (hm : 0 < m) : 0 ≤ dkV xs at_ m ∧ dkV xs at_ m < m := by
  unfold dkV
  split
  · exact modF_bd _ hm
  · omega
set_option maxHeartbeats 1000000 in
theorem dnext_c (g : Nat) (A : Option Addr) (n c at_ : Nat) (xs : List Int) (m : Int) (w : World) (hs' : (dk g A n c at_).sat w) (hl : xs.length = n) (hr : Rd w w.heap.size A (ints xs)) (hg : xs ≠ [] → ∀ b o, A = some ⟨b, o, none⟩ → b ≠ g) (hm0 : 0 < m) (hm1 : m ≤ 2000000) (hn : n ≤ 9223372036854775807) :
    Ret Tryz.prog 27 [.pointer (some ⟨g, 0, none⟩), .int .i64 m] w (fun u w' => u = .int .i64 (dkV xs at_ m) ∧ (dk g A n c (dkAt n at_)).sat w' ∧ Fr (fun k => (some g : Option Nat) = some k) w w') := by
  generalize hR : dkV xs at_ m = R
  unfold dkV at hR
  by_cases h : at_ < n
  · have hat : dkAt n at_ = at_ + 1 := by unfold dkAt; rw [if_pos h]
    rw [hat]
    have hx : xs[at_]? = some (xs[at_]'(by omega)) := List.getElem?_eq_getElem (by omega)
    have e1 := ints_some (xs := xs) (k := at_) (by omega)
    rw [hx] at hR
    dsimp only at hR
    obtain ⟨b1, o1, rfl, hb1, r1⟩ := hr.ro (by rw [ints_len]; omega)
    have hno : ¬ own [dk g (some ⟨b1, o1, none⟩) n c at_] b1 := fun hw => hg (List.ne_nil_of_length_pos (by omega)) b1 o1 rfl (Option.some.inj (own_dk hw)).symm
    generalize xs[at_]'(_) = v at *
    have hmd := fun w => mod_c v m w hm0 hm1
    rw [hR] at hmd
    have hpr : (at_ : Int) + 1 - 1 = (at_ : Int) := by omega
    refine enterR Tryz.func27 rfl rfl rfl fun a hs hm => ?_
    replace hm := dk_adopt hm rfl hs'
    unfold dk at hm hno
    repeat (first | (refine oq_ ?_; clear hs a; intro a hs) | ((with_reducible apply lCons); first | (refine dv hs gw_ rfl rfl da_ ?_; clear hs hm a; rintro _ w ⟨g, rfl, -, hm⟩ a hs) | (refine stn hs rfl rfl ds_ ?_; clear hs hm a; rintro - w hm a hs) | (refine dvc hs hm gw_ rfl rfl rfl rfl rfl (pl 17 rfl) (hmd _) ?_; clear hs hm a; intro w hm a hs)) | ((with_reducible apply qCons); first | (refine qwc hs gw_ rfl rfl rfl rfl rfl (pl 17 rfl) (fun w hm => hmd _) ?_; clear hs a; intro a hs)) | ((with_reducible apply qNil); clear hm; intro w hm) | refine cQ_ ?_ | refine sc_ ?_)
    exact gRet1 hs rfl rfl ⟨rfl, hm.me _ (List.Mem.head _), hm.fr.mono fun _ _ hw => own_dk hw⟩
  · have hat : dkAt n at_ = at_ := by unfold dkAt; rw [if_neg h]
    rw [hat]
    rw [List.getElem?_eq_none (by omega)] at hR
    dsimp only at hR
    subst hR
    refine enterR Tryz.func27 rfl rfl rfl fun a hs hm => ?_
    replace hm := dk_adopt hm rfl hs'
    unfold dk at hm
    repeat (first | (refine oq_ ?_; clear hs a; intro a hs) | ((with_reducible apply lCons); first | (refine dv hs gw_ rfl rfl da_ ?_; clear hs hm a; rintro _ w ⟨g, rfl, -, hm⟩ a hs) | (refine stn hs rfl rfl ds_ ?_; clear hs hm a; rintro - w hm a hs)) | ((with_reducible apply qNil); clear hm; intro w hm) | refine cQ_ ?_ | refine sc_ ?_)
    exact gRet1 hs rfl rfl ⟨rfl, hm.me _ (List.Mem.head _), hm.fr.mono fun _ _ hw => own_dk hw⟩
end Go.Proofs.YtajkekhnfobgiaaGreatDoor

/- The deck, with all that is known of it; words. -/
namespace Go.Proofs.YtajkekhnfobgiaaGreatDoor
set_option maxRecDepth 20000
open Go.RowKit
theorem ovXDck20_ {G H : Prop} (k : H) (s : H → G := by intro k; (with_reducible refine toL hm ?_); first | exact oneV hs gw_ rfl rfl (by intro w hm; (first | exact kv_ | exact kb2_)) k | exact oneN hs rfl rfl rfl rfl rfl rfl rfl k | exact oneU hs rfl rfl rfl rfl rfl rfl k) : G := s k

structure Dk (g : Nat) (A : Option Addr) (n c at_ : Nat) (xs : List Int) (w : World) : Prop where
  sat : (dk g A n c at_).sat w
  len : xs.length = n
  rd : Rd w w.heap.size A (ints xs)
  ne : xs ≠ [] → ∀ b o, A = some ⟨b, o, none⟩ → b ≠ g
  n : n ≤ 9223372036854775807
theorem Dk.pu {g : Nat} {A : Option Addr} {n c at_ : Nat} {xs : List Int} {w w' : World} (h : Dk g A n c at_ xs w) (hf : Pu w w') : Dk g A n c at_ xs w' :=
  ⟨Hp.sat_fr hf h.sat fun _ _ t => t, h.len, hf.rd' h.rd, h.ne, h.n⟩
theorem rdD {S : Nat → Prop} {w w' : World} {A : Option Addr} {xs : List Value} (hf : Fr S w w') (h : Rd w w.heap.size A xs) (hn : ∀ g o, A = some ⟨g, o, none⟩ → ¬ S g) : Rd w' w'.heap.size A xs := fun h0 => by
  obtain ⟨b, o, e, hb, hc⟩ := h h0
  exact ⟨b, o, e, Nat.lt_of_lt_of_le hb hf.size, fun j u hj => hf.cl (hc j u hj) (hn b o e)⟩
theorem rdN {S : Nat → Prop} {w w' : World} {A : Option Addr} {xs : List Int} (hf : Fr S w w') (h : Rd w w.heap.size A (ints xs)) (hn : xs ≠ [] → ∀ g o, A = some ⟨g, o, none⟩ → ¬ S g) : Rd w' w'.heap.size A (ints xs) := fun h0 => rdD hf h (hn (by rintro rfl; exact absurd h0 (by simp [ints]))) h0
/-- a new deck -/
theorem Dk.start {g : Nat} {A : Option Addr} {n c : Nat} {xs : List Int} {w w' : World} (hl : xs.length = n) (hr : Rd w w.heap.size A (ints xs)) (hn : n ≤ 9223372036854775807) (hN : New w w' [dk g A n c 0]) (hf : Pu w w') : Dk g A n c 0 xs w' := by
  refine ⟨hN.me _ (List.Mem.head _), hl, hf.rd' hr, fun hne b o e => ?_, hn⟩
  obtain ⟨b', o', e', hb, _⟩ := hr (by rw [ints_len]; exact List.length_pos_iff.2 hne)
  rw [e] at e'
  cases e'
  have := hN.fresh _ (List.Mem.head _) g rfl
  omega
/-- the deck as an own block of a walk -/
theorem Dk.in_ {g : Nat} {A : Option Addr} {n c at_ : Nat} {xs : List Int} {w : World} (h : Dk g A n c at_ xs w) : Mm (own [dk g A n c at_]) w [dk g A n c at_] w := dk_adopt (Mm.nil _ w) rfl h.sat
theorem Dk.now {g : Nat} {A : Option Addr} {n c a0 at_ : Nat} {xs : List Int} {w w' : World} {M : List Hp} (h : Dk g A n c a0 xs w) (hm : Mm (own [dk g A n c a0]) w M w') (hM : dk g A n c at_ ∈ M) : Dk g A n c at_ xs w' :=
  ⟨hm.me _ hM, h.len, rdN hm.fr h.rd fun hn b o e hw => h.ne hn b o e (Option.some.inj (own_dk hw)).symm, h.ne, h.n⟩
theorem Dk.out {g : Nat} {A : Option Addr} {n c a0 : Nat} {w w' : World} {M : List Hp} (hm : Mm (own [dk g A n c a0]) w M w') : Fr (fun k => (some g : Option Nat) = some k) w w' := hm.fr.mono fun _ _ hw => own_dk hw
/-- what a call with the deck leaves -/
def DkR (g : Nat) (A : Option Addr) (n c : Nat) (xs : List Int) (w w' : World) : Prop := ∃ at_, Dk g A n c at_ xs w' ∧ Fr (fun k => (some g : Option Nat) = some k) w w'
theorem nxt_c (g : Nat) (A : Option Addr) (n c at_ : Nat) (xs : List Int) (m : Int) (w : World) (h : Dk g A n c at_ xs w) (hm0 : 0 < m) (hm1 : m ≤ 2000000) :
    Ret Tryz.prog 27 [.pointer (some ⟨g, 0, none⟩), .int .i64 m] w (fun u w' => ∃ r : Nat, u = .int .i64 (r : Int) ∧ (r : Int) < m ∧ DkR g A n c xs w w') :=
  (dnext_c g A n c at_ xs m w h.sat h.len h.rd h.ne hm0 hm1 h.n).mono fun u w' ⟨h1, h2, h3⟩ => by
    have hb := dkV_bd xs at_ hm0
    refine ⟨(dkV xs at_ m).toNat, by rw [h1]; congr 1; omega, by omega, dkAt n at_, ⟨h2, h.len, rdN h3 h.rd fun hn b o e hw => h.ne hn b o e (Option.some.inj hw).symm, h.ne, h.n⟩, h3⟩
theorem Mm.dkt {S : Nat → Prop} {w0 w w' : World} {M M' : List Hp} {g : Nat} {A : Option Addr} {n c a0 a1 : Nat} {xs : List Int} (hm : Mm S w0 M w) (r : Rep M (dk g A n c a0) (dk g A n c a1) M') (h : Dk g A n c a1 xs w') (hf : Fr (fun k => (some g : Option Nat) = some k) w w') : Mm S w0 M' w' := hm.turn r hf h.sat (fun _ h => .inl h)
set_option maxHeartbeats 1000000 in
theorem wrd_c (g : Nat) (A : Option Addr) (n c at_ : Nat) (xs : List Int) (w : World) (h : Dk g A n c at_ xs w) :
    Ret Tryz.prog 51 [.pointer (some ⟨g, 0, none⟩)] w (fun u w' => ∃ x : Int, u = .int .u16 x ∧ (0 ≤ x ∧ x ≤ 65535) ∧ DkR g A n c xs w w') := by
  have hwr : ∀ y : Int, 0 ≤ IntKind.u16.wrap y ∧ IntKind.u16.wrap y ≤ 65535 := fun y => by simp [IntKind.wrap, IntKind.bits, IntKind.signed]; omega
  refine enterR Tryz.func51 rfl rfl rfl fun a hs hm => ?_
  clear hm
  have hm := h.in_
  repeat (first | (refine ovXDck20_ ?_; clear hs a; intro a hs) | ((with_reducible apply lCons); first | (refine dv hs gw_ rfl rfl da_ ?_; clear hs hm a; rintro _ w ⟨g, rfl, -, hm⟩ a hs) | (refine stn hs rfl rfl ds_ ?_; clear hs hm a; rintro - w hm a hs)) | refine sc_ ?_)
  refine st hs rfl rfl rfl (d_call hs rfl rfl rfl (pl 27 rfl) ((nxt_c g A n c _ xs 5 _ h (by omega) (by omega)))) ?_; clear hs a; rintro _ w1 ⟨r1, rfl, b1, a1, k1, hf⟩ a hs
  replace hm := hm.dkt (Rep.head _ _ _) k1 hf
  clear hf
  by_cases h3 : (r1 : Int) = 3
  · repeat (first | (refine ovXDck20_ ?_; clear hs a; intro a hs) | ((with_reducible apply lCons); first | (refine dv hs gw_ rfl rfl da_ ?_; clear hs hm a; rintro _ w ⟨g, rfl, -, hm⟩ a hs) | (refine stn hs rfl rfl ds_ ?_; clear hs hm a; rintro - w hm a hs)) | refine sc_ ?_)
    refine st hs rfl rfl rfl (d_call hs rfl rfl rfl (pl 27 rfl) ((nxt_c g A n c _ xs 3 _ k1 (by omega) (by omega)))) ?_; clear hs a; rintro _ w1 ⟨r2, rfl, b2, a1, k2, hf⟩ a hs
    replace hm := hm.dkt (Rep.head _ _ _) k2 hf
    clear hf
    repeat (first | (refine ovXDck20_ ?_; clear hs a; intro a hs) | ((with_reducible apply lCons); first | (refine dv hs gw_ rfl rfl da_ ?_; clear hs hm a; rintro _ w ⟨g, rfl, -, hm⟩ a hs) | (refine stn hs rfl rfl ds_ ?_; clear hs hm a; rintro - w hm a hs)) | refine sc_ ?_)
    exact gRet1 hs rfl rfl ⟨_, rfl, hwr _, _, k2.pu (Fr.refl _ _), Dk.out hm⟩
  · by_cases h4 : (r1 : Int) = 4
    · repeat (first | (refine ovXDck20_ ?_; clear hs a; intro a hs) | ((with_reducible apply lCons); first | (refine dv hs gw_ rfl rfl da_ ?_; clear hs hm a; rintro _ w ⟨g, rfl, -, hm⟩ a hs) | (refine stn hs rfl rfl ds_ ?_; clear hs hm a; rintro - w hm a hs)) | refine sc_ ?_)
      refine st hs rfl rfl rfl (d_call hs rfl rfl rfl (pl 27 rfl) ((nxt_c g A n c _ xs 65536 _ k1 (by omega) (by omega)))) ?_; clear hs a; rintro _ w1 ⟨r2, rfl, b2, a1, k2, hf⟩ a hs
      replace hm := hm.dkt (Rep.head _ _ _) k2 hf
      clear hf
      repeat (first | (refine ovXDck20_ ?_; clear hs a; intro a hs) | ((with_reducible apply lCons); first | (refine dv hs gw_ rfl rfl da_ ?_; clear hs hm a; rintro _ w ⟨g, rfl, -, hm⟩ a hs) | (refine stn hs rfl rfl ds_ ?_; clear hs hm a; rintro - w hm a hs)) | refine sc_ ?_)
      exact gRet1 hs rfl rfl ⟨_, rfl, hwr _, _, k2.pu (Fr.refl _ _), Dk.out hm⟩
    · rcases (by omega : (r1 : Int) = 0 ∨ (r1 : Int) = 1 ∨ (r1 : Int) = 2) with h5 | h5 | h5 <;>
      · repeat (first | (refine ovXDck20_ ?_; clear hs a; intro a hs) | ((with_reducible apply lCons); first | (refine dv hs gw_ rfl rfl da_ ?_; clear hs hm a; rintro _ w ⟨g, rfl, -, hm⟩ a hs) | (refine stn hs rfl rfl ds_ ?_; clear hs hm a; rintro - w hm a hs)) | refine sc_ ?_)
        refine st hs rfl rfl rfl (d_call hs rfl rfl rfl (pl 27 rfl) ((nxt_c g A n c _ xs 8 _ k1 (by omega) (by omega)))) ?_; clear hs a; rintro _ w1 ⟨r2, rfl, b2, a1, k2, hf⟩ a hs
        replace hm := hm.dkt (Rep.head _ _ _) k2 hf
        clear hf
        repeat (first | (refine ovXDck20_ ?_; clear hs a; intro a hs) | ((with_reducible apply lCons); first | (refine dv hs gw_ rfl rfl da_ ?_; clear hs hm a; rintro _ w ⟨g, rfl, -, hm⟩ a hs) | (refine stn hs rfl rfl ds_ ?_; clear hs hm a; rintro - w hm a hs)) | refine sc_ ?_)
        exact gRet1 hs rfl rfl ⟨_, rfl, hwr _, _, k2.pu (Fr.refl _ _), Dk.out hm⟩
end Go.Proofs.YtajkekhnfobgiaaGreatDoor

/- The deck: sizes (as Dck8, for seats without layer 9). -/
namespace Go.Proofs.YtajkekhnfobgiaaGreatDoor
set_option maxRecDepth 20000
open Go.RowKit

structure SzX where
  m : Nat
  at_ : Nat
  ss : List Int
  g : Nat
  c : Nat
  cs : List Value
theorem ints_snoc' (xs : List Int) (x : Int) : ints xs ++ [.int .i64 x] = ints (xs ++ [x]) := by simp [ints]
theorem szcell (r : Nat) (h : r < 3) : ∃ m : Int, 6 ≤ m ∧ m ≤ 32 ∧ ([.int .i64 6, .int .i64 12, .int .i64 32] : List Value)[r]? = some (.int .i64 m) := by
  rcases (by omega : r = 0 ∨ r = 1 ∨ r = 2) with rfl | rfl | rfl
  · exact ⟨6, by omega, by omega, rfl⟩
  · exact ⟨12, by omega, by omega, rfl⟩
  · exact ⟨32, by omega, by omega, rfl⟩
structure SzOk (ss : List Int) : Prop where
  one : 1 ≤ ss.length
  four : ss.length ≤ 4
  bd : ∀ y ∈ ss, 1 ≤ y ∧ y ≤ 32
set_option maxHeartbeats 1000000 in
theorem siz_c (gd : Nat) (A : Option Addr) (n c at_ : Nat) (xs : List Int) (wB : World) (h : Dk gd A n c at_ xs wB) :
    Ret Tryz.prog 25 [.pointer (some ⟨gd, 0, none⟩)] wB (fun u w' => ∃ (g m cc : Nat) (ss : List Int), u = .slice (some ⟨g, 0, none⟩) m cc ∧ ss.length = m ∧ SzOk ss ∧ Rd w' w'.heap.size (some ⟨g, 0, none⟩) (ints ss) ∧ wB.heap.size ≤ g ∧ DkR gd A n c xs wB w') := by
  refine enterR Tryz.func25 rfl rfl rfl fun a hs hm => ?_
  clear hm
  have hm := h.in_
  have hlt := Hp.lt h.sat (g := gd) rfl
  repeat (first | (refine ov_ ?_; clear hs a; intro a hs) | ((with_reducible apply lCons); first | (refine dv hs gw_ rfl rfl da_ ?_; clear hs hm a; rintro _ w ⟨g, rfl, -, hm⟩ a hs) | (refine stn hs rfl rfl ds_ ?_; clear hs hm a; rintro - w hm a hs)) | refine sc_ ?_)
  refine st hs rfl rfl rfl (d_call hs rfl rfl rfl (pl 27 rfl) ((nxt_c gd A n c _ xs 9 _ (h.now hm mem_) (by omega) (by omega)))) ?_; clear hs a; rintro _ w1 ⟨r1, rfl, b1, a1, k1, hf⟩ a hs
  replace hm := hm.dkt rep_ k1 hf
  clear hf
  repeat (first | (refine ov_ ?_; clear hs a; intro a hs) | ((with_reducible apply lCons); first | (refine dv hs gw_ rfl rfl da_ ?_; clear hs hm a; rintro _ w ⟨g, rfl, -, hm⟩ a hs) | (refine stn hs rfl rfl ds_ ?_; clear hs hm a; rintro - w hm a hs)) | refine sc_ ?_)
  rename Nat => g0
  refine st hs rfl rfl rfl (d_call hs rfl rfl rfl (pl 27 rfl) ((nxt_c gd A n c _ xs 4 _ (h.now hm mem_) (by omega) (by omega)))) ?_; clear hs a; rintro _ w1 ⟨r2, rfl, b2, a2, k2, hf⟩ a hs
  replace hm := hm.dkt rep_ k2 hf
  clear hf
  repeat (first | (refine ov_ ?_; clear hs a; intro a hs) | ((with_reducible apply lCons); first | (refine dv hs gw_ rfl rfl da_ ?_; clear hs hm a; rintro _ w ⟨g, rfl, -, hm⟩ a hs) | (refine stn hs rfl rfl ds_ ?_; clear hs hm a; rintro - w hm a hs)) | refine sc_ ?_)
  refine cLoop (X := SzX) (fun x a w' => Sl Tryz.f25.ntmps [(0, .pointer (some ⟨gd, 0, none⟩)), (3, slv (some x.g) x.ss.length x.c), (4, .int .i64 (x.m : Int))] a ∧ Mm (own [dk gd A n c at_]) wB [⟨some x.g, 3, x.cs⟩, dk gd A n c x.at_] w' ∧ Row (some x.g) x.ss.length x.c 1 (ints x.ss) x.cs ∧ 1 ≤ x.ss.length ∧ x.ss.length + x.m ≤ 4 ∧ ∀ y ∈ x.ss, 1 ≤ y ∧ y ≤ 32) (fun x => x.m) ⟨r2, a2, [4 + (r1 : Int)], g0, 1, [.int .i64 (4 + (r1 : Int))]⟩ ⟨hs.sub (Has.all ⟨rfl, rfl, rfl, trivial⟩), hm, ⟨(fun e => by cases e), Nat.le_refl _, by dsimp only; unfold maxLen; omega, rfl, rfl, rfl⟩, Nat.le_refl _, by show 1 + r2 ≤ 4; omega, fun y hy => by rcases List.mem_singleton.1 hy with rfl; omega⟩ ?_
  clear hs hm a
  rintro ⟨m, at1, ss, g1, c1, cs⟩ a w' ⟨hs, hm, hr, h1, h4, hbd⟩
  dsimp only at *
  unfold slv at *
  by_cases hm0 : 0 < m
  · obtain ⟨m, rfl⟩ : ∃ k, m = k + 1 := ⟨m - 1, by omega⟩
    repeat (first | (refine ov_ ?_; clear hs a; intro a hs) | ((with_reducible apply lCons); first | (refine dv hs gw_ rfl rfl da_ ?_; clear hs hm a; rintro _ w ⟨g, rfl, -, hm⟩ a hs) | (refine stn hs rfl rfl ds_ ?_; clear hs hm a; rintro - w hm a hs)) | refine sc_ ?_)
    rename Nat => g17
    refine st hs rfl rfl rfl (d_call hs rfl rfl rfl (pl 27 rfl) ((nxt_c gd A n c _ xs 3 _ (h.now hm mem_) (by omega) (by omega)))) ?_; clear hs a; rintro _ w1 ⟨r3, rfl, b3, a3, k3, hf⟩ a hs
    replace hm := hm.dkt rep_ k3 hf
    clear hf
    obtain ⟨z, hz1, hz2, hcell⟩ := szcell r3 (by omega)
    repeat (first | (refine ov_ ?_; clear hs a; intro a hs) | ((with_reducible apply lCons); first | (refine dv hs gw_ rfl rfl da_ ?_; clear hs hm a; rintro _ w ⟨g, rfl, -, hm⟩ a hs) | (refine stn hs rfl rfl ds_ ?_; clear hs hm a; rintro - w hm a hs)) | refine sc_ ?_)
    refine st hs rfl rfl rfl (d_call hs rfl rfl rfl (pl 27 rfl) ((nxt_c gd A n c _ xs z _ (h.now hm mem_) (by omega) (by omega)))) ?_; clear hs a; rintro _ w1 ⟨r4, rfl, b4, a4, k4, hf⟩ a hs
    replace hm := hm.dkt rep_ k4 hf
    clear hf
    repeat (first | (refine ov_ ?_; clear hs a; intro a hs) | ((with_reducible apply lCons); first | (refine dv hs gw_ rfl rfl da_ ?_; clear hs hm a; rintro _ w ⟨g, rfl, -, hm⟩ a hs) | (refine stn hs rfl rfl ds_ ?_; clear hs hm a; rintro - w hm a hs)) | refine sc_ ?_)
    refine dv hs (Wnt.none rfl) rfl rfl (d_append (A := some g1) (n := ss.length) (c := c1) (news := [.int .i64 (1 + (r4 : Int))]) hs rfl rfl rfl rfl rfl tab rfl rfl rfl rfl rfl hm mem_ hr rfl (hm.ro (n := 1) (List.Mem.head _) (cutF_ok rfl)) rfl (by show (ss.length + 1) * 8 ≤ _; omega) (by omega)) ?_
    clear hs
    rintro _ w2 ⟨A', c', cs', rfl, hr2, hM⟩ a hs
    replace hm := hM _ rep_
    clear hM
    obtain ⟨g2, rfl⟩ := hr2.some_ (by omega)
    rw [ints_snoc'] at hr2
    repeat (first | (refine ov_ ?_; clear hs a; intro a hs) | ((with_reducible apply lCons); first | (refine dv hs gw_ rfl rfl da_ ?_; clear hs hm a; rintro _ w ⟨g, rfl, -, hm⟩ a hs) | (refine stn hs rfl rfl ds_ ?_; clear hs hm a; rintro - w hm a hs)) | refine sc_ ?_)
    refine ⟨⟨m, a4, ss ++ [1 + (r4 : Int)], g2, c', cs'⟩, by dsimp only; omega, ?_⟩
    dsimp only
    rw [List.length_append, List.length_singleton]
    refine ⟨hs.sub (Has.all ⟨rfl, rfl, rfl, trivial⟩), hm.sub sub_, hr2, by omega, by omega, fun y hy => ?_⟩
    rcases List.mem_append.1 hy with hy | hy
    · exact hbd y hy
    · rcases List.mem_singleton.1 hy with rfl; omega
  · repeat (first | (refine ov_ ?_; clear hs a; intro a hs) | ((with_reducible apply lCons); first | (refine dv hs gw_ rfl rfl da_ ?_; clear hs hm a; rintro _ w ⟨g, rfl, -, hm⟩ a hs) | (refine stn hs rfl rfl ds_ ?_; clear hs hm a; rintro - w hm a hs)) | refine sc_ ?_)
    refine gRet1 hs rfl rfl ⟨g1, ss.length, c1, ss, rfl, rfl, ⟨h1, by omega, hbd⟩, ?_, ?_, at1, h.now hm mem_, Dk.out hm⟩
    · exact hm.rd (List.Mem.head _) hr.pfx
    · rcases hm.ow _ (List.Mem.head _) g1 rfl with h5 | h5
      · exact h5
      · exact absurd (Option.some.inj (own_dk h5)).symm (fun e => hm.dj.1 _ (List.Mem.head _) g1 rfl (by rw [e]; rfl))
end Go.Proofs.YtajkekhnfobgiaaGreatDoor

/- The deck: instructions. -/
namespace Go.Proofs.YtajkekhnfobgiaaGreatDoor
set_option maxRecDepth 20000
open Go.RowKit

/-- an instruction -/
structure In where
  op : Int
  a : Int
  b : Int
  c : Int
  m : Int
def inV (i : In) : List Value := [.int .i64 i.op, .int .i64 i.a, .int .i64 i.b, .int .i64 i.c, .int .i64 i.m]
def inA (i : In) : Value := .agg #[.int .i64 i.op, .int .i64 i.a, .int .i64 i.b, .int .i64 i.c, .int .i64 i.m]
theorem inV_len (i : In) : (inV i).length = 5 := rfl
def jumpB (op : Int) : Bool := decide (18 ≤ op ∧ op ≤ 21)
def usesF (op : Int) : Bool × Bool × Bool × Bool :=
  if op = 1 ∨ op = 15 ∨ op = 19 ∨ op = 20 ∨ op = 21 then (true, false, false, true)
  else if op = 2 then (true, true, false, false)
  else if op = 16 ∨ op = 17 then (true, true, false, true)
  else if op = 18 ∨ op = 23 then (false, false, false, true)
  else if op = 22 then (true, false, false, false)
  else if op = 0 ∨ op = 24 then (false, false, false, false)
  else (true, true, true, false)
def u4V (u : Bool × Bool × Bool × Bool) : Value := .agg #[.bool u.1, .bool u.2.1, .bool u.2.2.1, .bool u.2.2.2]
/-- valid, but for the target of a jump -/
structure InV (i : In) (ns : Int) : Prop where
  op : 0 ≤ i.op ∧ i.op ≤ 24
  a : 0 ≤ i.a ∧ i.a < 8 ∧ ((usesF i.op).1 = false → i.a = 0)
  b : 0 ≤ i.b ∧ i.b < 8 ∧ ((usesF i.op).2.1 = false → i.b = 0)
  c : 0 ≤ i.c ∧ i.c < 8 ∧ ((usesF i.op).2.2.1 = false → i.c = 0)
  m : 0 ≤ i.m ∧ i.m ≤ 65535 ∧ ((usesF i.op).2.2.2 = false → i.m = 0)
  lea : i.op = 15 → i.m < ns
  sys : i.op = 23 → i.m ≤ 15

set_option maxHeartbeats 4000000 in
theorem uses_c (op : Int) (wB : World) : Ret Tryz.prog 40 [.int .i64 op] wB (fun u w' => u = u4V (usesF op) ∧ Pu wB w') := by
  by_cases h1 : op = 1
  · subst h1
    refine enterR Tryz.func40 rfl rfl rfl fun a hs hm => ?_
    repeat (first | (refine ovR_ ?_; clear hs a; intro a hs) | ((with_reducible apply lCons); first | (refine dv hs gw_ rfl rfl da_ ?_; clear hs hm a; rintro _ w ⟨g, rfl, -, hm⟩ a hs) | (refine stn hs rfl rfl ds_ ?_; clear hs hm a; rintro - w hm a hs)) | refine sc_ ?_)
    exact gRetN tab hs rfl (.cons (.cells rfl rfl rfl rfl (hm.ro (k := 0) (n := 4) mem_ (cutF_ok rfl))) .nil) ⟨rfl, hm.fr⟩
  by_cases h15 : op = 15
  · subst h15
    refine enterR Tryz.func40 rfl rfl rfl fun a hs hm => ?_
    repeat (first | (refine ovR_ ?_; clear hs a; intro a hs) | ((with_reducible apply lCons); first | (refine dv hs gw_ rfl rfl da_ ?_; clear hs hm a; rintro _ w ⟨g, rfl, -, hm⟩ a hs) | (refine stn hs rfl rfl ds_ ?_; clear hs hm a; rintro - w hm a hs)) | refine sc_ ?_)
    exact gRetN tab hs rfl (.cons (.cells rfl rfl rfl rfl (hm.ro (k := 0) (n := 4) mem_ (cutF_ok rfl))) .nil) ⟨rfl, hm.fr⟩
  by_cases h19 : op = 19
  · subst h19
    refine enterR Tryz.func40 rfl rfl rfl fun a hs hm => ?_
    repeat (first | (refine ovR_ ?_; clear hs a; intro a hs) | ((with_reducible apply lCons); first | (refine dv hs gw_ rfl rfl da_ ?_; clear hs hm a; rintro _ w ⟨g, rfl, -, hm⟩ a hs) | (refine stn hs rfl rfl ds_ ?_; clear hs hm a; rintro - w hm a hs)) | refine sc_ ?_)
    exact gRetN tab hs rfl (.cons (.cells rfl rfl rfl rfl (hm.ro (k := 0) (n := 4) mem_ (cutF_ok rfl))) .nil) ⟨rfl, hm.fr⟩
  by_cases h20 : op = 20
  · subst h20
    refine enterR Tryz.func40 rfl rfl rfl fun a hs hm => ?_
    repeat (first | (refine ovR_ ?_; clear hs a; intro a hs) | ((with_reducible apply lCons); first | (refine dv hs gw_ rfl rfl da_ ?_; clear hs hm a; rintro _ w ⟨g, rfl, -, hm⟩ a hs) | (refine stn hs rfl rfl ds_ ?_; clear hs hm a; rintro - w hm a hs)) | refine sc_ ?_)
    exact gRetN tab hs rfl (.cons (.cells rfl rfl rfl rfl (hm.ro (k := 0) (n := 4) mem_ (cutF_ok rfl))) .nil) ⟨rfl, hm.fr⟩
  by_cases h21 : op = 21
  · subst h21
    refine enterR Tryz.func40 rfl rfl rfl fun a hs hm => ?_
    repeat (first | (refine ovR_ ?_; clear hs a; intro a hs) | ((with_reducible apply lCons); first | (refine dv hs gw_ rfl rfl da_ ?_; clear hs hm a; rintro _ w ⟨g, rfl, -, hm⟩ a hs) | (refine stn hs rfl rfl ds_ ?_; clear hs hm a; rintro - w hm a hs)) | refine sc_ ?_)
    exact gRetN tab hs rfl (.cons (.cells rfl rfl rfl rfl (hm.ro (k := 0) (n := 4) mem_ (cutF_ok rfl))) .nil) ⟨rfl, hm.fr⟩
  by_cases h2 : op = 2
  · subst h2
    refine enterR Tryz.func40 rfl rfl rfl fun a hs hm => ?_
    repeat (first | (refine ovR_ ?_; clear hs a; intro a hs) | ((with_reducible apply lCons); first | (refine dv hs gw_ rfl rfl da_ ?_; clear hs hm a; rintro _ w ⟨g, rfl, -, hm⟩ a hs) | (refine stn hs rfl rfl ds_ ?_; clear hs hm a; rintro - w hm a hs)) | refine sc_ ?_)
    exact gRetN tab hs rfl (.cons (.cells rfl rfl rfl rfl (hm.ro (k := 0) (n := 4) mem_ (cutF_ok rfl))) .nil) ⟨rfl, hm.fr⟩
  by_cases h16 : op = 16
  · subst h16
    refine enterR Tryz.func40 rfl rfl rfl fun a hs hm => ?_
    repeat (first | (refine ovR_ ?_; clear hs a; intro a hs) | ((with_reducible apply lCons); first | (refine dv hs gw_ rfl rfl da_ ?_; clear hs hm a; rintro _ w ⟨g, rfl, -, hm⟩ a hs) | (refine stn hs rfl rfl ds_ ?_; clear hs hm a; rintro - w hm a hs)) | refine sc_ ?_)
    exact gRetN tab hs rfl (.cons (.cells rfl rfl rfl rfl (hm.ro (k := 0) (n := 4) mem_ (cutF_ok rfl))) .nil) ⟨rfl, hm.fr⟩
  by_cases h17 : op = 17
  · subst h17
    refine enterR Tryz.func40 rfl rfl rfl fun a hs hm => ?_
    repeat (first | (refine ovR_ ?_; clear hs a; intro a hs) | ((with_reducible apply lCons); first | (refine dv hs gw_ rfl rfl da_ ?_; clear hs hm a; rintro _ w ⟨g, rfl, -, hm⟩ a hs) | (refine stn hs rfl rfl ds_ ?_; clear hs hm a; rintro - w hm a hs)) | refine sc_ ?_)
    exact gRetN tab hs rfl (.cons (.cells rfl rfl rfl rfl (hm.ro (k := 0) (n := 4) mem_ (cutF_ok rfl))) .nil) ⟨rfl, hm.fr⟩
  by_cases h18 : op = 18
  · subst h18
    refine enterR Tryz.func40 rfl rfl rfl fun a hs hm => ?_
    repeat (first | (refine ovR_ ?_; clear hs a; intro a hs) | ((with_reducible apply lCons); first | (refine dv hs gw_ rfl rfl da_ ?_; clear hs hm a; rintro _ w ⟨g, rfl, -, hm⟩ a hs) | (refine stn hs rfl rfl ds_ ?_; clear hs hm a; rintro - w hm a hs)) | refine sc_ ?_)
    exact gRetN tab hs rfl (.cons (.cells rfl rfl rfl rfl (hm.ro (k := 0) (n := 4) mem_ (cutF_ok rfl))) .nil) ⟨rfl, hm.fr⟩
  by_cases h23 : op = 23
  · subst h23
    refine enterR Tryz.func40 rfl rfl rfl fun a hs hm => ?_
    repeat (first | (refine ovR_ ?_; clear hs a; intro a hs) | ((with_reducible apply lCons); first | (refine dv hs gw_ rfl rfl da_ ?_; clear hs hm a; rintro _ w ⟨g, rfl, -, hm⟩ a hs) | (refine stn hs rfl rfl ds_ ?_; clear hs hm a; rintro - w hm a hs)) | refine sc_ ?_)
    exact gRetN tab hs rfl (.cons (.cells rfl rfl rfl rfl (hm.ro (k := 0) (n := 4) mem_ (cutF_ok rfl))) .nil) ⟨rfl, hm.fr⟩
  by_cases h22 : op = 22
  · subst h22
    refine enterR Tryz.func40 rfl rfl rfl fun a hs hm => ?_
    repeat (first | (refine ovR_ ?_; clear hs a; intro a hs) | ((with_reducible apply lCons); first | (refine dv hs gw_ rfl rfl da_ ?_; clear hs hm a; rintro _ w ⟨g, rfl, -, hm⟩ a hs) | (refine stn hs rfl rfl ds_ ?_; clear hs hm a; rintro - w hm a hs)) | refine sc_ ?_)
    exact gRetN tab hs rfl (.cons (.cells rfl rfl rfl rfl (hm.ro (k := 0) (n := 4) mem_ (cutF_ok rfl))) .nil) ⟨rfl, hm.fr⟩
  by_cases h0 : op = 0
  · subst h0
    refine enterR Tryz.func40 rfl rfl rfl fun a hs hm => ?_
    repeat (first | (refine ovR_ ?_; clear hs a; intro a hs) | ((with_reducible apply lCons); first | (refine dv hs gw_ rfl rfl da_ ?_; clear hs hm a; rintro _ w ⟨g, rfl, -, hm⟩ a hs) | (refine stn hs rfl rfl ds_ ?_; clear hs hm a; rintro - w hm a hs)) | refine sc_ ?_)
    exact gRetN tab hs rfl (.cons (.cells rfl rfl rfl rfl (hm.ro (k := 0) (n := 4) mem_ (cutF_ok rfl))) .nil) ⟨rfl, hm.fr⟩
  by_cases h24 : op = 24
  · subst h24
    refine enterR Tryz.func40 rfl rfl rfl fun a hs hm => ?_
    repeat (first | (refine ovR_ ?_; clear hs a; intro a hs) | ((with_reducible apply lCons); first | (refine dv hs gw_ rfl rfl da_ ?_; clear hs hm a; rintro _ w ⟨g, rfl, -, hm⟩ a hs) | (refine stn hs rfl rfl ds_ ?_; clear hs hm a; rintro - w hm a hs)) | refine sc_ ?_)
    exact gRetN tab hs rfl (.cons (.cells rfl rfl rfl rfl (hm.ro (k := 0) (n := 4) mem_ (cutF_ok rfl))) .nil) ⟨rfl, hm.fr⟩
  · have hu : usesF op = (true, true, true, false) := by unfold usesF; rw [if_neg (by omega), if_neg (by omega), if_neg (by omega), if_neg (by omega), if_neg (by omega), if_neg (by omega)]
    rw [hu]
    refine enterR Tryz.func40 rfl rfl rfl fun a hs hm => ?_
    repeat (first | (refine ovR_ ?_; clear hs a; intro a hs) | ((with_reducible apply lCons); first | (refine dv hs gw_ rfl rfl da_ ?_; clear hs hm a; rintro _ w ⟨g, rfl, -, hm⟩ a hs) | (refine stn hs rfl rfl ds_ ?_; clear hs hm a; rintro - w hm a hs)) | refine sc_ ?_)
    exact gRetN tab hs rfl (.cons (.cells rfl rfl rfl rfl (hm.ro (k := 0) (n := 4) mem_ (cutF_ok rfl))) .nil) ⟨rfl, hm.fr⟩
theorem jump_c (op : Int) (wB : World) : Ret Tryz.prog 31 [.int .i64 op] wB (fun u w' => u = .bool (jumpB op) ∧ Pu wB w') := by
  by_cases h18 : op = 18
  · rw [show jumpB op = true from decide_eq_true (by omega)]
    refine enterR Tryz.func31 rfl rfl rfl fun a hs hm => ?_
    repeat (first | (refine ovR_ ?_; clear hs a; intro a hs) | ((with_reducible apply lCons); first | (refine dv hs gw_ rfl rfl da_ ?_; clear hs hm a; rintro _ w ⟨g, rfl, -, hm⟩ a hs) | (refine stn hs rfl rfl ds_ ?_; clear hs hm a; rintro - w hm a hs)) | refine sc_ ?_)
    exact gRet1 hs rfl rfl ⟨rfl, hm.fr⟩
  by_cases h19 : op = 19
  · rw [show jumpB op = true from decide_eq_true (by omega)]
    refine enterR Tryz.func31 rfl rfl rfl fun a hs hm => ?_
    repeat (first | (refine ovR_ ?_; clear hs a; intro a hs) | ((with_reducible apply lCons); first | (refine dv hs gw_ rfl rfl da_ ?_; clear hs hm a; rintro _ w ⟨g, rfl, -, hm⟩ a hs) | (refine stn hs rfl rfl ds_ ?_; clear hs hm a; rintro - w hm a hs)) | refine sc_ ?_)
    exact gRet1 hs rfl rfl ⟨rfl, hm.fr⟩
  by_cases h20 : op = 20
  · rw [show jumpB op = true from decide_eq_true (by omega)]
    refine enterR Tryz.func31 rfl rfl rfl fun a hs hm => ?_
    repeat (first | (refine ovR_ ?_; clear hs a; intro a hs) | ((with_reducible apply lCons); first | (refine dv hs gw_ rfl rfl da_ ?_; clear hs hm a; rintro _ w ⟨g, rfl, -, hm⟩ a hs) | (refine stn hs rfl rfl ds_ ?_; clear hs hm a; rintro - w hm a hs)) | refine sc_ ?_)
    exact gRet1 hs rfl rfl ⟨rfl, hm.fr⟩
  by_cases h21 : op = 21
  · rw [show jumpB op = true from decide_eq_true (by omega)]
    refine enterR Tryz.func31 rfl rfl rfl fun a hs hm => ?_
    repeat (first | (refine ovR_ ?_; clear hs a; intro a hs) | ((with_reducible apply lCons); first | (refine dv hs gw_ rfl rfl da_ ?_; clear hs hm a; rintro _ w ⟨g, rfl, -, hm⟩ a hs) | (refine stn hs rfl rfl ds_ ?_; clear hs hm a; rintro - w hm a hs)) | refine sc_ ?_)
    exact gRet1 hs rfl rfl ⟨rfl, hm.fr⟩
  · rw [show jumpB op = false from decide_eq_false (by omega)]
    refine enterR Tryz.func31 rfl rfl rfl fun a hs hm => ?_
    repeat (first | (refine ovR_ ?_; clear hs a; intro a hs) | ((with_reducible apply lCons); first | (refine dv hs gw_ rfl rfl da_ ?_; clear hs hm a; rintro _ w ⟨g, rfl, -, hm⟩ a hs) | (refine stn hs rfl rfl ds_ ?_; clear hs hm a; rintro - w hm a hs)) | refine sc_ ?_)
    exact gRet1 hs rfl rfl ⟨rfl, hm.fr⟩
theorem li_c (r k : Int) (wB : World) : Ret Tryz.prog 29 [.int .i64 r, .int .i64 k] wB (fun u w' => u = (inA ⟨1,r,0,0,k⟩) ∧ Pu wB w') := by
  refine enterR Tryz.func29 rfl rfl rfl fun a hs hm => ?_
  repeat (first | (refine ovR_ ?_; clear hs a; intro a hs) | ((with_reducible apply lCons); first | (refine dv hs gw_ rfl rfl da_ ?_; clear hs hm a; rintro _ w ⟨g, rfl, -, hm⟩ a hs) | (refine stn hs rfl rfl ds_ ?_; clear hs hm a; rintro - w hm a hs)) | refine sc_ ?_)
  exact gRetN tab hs rfl (.cons (.cells rfl rfl rfl rfl (hm.ro (k := 0) (n := 5) mem_ (cutF_ok rfl))) .nil) ⟨rfl, hm.fr⟩
theorem mov_c (r k : Int) (wB : World) : Ret Tryz.prog 52 [.int .i64 r, .int .i64 k] wB (fun u w' => u = (inA ⟨2,r,k,0,0⟩) ∧ Pu wB w') := by
  refine enterR Tryz.func52 rfl rfl rfl fun a hs hm => ?_
  repeat (first | (refine ovR_ ?_; clear hs a; intro a hs) | ((with_reducible apply lCons); first | (refine dv hs gw_ rfl rfl da_ ?_; clear hs hm a; rintro _ w ⟨g, rfl, -, hm⟩ a hs) | (refine stn hs rfl rfl ds_ ?_; clear hs hm a; rintro - w hm a hs)) | refine sc_ ?_)
  exact gRetN tab hs rfl (.cons (.cells rfl rfl rfl rfl (hm.ro (k := 0) (n := 5) mem_ (cutF_ok rfl))) .nil) ⟨rfl, hm.fr⟩
theorem sys_c (k : Int) (wB : World) : Ret Tryz.prog 30 [.int .i64 k] wB (fun u w' => u = inA ⟨23, 0, 0, 0, k⟩ ∧ Pu wB w') := by
  refine enterR Tryz.func30 rfl rfl rfl fun a hs hm => ?_
  repeat (first | (refine ovR_ ?_; clear hs a; intro a hs) | ((with_reducible apply lCons); first | (refine dv hs gw_ rfl rfl da_ ?_; clear hs hm a; rintro _ w ⟨g, rfl, -, hm⟩ a hs) | (refine stn hs rfl rfl ds_ ?_; clear hs hm a; rintro - w hm a hs)) | refine sc_ ?_)
  exact gRetN tab hs rfl (.cons (.cells rfl rfl rfl rfl (hm.ro (k := 0) (n := 5) mem_ (cutF_ok rfl))) .nil) ⟨rfl, hm.fr⟩
end Go.Proofs.YtajkekhnfobgiaaGreatDoor

/- Calls with the deck that make blocks; words; one instruction. -/
namespace Go.Proofs.YtajkekhnfobgiaaGreatDoor
set_option maxRecDepth 20000
open Go.RowKit

theorem Mm.into {S : Nat → Prop} {w0 w w' : World} {M M' : List Hp} {h h' : Hp} (hm : Mm S w0 M w) (hk : Mm (own [h]) w [h'] w') (hg : h'.g = h.g) (hR : Rep M h h' M') : Mm S w0 M' w' := by
  refine hm.turn hR ⟨hk.fr.os, hk.fr.tape, hk.fr.output, hk.fr.size, fun k hk' hne => hk.fr.block k hk' fun ⟨z, hz, e⟩ => hne ?_⟩ (hk.me _ (List.mem_singleton.2 rfl)) fun g hg' => .inl (by rw [← hg]; exact hg')
  rcases List.mem_singleton.1 hz with rfl
  exact e
theorem Apart.cross : ∀ {A B : List Hp}, Apart (A ++ B) → ∀ x ∈ A, ∀ y ∈ B, ∀ g, x.g = some g → y.g = some g → False
  | a :: t, B, h, x, hx, y, hy, g, e1, e2 => by
    rcases List.mem_cons.1 hx with rfl | hx
    · exact h.1 y (List.mem_append_right _ hy) g e1 e2
    · exact Apart.cross (A := t) h.2 x hx y hy g e1 e2
/-- a call has changed one own block and made others -/
theorem Mm.deck {S : Nat → Prop} {w0 w w' : World} {M M' R : List Hp} {h h' : Hp} (hm : Mm S w0 M w) (hk : Mm (own [h]) w (R ++ [h']) w') (hg : h'.g = h.g) (hR : Rep M h h' M') : Mm S w0 (R ++ M') w' := by
  have h1 := hm.into (hk.sub (List.sublist_append_right _ _)) hg hR
  have hfresh : ∀ x ∈ R, ∀ g, x.g = some g → w.heap.size ≤ g := fun x hx g e => by
    rcases hk.ow x (List.mem_append_left _ hx) g e with h2 | ⟨z, hz, e2⟩
    · exact h2
    · rcases List.mem_singleton.1 hz with rfl
      exact (Apart.cross hk.dj x hx h' (List.mem_singleton.2 rfl) g e (by rw [hg]; exact e2)).elim
  obtain ⟨O, o1, o2, o3⟩ := hR.others hm.dj
  have hold : ∀ y ∈ M', ∀ g, y.g = some g → g < w.heap.size := fun y hy g e => by
    rcases o1 y hy with rfl | hy
    · exact Hp.lt (hm.me h hR.mem) (by rw [← hg]; exact e)
    · exact Hp.lt (hm.me y (o2 y hy)) e
  refine ⟨fun x hx => ?_, h1.fr, (hk.dj.sub (List.sublist_append_left _ _)).append h1.dj ?_, fun x hx g e => ?_⟩
  · rcases List.mem_append.1 hx with hx | hx
    · exact hk.me x (List.mem_append_left _ hx)
    · exact h1.me x hx
  · intro x hx y hy g e1 e2
    have := hfresh x hx g e1
    have := hold y hy g e2
    omega
  · rcases List.mem_append.1 hx with hx | hx
    · exact .inl (Nat.le_trans hm.fr.size (hfresh x hx g e))
    · exact h1.ow x hx g e
def wds (xs : List Int) : List Value := xs.map (Value.int .u16)
structure WdX where
  m : Nat
  at_ : Nat
  xs : List Int
  A : Option Nat
  c : Nat
  cs : List Value
theorem wds_snoc (xs : List Int) (x : Int) : wds xs ++ [.int .u16 x] = wds (xs ++ [x]) := by simp [wds]

set_option maxHeartbeats 4000000 in
theorem wds_c (gd : Nat) (A : Option Addr) (n c at_ : Nat) (xs : List Int) (k : Nat) (wB : World) (h : Dk gd A n c at_ xs wB) (hk : k ≤ 1000) :
    Ret Tryz.prog 26 [.pointer (some ⟨gd, 0, none⟩), .int .i64 (k : Int)] wB (fun u w' => ∃ (a1 : Nat) (wA : Option Nat) (wc : Nat) (wcs : List Value) (ys : List Int), u = slv wA ys.length wc ∧ Row wA ys.length wc 1 (wds ys) wcs ∧ ys.length ≤ k ∧ (∀ y ∈ ys, 0 ≤ y ∧ y ≤ 65535) ∧ Mm (own [dk gd A n c at_]) wB [⟨wA, 74, wcs⟩, dk gd A n c a1] w') := by
  refine enterR Tryz.func26 rfl rfl rfl fun a hs hm => ?_
  clear hm
  have hm := h.in_
  repeat (first | (refine ovR_ ?_; clear hs a; intro a hs) | ((with_reducible apply lCons); first | (refine dv hs gw_ rfl rfl da_ ?_; clear hs hm a; rintro _ w ⟨g, rfl, -, hm⟩ a hs) | (refine stn hs rfl rfl ds_ ?_; clear hs hm a; rintro - w hm a hs)) | refine sc_ ?_)
  refine st hs rfl rfl rfl (d_call hs rfl rfl rfl (pl 27 rfl) ((nxt_c gd A n c _ xs (k+1) _ (h.now hm mem_) (by omega) (by omega)))) ?_; clear hs a; rintro _ w1 ⟨r1, rfl, b1, a1, k1, hf⟩ a hs
  replace hm := hm.dkt rep_ k1 hf
  clear hf
  repeat (first | (refine ovR_ ?_; clear hs a; intro a hs) | ((with_reducible apply lCons); first | (refine dv hs gw_ rfl rfl da_ ?_; clear hs hm a; rintro _ w ⟨g, rfl, -, hm⟩ a hs) | (refine stn hs rfl rfl ds_ ?_; clear hs hm a; rintro - w hm a hs)) | refine sc_ ?_)
  replace hm := hm.zero 74
  refine cLoop (X := WdX) (fun x a w' => Sl Tryz.f26.ntmps [(0, .pointer (some ⟨gd, 0, none⟩)), (5, slv x.A x.xs.length x.c), (6, .int .i64 (x.m : Int))] a ∧ Mm (own [dk gd A n c at_]) wB [⟨x.A, 74, x.cs⟩, dk gd A n c x.at_] w' ∧ Row x.A x.xs.length x.c 1 (wds x.xs) x.cs ∧ x.xs.length + x.m ≤ k ∧ ∀ y ∈ x.xs, 0 ≤ y ∧ y ≤ 65535) (fun x => x.m) ⟨r1, a1, [], none, 0, []⟩ ⟨hs.sub (Has.all ⟨rfl, rfl, rfl, trivial⟩), hm, (Row.empty 1 : Row none 0 0 1 [] []), by dsimp only; rw [List.length_nil]; omega, fun y hy => absurd hy List.not_mem_nil⟩ ?_
  clear hs hm a
  rintro ⟨m, at1, ys, wA, wc, wcs⟩ a w' ⟨hs, hm, hr, h4, hbd⟩
  dsimp only at *
  by_cases hm0 : 0 < m
  · obtain ⟨m, rfl⟩ : ∃ k, m = k + 1 := ⟨m - 1, by omega⟩
    repeat (first | (refine ovR_ ?_; clear hs a; intro a hs) | ((with_reducible apply lCons); first | (refine dv hs gw_ rfl rfl da_ ?_; clear hs hm a; rintro _ w ⟨g, rfl, -, hm⟩ a hs) | (refine stn hs rfl rfl ds_ ?_; clear hs hm a; rintro - w hm a hs)) | refine sc_ ?_)
    refine st hs rfl rfl rfl (d_call hs rfl rfl rfl (pl 51 rfl) ((wrd_c gd A n c _ xs _ (h.now hm mem_)))) ?_; clear hs a; rintro _ w1 ⟨z, rfl, hz, a2, k2, hf⟩ a hs
    replace hm := hm.dkt rep_ k2 hf
    clear hf
    repeat (first | (refine ovR_ ?_; clear hs a; intro a hs) | ((with_reducible apply lCons); first | (refine dv hs gw_ rfl rfl da_ ?_; clear hs hm a; rintro _ w ⟨g, rfl, -, hm⟩ a hs) | (refine stn hs rfl rfl ds_ ?_; clear hs hm a; rintro - w hm a hs)) | refine sc_ ?_)
    refine dv hs (Wnt.none rfl) rfl rfl (d_append (A := wA) (n := ys.length) (c := wc) (news := [.int .u16 z]) hs rfl rfl rfl rfl rfl tab rfl rfl rfl rfl rfl hm mem_ hr rfl (hm.ro (n := 1) mem_ (cutF_ok rfl)) rfl (by show (ys.length + 1) * 2 ≤ _; omega) (by omega)) ?_
    clear hs
    rintro _ w2 ⟨A', c', cs', rfl, hr2, hM⟩ a hs
    replace hm := hM _ rep_
    clear hM
    rw [wds_snoc] at hr2
    repeat (first | (refine ovR_ ?_; clear hs a; intro a hs) | ((with_reducible apply lCons); first | (refine dv hs gw_ rfl rfl da_ ?_; clear hs hm a; rintro _ w ⟨g, rfl, -, hm⟩ a hs) | (refine stn hs rfl rfl ds_ ?_; clear hs hm a; rintro - w hm a hs)) | refine sc_ ?_)
    refine ⟨⟨m, a2, ys ++ [z], A', c', cs'⟩, by dsimp only; omega, ?_⟩
    dsimp only
    rw [List.length_append, List.length_singleton]
    refine ⟨hs.sub (Has.all ⟨rfl, rfl, rfl, trivial⟩), hm.sub sub_, hr2, by omega, fun y hy => ?_⟩
    rcases List.mem_append.1 hy with hy | hy
    · exact hbd y hy
    · rcases List.mem_singleton.1 hy with rfl; exact hz
  · repeat (first | (refine ovR_ ?_; clear hs a; intro a hs) | ((with_reducible apply lCons); first | (refine dv hs gw_ rfl rfl da_ ?_; clear hs hm a; rintro _ w ⟨g, rfl, -, hm⟩ a hs) | (refine stn hs rfl rfl ds_ ?_; clear hs hm a; rintro - w hm a hs)) | refine sc_ ?_)
    exact gRet1 hs rfl rfl ⟨at1, wA, wc, wcs, ys, rfl, hr, by omega, hbd, hm⟩
end Go.Proofs.YtajkekhnfobgiaaGreatDoor

/- The deck: one instruction. -/
namespace Go.Proofs.YtajkekhnfobgiaaGreatDoor
set_option maxRecDepth 20000
open Go.RowKit
theorem ovXPg30_ {G H : Prop} (k : H) (s : H → G := by intro k; (with_reducible refine toL hm ?_); first | exact oneV hs gw_ rfl rfl (by intro w hm; (first | exact kvR_ | exact kb2_)) k | exact oneN hs rfl rfl rfl rfl rfl rfl rfl k | exact oneU hs rfl rfl rfl rfl rfl rfl k) : G := s k

theorem wrap_idP {v : Int} (h : -9223372036854775808 ≤ v ∧ v ≤ 9223372036854775807) : IntKind.i64.wrap v = v := by simp [IntKind.wrap, IntKind.signed, IntKind.bits]; omega
theorem uses_imm {op : Int} (h : (18 ≤ op ∧ op ≤ 21) ∨ op = 15 ∨ op = 23) : (usesF op).2.2.2 = true := by
  rcases (by omega : op = 18 ∨ op = 19 ∨ op = 20 ∨ op = 21 ∨ op = 15 ∨ op = 23) with rfl | rfl | rfl | rfl | rfl | rfl <;> rfl

set_option maxHeartbeats 8000000 in
theorem ins_c (gd : Nat) (A : Option Addr) (n c at_ : Nat) (xs : List Int) (ns mo : Int) (wB : World) (h : Dk gd A n c at_ xs wB) (hns : 1 ≤ ns ∧ ns ≤ 4) (hmo : 1 ≤ mo ∧ mo ≤ 70) :
    Ret Tryz.prog 53 [.pointer (some ⟨gd, 0, none⟩), .int .i64 ns, .int .i64 mo] wB (fun u w' => ∃ i : In, u = inA i ∧ InV i ns ∧ DkR gd A n c xs wB w') := by
  have hus := fun w op => uses_c op w
  have hjm := fun w op => jump_c op w
  refine enterR Tryz.func53 rfl rfl rfl fun a hs hm => ?_
  clear hm
  have hm := h.in_
  repeat (first | (refine ovXPg30_ ?_; clear hs a; intro a hs) | ((with_reducible apply lCons); first | (refine dv hs gw_ rfl rfl da_ ?_; clear hs hm a; rintro _ w ⟨g, rfl, -, hm⟩ a hs) | (refine stn hs rfl rfl ds_ ?_; clear hs hm a; rintro - w hm a hs)) | refine sc_ ?_)
  refine st hs rfl rfl rfl (d_call hs rfl rfl rfl (pl 27 rfl) ((nxt_c gd A n c _ xs 25 _ (h.now hm mem_) (by omega) (by omega)))) ?_; clear hs a; rintro _ w1 ⟨r1, rfl, b1, a1, k1, hf⟩ a hs
  replace hm := hm.dkt rep_ k1 hf
  clear hf
  obtain ⟨⟨u1, u2, u3, u4⟩, hu⟩ : ∃ u, usesF (r1 : Int) = u := ⟨_, rfl⟩
  have hus1 := fun w => hus w (r1 : Int)
  rw [hu] at hus1
  obtain ⟨jb, hjb⟩ : ∃ b, jumpB (r1 : Int) = b := ⟨_, rfl⟩
  have hjm1 := fun w => hjm w (r1 : Int)
  rw [hjb] at hjm1
  unfold u4V at hus1
  dsimp only at hus1
  repeat (first | (refine ovXPg30_ ?_; clear hs a; intro a hs) | ((with_reducible apply lCons); first | (refine dv hs gw_ rfl rfl da_ ?_; clear hs hm a; rintro _ w ⟨g, rfl, -, hm⟩ a hs) | (refine stn hs rfl rfl ds_ ?_; clear hs hm a; rintro - w hm a hs) | (refine dvc hs hm gw_ rfl rfl rfl rfl rfl (pl 40 rfl) (hus1 _) ?_; clear hs hm a; intro w hm a hs) | (refine dvc hs hm gw_ rfl rfl rfl rfl rfl (pl 31 rfl) (hjm1 _) ?_; clear hs hm a; intro w hm a hs)) | refine sc_ ?_)
  obtain ⟨g6, en_⟩ := hs.pt 6 (by exact rfl); subst en_
  obtain ⟨g7, en_⟩ := hs.pt 7 (by exact rfl); subst en_
  obtain ⟨g8, en_⟩ := hs.pt 8 (by exact rfl); subst en_
  refine cMid (fun a w' => ∃ (va : Int) (a2 : Nat), (0 ≤ va ∧ va < 8 ∧ (u1 = false → va = 0)) ∧ Sl Tryz.f53.ntmps [(0, .pointer (some ⟨gd, 0, none⟩)), (1, .int .i64 ns), (2, .int .i64 mo), (6, .pointer (some ⟨g6, 0, none⟩)), (7, .pointer (some ⟨g7, 0, none⟩)), (8, .pointer (some ⟨g8, 0, none⟩))] a ∧ Mm (own [dk gd A n c at_]) wB [⟨some g8, 78, [.bool u1, .bool u2, .bool u3, .bool u4]⟩, ⟨some g7, 54, [.int .i64 (r1 : Int), .int .i64 va, .int .i64 0, .int .i64 0, .int .i64 0]⟩, ⟨some g6, 54, [.int .i64 0, .int .i64 0, .int .i64 0, .int .i64 0, .int .i64 0]⟩, dk gd A n c a2] w') ?_ ?_
  · cases u1
    · repeat (first | (refine ovXPg30_ ?_; clear hs a; intro a hs) | ((with_reducible apply lCons); first | (refine dv hs gw_ rfl rfl da_ ?_; clear hs hm a; rintro _ w ⟨g, rfl, -, hm⟩ a hs) | (refine stn hs rfl rfl ds_ ?_; clear hs hm a; rintro - w hm a hs)) | refine sc_ ?_)
      exact And.intro rfl ⟨0, _, ⟨by omega, by omega, fun _ => rfl⟩, hs.sub (Has.all ⟨rfl, rfl, rfl, rfl, rfl, rfl, trivial⟩), hm⟩
    · repeat (first | (refine ovXPg30_ ?_; clear hs a; intro a hs) | ((with_reducible apply lCons); first | (refine dv hs gw_ rfl rfl da_ ?_; clear hs hm a; rintro _ w ⟨g, rfl, -, hm⟩ a hs) | (refine stn hs rfl rfl ds_ ?_; clear hs hm a; rintro - w hm a hs)) | refine sc_ ?_)
      refine st hs rfl rfl rfl (d_call hs rfl rfl rfl (pl 27 rfl) ((nxt_c gd A n c _ xs 8 _ (h.now hm mem_) (by omega) (by omega)))) ?_; clear hs a; rintro _ w1 ⟨r2, rfl, b2, a2, k2, hf⟩ a hs
      replace hm := hm.dkt rep_ k2 hf
      clear hf
      repeat (first | (refine ovXPg30_ ?_; clear hs a; intro a hs) | ((with_reducible apply lCons); first | (refine dv hs gw_ rfl rfl da_ ?_; clear hs hm a; rintro _ w ⟨g, rfl, -, hm⟩ a hs) | (refine stn hs rfl rfl ds_ ?_; clear hs hm a; rintro - w hm a hs)) | refine sc_ ?_)
      exact And.intro rfl ⟨_, _, ⟨Int.natCast_nonneg _, b2, fun e => by cases e⟩, hs.sub (Has.all ⟨rfl, rfl, rfl, rfl, rfl, rfl, trivial⟩), hm⟩
  clear hs hm a
  rintro a w2 ⟨va, at0, hva, hs, hm⟩
  repeat (first | (refine ovXPg30_ ?_; clear hs a; intro a hs) | ((with_reducible apply lCons); first | (refine dv hs gw_ rfl rfl da_ ?_; clear hs hm a; rintro _ w ⟨g, rfl, -, hm⟩ a hs) | (refine stn hs rfl rfl ds_ ?_; clear hs hm a; rintro - w hm a hs) | (refine dvc hs hm gw_ rfl rfl rfl rfl rfl (pl 31 rfl) (hjm1 _) ?_; clear hs hm a; intro w hm a hs)) | refine sc_ ?_)
  refine cMid (fun a w' => ∃ (vb : Int) (a2 : Nat), (0 ≤ vb ∧ vb < 8 ∧ (u2 = false → vb = 0)) ∧ Sl Tryz.f53.ntmps [(0, .pointer (some ⟨gd, 0, none⟩)), (1, .int .i64 ns), (2, .int .i64 mo), (6, .pointer (some ⟨g6, 0, none⟩)), (7, .pointer (some ⟨g7, 0, none⟩)), (8, .pointer (some ⟨g8, 0, none⟩))] a ∧ Mm (own [dk gd A n c at_]) wB [⟨some g8, 78, [.bool u1, .bool u2, .bool u3, .bool u4]⟩, ⟨some g7, 54, [.int .i64 (r1 : Int), .int .i64 va, .int .i64 vb, .int .i64 0, .int .i64 0]⟩, ⟨some g6, 54, [.int .i64 0, .int .i64 0, .int .i64 0, .int .i64 0, .int .i64 0]⟩, dk gd A n c a2] w') ?_ ?_
  · cases u2
    · repeat (first | (refine ovXPg30_ ?_; clear hs a; intro a hs) | ((with_reducible apply lCons); first | (refine dv hs gw_ rfl rfl da_ ?_; clear hs hm a; rintro _ w ⟨g, rfl, -, hm⟩ a hs) | (refine stn hs rfl rfl ds_ ?_; clear hs hm a; rintro - w hm a hs)) | refine sc_ ?_)
      exact And.intro rfl ⟨0, _, ⟨by omega, by omega, fun _ => rfl⟩, hs.sub (Has.all ⟨rfl, rfl, rfl, rfl, rfl, rfl, trivial⟩), hm⟩
    · repeat (first | (refine ovXPg30_ ?_; clear hs a; intro a hs) | ((with_reducible apply lCons); first | (refine dv hs gw_ rfl rfl da_ ?_; clear hs hm a; rintro _ w ⟨g, rfl, -, hm⟩ a hs) | (refine stn hs rfl rfl ds_ ?_; clear hs hm a; rintro - w hm a hs)) | refine sc_ ?_)
      refine st hs rfl rfl rfl (d_call hs rfl rfl rfl (pl 27 rfl) ((nxt_c gd A n c _ xs 8 _ (h.now hm mem_) (by omega) (by omega)))) ?_; clear hs a; rintro _ w1 ⟨r2, rfl, b2, a2, k2, hf⟩ a hs
      replace hm := hm.dkt rep_ k2 hf
      clear hf
      repeat (first | (refine ovXPg30_ ?_; clear hs a; intro a hs) | ((with_reducible apply lCons); first | (refine dv hs gw_ rfl rfl da_ ?_; clear hs hm a; rintro _ w ⟨g, rfl, -, hm⟩ a hs) | (refine stn hs rfl rfl ds_ ?_; clear hs hm a; rintro - w hm a hs)) | refine sc_ ?_)
      exact And.intro rfl ⟨_, _, ⟨Int.natCast_nonneg _, b2, fun e => by cases e⟩, hs.sub (Has.all ⟨rfl, rfl, rfl, rfl, rfl, rfl, trivial⟩), hm⟩
  clear hs hm a
  rintro a w3 ⟨vb, at1, hvb, hs, hm⟩
  repeat (first | (refine ovXPg30_ ?_; clear hs a; intro a hs) | ((with_reducible apply lCons); first | (refine dv hs gw_ rfl rfl da_ ?_; clear hs hm a; rintro _ w ⟨g, rfl, -, hm⟩ a hs) | (refine stn hs rfl rfl ds_ ?_; clear hs hm a; rintro - w hm a hs) | (refine dvc hs hm gw_ rfl rfl rfl rfl rfl (pl 31 rfl) (hjm1 _) ?_; clear hs hm a; intro w hm a hs)) | refine sc_ ?_)
  refine cMid (fun a w' => ∃ (vc : Int) (a2 : Nat), (0 ≤ vc ∧ vc < 8 ∧ (u3 = false → vc = 0)) ∧ Sl Tryz.f53.ntmps [(0, .pointer (some ⟨gd, 0, none⟩)), (1, .int .i64 ns), (2, .int .i64 mo), (6, .pointer (some ⟨g6, 0, none⟩)), (7, .pointer (some ⟨g7, 0, none⟩)), (8, .pointer (some ⟨g8, 0, none⟩))] a ∧ Mm (own [dk gd A n c at_]) wB [⟨some g8, 78, [.bool u1, .bool u2, .bool u3, .bool u4]⟩, ⟨some g7, 54, [.int .i64 (r1 : Int), .int .i64 va, .int .i64 vb, .int .i64 vc, .int .i64 0]⟩, ⟨some g6, 54, [.int .i64 0, .int .i64 0, .int .i64 0, .int .i64 0, .int .i64 0]⟩, dk gd A n c a2] w') ?_ ?_
  · cases u3
    · repeat (first | (refine ovXPg30_ ?_; clear hs a; intro a hs) | ((with_reducible apply lCons); first | (refine dv hs gw_ rfl rfl da_ ?_; clear hs hm a; rintro _ w ⟨g, rfl, -, hm⟩ a hs) | (refine stn hs rfl rfl ds_ ?_; clear hs hm a; rintro - w hm a hs)) | refine sc_ ?_)
      exact And.intro rfl ⟨0, _, ⟨by omega, by omega, fun _ => rfl⟩, hs.sub (Has.all ⟨rfl, rfl, rfl, rfl, rfl, rfl, trivial⟩), hm⟩
    · repeat (first | (refine ovXPg30_ ?_; clear hs a; intro a hs) | ((with_reducible apply lCons); first | (refine dv hs gw_ rfl rfl da_ ?_; clear hs hm a; rintro _ w ⟨g, rfl, -, hm⟩ a hs) | (refine stn hs rfl rfl ds_ ?_; clear hs hm a; rintro - w hm a hs)) | refine sc_ ?_)
      refine st hs rfl rfl rfl (d_call hs rfl rfl rfl (pl 27 rfl) ((nxt_c gd A n c _ xs 8 _ (h.now hm mem_) (by omega) (by omega)))) ?_; clear hs a; rintro _ w1 ⟨r2, rfl, b2, a2, k2, hf⟩ a hs
      replace hm := hm.dkt rep_ k2 hf
      clear hf
      repeat (first | (refine ovXPg30_ ?_; clear hs a; intro a hs) | ((with_reducible apply lCons); first | (refine dv hs gw_ rfl rfl da_ ?_; clear hs hm a; rintro _ w ⟨g, rfl, -, hm⟩ a hs) | (refine stn hs rfl rfl ds_ ?_; clear hs hm a; rintro - w hm a hs)) | refine sc_ ?_)
      exact And.intro rfl ⟨_, _, ⟨Int.natCast_nonneg _, b2, fun e => by cases e⟩, hs.sub (Has.all ⟨rfl, rfl, rfl, rfl, rfl, rfl, trivial⟩), hm⟩
  clear hs hm a
  rintro a w4 ⟨vc, at2, hvc, hs, hm⟩
  repeat (first | (refine ovXPg30_ ?_; clear hs a; intro a hs) | ((with_reducible apply lCons); first | (refine dv hs gw_ rfl rfl da_ ?_; clear hs hm a; rintro _ w ⟨g, rfl, -, hm⟩ a hs) | (refine stn hs rfl rfl ds_ ?_; clear hs hm a; rintro - w hm a hs) | (refine dvc hs hm gw_ rfl rfl rfl rfl rfl (pl 31 rfl) (hjm1 _) ?_; clear hs hm a; intro w hm a hs)) | refine sc_ ?_)
  have hj4 : jb = true → 18 ≤ (r1 : Int) ∧ (r1 : Int) ≤ 21 := fun e => by rw [e] at hjb; exact of_decide_eq_true hjb
  have hu4 : (18 ≤ (r1 : Int) ∧ (r1 : Int) ≤ 21) ∨ (r1 : Int) = 15 ∨ (r1 : Int) = 23 → u4 = true := fun e => by
    have e2 := uses_imm (op := (r1 : Int)) (by omega)
    rw [hu] at e2
    exact e2
  cases jb
  · by_cases h15 : (r1 : Int) = 15
    · have e4 := hu4 (by omega)
      repeat (first | (refine ovXPg30_ ?_; clear hs a; intro a hs) | ((with_reducible apply lCons); first | (refine dv hs gw_ rfl rfl da_ ?_; clear hs hm a; rintro _ w ⟨g, rfl, -, hm⟩ a hs) | (refine stn hs rfl rfl ds_ ?_; clear hs hm a; rintro - w hm a hs)) | refine sc_ ?_)
      refine st hs rfl rfl rfl (d_call hs rfl rfl rfl (pl 27 rfl) ((nxt_c gd A n c _ xs ns _ (h.now hm mem_) (by omega) (by omega)))) ?_; clear hs a; rintro _ w1 ⟨r5, rfl, b5, a5, k5, hf⟩ a hs
      replace hm := hm.dkt rep_ k5 hf
      clear hf
      repeat (first | (refine ovXPg30_ ?_; clear hs a; intro a hs) | ((with_reducible apply lCons); first | (refine dv hs gw_ rfl rfl da_ ?_; clear hs hm a; rintro _ w ⟨g, rfl, -, hm⟩ a hs) | (refine stn hs rfl rfl ds_ ?_; clear hs hm a; rintro - w hm a hs)) | refine sc_ ?_)
      exact gRetN tab hs rfl (.cons (.cells rfl rfl rfl rfl (hm.ro (k := 0) (n := 5) (g := g6) mem_ (cutF_ok rfl))) .nil) ⟨⟨r1, va, vb, vc, (r5 : Int)⟩, rfl, ⟨⟨Int.natCast_nonneg _, by dsimp only; omega⟩, ⟨hva.1, hva.2.1, by dsimp only; rw [hu]; exact hva.2.2⟩, ⟨hvb.1, hvb.2.1, by dsimp only; rw [hu]; exact hvb.2.2⟩, ⟨hvc.1, hvc.2.1, by dsimp only; rw [hu]; exact hvc.2.2⟩, ⟨Int.natCast_nonneg _, by dsimp only; omega, by dsimp only; rw [hu, e4]; exact fun e => by cases e⟩, (fun _ => b5), (fun e => by dsimp only at e; omega)⟩, _, h.now hm mem_, Dk.out hm⟩
    by_cases h23 : (r1 : Int) = 23
    · have e4 := hu4 (by omega)
      repeat (first | (refine ovXPg30_ ?_; clear hs a; intro a hs) | ((with_reducible apply lCons); first | (refine dv hs gw_ rfl rfl da_ ?_; clear hs hm a; rintro _ w ⟨g, rfl, -, hm⟩ a hs) | (refine stn hs rfl rfl ds_ ?_; clear hs hm a; rintro - w hm a hs)) | refine sc_ ?_)
      refine st hs rfl rfl rfl (d_call hs rfl rfl rfl (pl 27 rfl) ((nxt_c gd A n c _ xs 16 _ (h.now hm mem_) (by omega) (by omega)))) ?_; clear hs a; rintro _ w1 ⟨r5, rfl, b5, a5, k5, hf⟩ a hs
      replace hm := hm.dkt rep_ k5 hf
      clear hf
      repeat (first | (refine ovXPg30_ ?_; clear hs a; intro a hs) | ((with_reducible apply lCons); first | (refine dv hs gw_ rfl rfl da_ ?_; clear hs hm a; rintro _ w ⟨g, rfl, -, hm⟩ a hs) | (refine stn hs rfl rfl ds_ ?_; clear hs hm a; rintro - w hm a hs)) | refine sc_ ?_)
      exact gRetN tab hs rfl (.cons (.cells rfl rfl rfl rfl (hm.ro (k := 0) (n := 5) (g := g6) mem_ (cutF_ok rfl))) .nil) ⟨⟨r1, va, vb, vc, (r5 : Int)⟩, rfl, ⟨⟨Int.natCast_nonneg _, by dsimp only; omega⟩, ⟨hva.1, hva.2.1, by dsimp only; rw [hu]; exact hva.2.2⟩, ⟨hvb.1, hvb.2.1, by dsimp only; rw [hu]; exact hvb.2.2⟩, ⟨hvc.1, hvc.2.1, by dsimp only; rw [hu]; exact hvc.2.2⟩, ⟨Int.natCast_nonneg _, by dsimp only; omega, by dsimp only; rw [hu, e4]; exact fun e => by cases e⟩, (fun e => by dsimp only at e; omega), (fun _ => by dsimp only; omega)⟩, _, h.now hm mem_, Dk.out hm⟩
    · cases u4
      · repeat (first | (refine ovXPg30_ ?_; clear hs a; intro a hs) | ((with_reducible apply lCons); first | (refine dv hs gw_ rfl rfl da_ ?_; clear hs hm a; rintro _ w ⟨g, rfl, -, hm⟩ a hs) | (refine stn hs rfl rfl ds_ ?_; clear hs hm a; rintro - w hm a hs)) | refine sc_ ?_)
        exact gRetN tab hs rfl (.cons (.cells rfl rfl rfl rfl (hm.ro (k := 0) (n := 5) (g := g6) mem_ (cutF_ok rfl))) .nil) ⟨⟨r1, va, vb, vc, 0⟩, rfl, ⟨⟨Int.natCast_nonneg _, by dsimp only; omega⟩, ⟨hva.1, hva.2.1, by dsimp only; rw [hu]; exact hva.2.2⟩, ⟨hvb.1, hvb.2.1, by dsimp only; rw [hu]; exact hvb.2.2⟩, ⟨hvc.1, hvc.2.1, by dsimp only; rw [hu]; exact hvc.2.2⟩, ⟨by dsimp only; omega, by dsimp only; omega, fun _ => rfl⟩, (fun e => by dsimp only at e; omega), (fun e => by dsimp only at e; omega)⟩, _, h.now hm mem_, Dk.out hm⟩
      · repeat (first | (refine ovXPg30_ ?_; clear hs a; intro a hs) | ((with_reducible apply lCons); first | (refine dv hs gw_ rfl rfl da_ ?_; clear hs hm a; rintro _ w ⟨g, rfl, -, hm⟩ a hs) | (refine stn hs rfl rfl ds_ ?_; clear hs hm a; rintro - w hm a hs)) | refine sc_ ?_)
        refine st hs rfl rfl rfl (d_call hs rfl rfl rfl (pl 51 rfl) ((wrd_c gd A n c _ xs _ (h.now hm mem_)))) ?_; clear hs a; rintro _ w1 ⟨z, rfl, hz, a5, k5, hf⟩ a hs
        replace hm := hm.dkt rep_ k5 hf
        clear hf
        repeat (first | (refine ovXPg30_ ?_; clear hs a; intro a hs) | ((with_reducible apply lCons); first | (refine dv hs gw_ rfl rfl da_ ?_; clear hs hm a; rintro _ w ⟨g, rfl, -, hm⟩ a hs) | (refine stn hs rfl rfl ds_ ?_; clear hs hm a; rintro - w hm a hs)) | refine sc_ ?_)
        rw [wrap_idP (v := z) (by omega)] at hm
        exact gRetN tab hs rfl (.cons (.cells rfl rfl rfl rfl (hm.ro (k := 0) (n := 5) (g := g6) mem_ (cutF_ok rfl))) .nil) ⟨⟨r1, va, vb, vc, z⟩, rfl, ⟨⟨Int.natCast_nonneg _, by dsimp only; omega⟩, ⟨hva.1, hva.2.1, by dsimp only; rw [hu]; exact hva.2.2⟩, ⟨hvb.1, hvb.2.1, by dsimp only; rw [hu]; exact hvb.2.2⟩, ⟨hvc.1, hvc.2.1, by dsimp only; rw [hu]; exact hvc.2.2⟩, ⟨by dsimp only; omega, by dsimp only; omega, by dsimp only; rw [hu]; exact fun e => by cases e⟩, (fun e => by dsimp only at e; omega), (fun e => by dsimp only at e; omega)⟩, _, h.now hm mem_, Dk.out hm⟩
  · have hj5 := hj4 rfl
    have e4 := hu4 (by omega)
    repeat (first | (refine ovXPg30_ ?_; clear hs a; intro a hs) | ((with_reducible apply lCons); first | (refine dv hs gw_ rfl rfl da_ ?_; clear hs hm a; rintro _ w ⟨g, rfl, -, hm⟩ a hs) | (refine stn hs rfl rfl ds_ ?_; clear hs hm a; rintro - w hm a hs)) | refine sc_ ?_)
    refine st hs rfl rfl rfl (d_call hs rfl rfl rfl (pl 27 rfl) ((nxt_c gd A n c _ xs mo _ (h.now hm mem_) (by omega) (by omega)))) ?_; clear hs a; rintro _ w1 ⟨r5, rfl, b5, a5, k5, hf⟩ a hs
    replace hm := hm.dkt rep_ k5 hf
    clear hf
    repeat (first | (refine ovXPg30_ ?_; clear hs a; intro a hs) | ((with_reducible apply lCons); first | (refine dv hs gw_ rfl rfl da_ ?_; clear hs hm a; rintro _ w ⟨g, rfl, -, hm⟩ a hs) | (refine stn hs rfl rfl ds_ ?_; clear hs hm a; rintro - w hm a hs)) | refine sc_ ?_)
    exact gRetN tab hs rfl (.cons (.cells rfl rfl rfl rfl (hm.ro (k := 0) (n := 5) (g := g6) mem_ (cutF_ok rfl))) .nil) ⟨⟨r1, va, vb, vc, (r5 : Int)⟩, rfl, ⟨⟨Int.natCast_nonneg _, by dsimp only; omega⟩, ⟨hva.1, hva.2.1, by dsimp only; rw [hu]; exact hva.2.2⟩, ⟨hvb.1, hvb.2.1, by dsimp only; rw [hu]; exact hvb.2.2⟩, ⟨hvc.1, hvc.2.1, by dsimp only; rw [hu]; exact hvc.2.2⟩, ⟨Int.natCast_nonneg _, by dsimp only; omega, by dsimp only; rw [hu, e4]; exact fun e => by cases e⟩, (fun e => by dsimp only at e; omega), (fun e => by dsimp only at e; omega)⟩, _, h.now hm mem_, Dk.out hm⟩
end Go.Proofs.YtajkekhnfobgiaaGreatDoor

/- The deck: a part of a program. -/
namespace Go.Proofs.YtajkekhnfobgiaaGreatDoor
set_option maxRecDepth 20000
open Go.RowKit
theorem ovXPg40_ {G H : Prop} (k : H) (s : H → G := by intro k; (with_reducible refine toL hm ?_); first | exact oneV hs gw_ rfl rfl (by intro w hm; (first | exact kvR_ | exact r_min hs rfl rfl rfl | exact kb2_)) k | exact oneN hs rfl rfl rfl rfl rfl rfl rfl k | exact oneU hs rfl rfl rfl rfl rfl rfl k) : G := s k

theorem in_li {ns : Int} (r m : Int) (h1 : 0 ≤ r ∧ r < 8) (h2 : 0 ≤ m ∧ m ≤ 65535) : InV ⟨1,r,0,0,m⟩ ns := by
  refine ⟨by dsimp only; omega, ⟨by dsimp only; omega, by dsimp only; omega, fun e => ?_⟩, ⟨by dsimp only; omega, by dsimp only; omega, fun e => ?_⟩, ⟨by dsimp only; omega, by dsimp only; omega, fun e => ?_⟩, ⟨by dsimp only; omega, by dsimp only; omega, fun e => ?_⟩, fun e => ?_, fun e => ?_⟩ <;> first | rfl | (dsimp only at e; exact absurd e (by decide)) | (dsimp only at e ⊢; omega)
theorem in_lea {ns : Int} (r m : Int) (h1 : 0 ≤ r ∧ r < 8) (h2 : 0 ≤ m ∧ m < ns) (h3 : ns ≤ 4) : InV ⟨15,r,0,0,m⟩ ns := by
  refine ⟨by dsimp only; omega, ⟨by dsimp only; omega, by dsimp only; omega, fun e => ?_⟩, ⟨by dsimp only; omega, by dsimp only; omega, fun e => ?_⟩, ⟨by dsimp only; omega, by dsimp only; omega, fun e => ?_⟩, ⟨by dsimp only; omega, by dsimp only; omega, fun e => ?_⟩, fun e => ?_, fun e => ?_⟩ <;> first | rfl | (dsimp only at e; exact absurd e (by decide)) | (dsimp only at e ⊢; omega)
theorem in_sys {ns : Int} (m : Int) (h2 : 0 ≤ m ∧ m ≤ 15) : InV ⟨23,0,0,0,m⟩ ns := by
  refine ⟨by dsimp only; omega, ⟨by dsimp only; omega, by dsimp only; omega, fun e => ?_⟩, ⟨by dsimp only; omega, by dsimp only; omega, fun e => ?_⟩, ⟨by dsimp only; omega, by dsimp only; omega, fun e => ?_⟩, ⟨by dsimp only; omega, by dsimp only; omega, fun e => ?_⟩, fun e => ?_, fun e => ?_⟩ <;> first | rfl | (dsimp only at e; exact absurd e (by decide)) | (dsimp only at e ⊢; omega)
theorem in_jnz {ns : Int} (r m : Int) (h1 : 0 ≤ r ∧ r < 8) (h2 : 0 ≤ m ∧ m ≤ 65535) : InV ⟨20,r,0,0,m⟩ ns := by
  refine ⟨by dsimp only; omega, ⟨by dsimp only; omega, by dsimp only; omega, fun e => ?_⟩, ⟨by dsimp only; omega, by dsimp only; omega, fun e => ?_⟩, ⟨by dsimp only; omega, by dsimp only; omega, fun e => ?_⟩, ⟨by dsimp only; omega, by dsimp only; omega, fun e => ?_⟩, fun e => ?_, fun e => ?_⟩ <;> first | rfl | (dsimp only at e; exact absurd e (by decide)) | (dsimp only at e ⊢; omega)
theorem in_mov {ns : Int} (a b : Int) (h1 : 0 ≤ a ∧ a < 8) (h2 : 0 ≤ b ∧ b < 8) : InV ⟨2, a, b, 0, 0⟩ ns := by
  refine ⟨by dsimp only; omega, ⟨by dsimp only; omega, by dsimp only; omega, fun e => ?_⟩, ⟨by dsimp only; omega, by dsimp only; omega, fun e => ?_⟩, ⟨by dsimp only; omega, by dsimp only; omega, fun e => ?_⟩, ⟨by dsimp only; omega, by dsimp only; omega, fun e => ?_⟩, fun e => ?_, fun e => ?_⟩ <;> first | rfl | (dsimp only at e; exact absurd e (by decide)) | (dsimp only at e ⊢; omega)
theorem uses_alu {op : Int} (h : op = 3 ∨ op = 4 ∨ op = 5 ∨ op = 9 ∨ op = 10 ∨ op = 11 ∨ op = 13 ∨ op = 14) : usesF op = (true, true, true, false) := by
  rcases h with rfl | rfl | rfl | rfl | rfl | rfl | rfl | rfl <;> rfl
theorem in_alu {ns : Int} (op a b c : Int) (h : op = 3 ∨ op = 4 ∨ op = 5 ∨ op = 9 ∨ op = 10 ∨ op = 11 ∨ op = 13 ∨ op = 14) (h1 : 0 ≤ a ∧ a < 8) (h2 : 0 ≤ b ∧ b < 8) (h3 : 0 ≤ c ∧ c < 8) : InV ⟨op, a, b, c, 0⟩ ns := by
  have hu := uses_alu h
  refine ⟨by dsimp only; omega, ⟨h1.1, h1.2, fun e => ?_⟩, ⟨h2.1, h2.2, fun e => ?_⟩, ⟨h3.1, h3.2, fun e => ?_⟩, ⟨by dsimp only; omega, by dsimp only; omega, fun _ => rfl⟩, fun e => ?_, fun e => ?_⟩
  · dsimp only at e; rw [hu] at e; cases e
  · dsimp only at e; rw [hu] at e; cases e
  · dsimp only at e; rw [hu] at e; cases e
  · dsimp only at e; omega
  · dsimp only at e; omega
theorem in_st {ns : Int} (a b m : Int) (h1 : 0 ≤ a ∧ a < 8) (h2 : 0 ≤ b ∧ b < 8) (h3 : 0 ≤ m ∧ m ≤ 65535) : InV ⟨17, a, b, 0, m⟩ ns := by
  refine ⟨by dsimp only; omega, ⟨by dsimp only; omega, by dsimp only; omega, fun e => ?_⟩, ⟨by dsimp only; omega, by dsimp only; omega, fun e => ?_⟩, ⟨by dsimp only; omega, by dsimp only; omega, fun e => ?_⟩, ⟨by dsimp only; omega, by dsimp only; omega, fun e => ?_⟩, fun e => ?_, fun e => ?_⟩ <;> first | rfl | (dsimp only at e; exact absurd e (by decide)) | (dsimp only at e ⊢; omega)
theorem in_ld {ns : Int} (a b m : Int) (h1 : 0 ≤ a ∧ a < 8) (h2 : 0 ≤ b ∧ b < 8) (h3 : 0 ≤ m ∧ m ≤ 65535) : InV ⟨16, a, b, 0, m⟩ ns := by
  refine ⟨by dsimp only; omega, ⟨by dsimp only; omega, by dsimp only; omega, fun e => ?_⟩, ⟨by dsimp only; omega, by dsimp only; omega, fun e => ?_⟩, ⟨by dsimp only; omega, by dsimp only; omega, fun e => ?_⟩, ⟨by dsimp only; omega, by dsimp only; omega, fun e => ?_⟩, fun e => ?_, fun e => ?_⟩ <;> first | rfl | (dsimp only at e; exact absurd e (by decide)) | (dsimp only at e ⊢; omega)
/-- what part leaves -/
def PtR (gd : Nat) (A : Option Addr) (n c at_ : Nat) (ns : Int) (wB : World) (u : Value) (w' : World) : Prop :=
  ∃ (a1 : Nat) (pA : Option Nat) (pc : Nat) (pcs : List Value) (l : List In), u = slv pA l.length pc ∧ Row pA l.length pc 5 (l.flatMap inV) pcs ∧ 1 ≤ l.length ∧ l.length ≤ 6 ∧ (∀ i ∈ l, InV i ns) ∧ Mm (own [dk gd A n c at_]) wB [⟨pA, 54, pcs⟩, dk gd A n c a1] w'
theorem row_lit {g k s : Nat} {cs : List Value} (h : cs.length = k * s) (hk : k ≤ 1000) : Row (some g) k k s cs cs :=
  ⟨(fun e => by cases e), Nat.le_refl _, by unfold maxLen; omega, h, h, by rw [← h, List.take_length]⟩
theorem alucell (r : Nat) (h : r < 8) : ∃ z : Int, (z = 3 ∨ z = 4 ∨ z = 5 ∨ z = 9 ∨ z = 10 ∨ z = 11 ∨ z = 13 ∨ z = 14) ∧ ([.int .i64 3, .int .i64 4, .int .i64 5, .int .i64 10, .int .i64 13, .int .i64 14, .int .i64 11, .int .i64 9] : List Value)[r]? = some (.int .i64 z) := by
  rcases (by omega : r = 0 ∨ r = 1 ∨ r = 2 ∨ r = 3 ∨ r = 4 ∨ r = 5 ∨ r = 6 ∨ r = 7) with rfl | rfl | rfl | rfl | rfl | rfl | rfl | rfl
  · exact ⟨3, by omega, rfl⟩
  · exact ⟨4, by omega, rfl⟩
  · exact ⟨5, by omega, rfl⟩
  · exact ⟨10, by omega, rfl⟩
  · exact ⟨13, by omega, rfl⟩
  · exact ⟨14, by omega, rfl⟩
  · exact ⟨11, by omega, rfl⟩
  · exact ⟨9, by omega, rfl⟩

set_option maxHeartbeats 32000000 in
theorem part_c (gd : Nat) (A : Option Addr) (n c at_ : Nat) (xs : List Int) (b o m d : Nat) (ss : List Int) (mo at1 : Int) (wB : World) (h : Dk gd A n c at_ xs wB) (hl : ss.length = m) (hr : Ro wB b o (ints ss)) (hno : ¬ own [dk gd A n c at_] b) (hss : SzOk ss) (hmo : 1 ≤ mo ∧ mo ≤ 70) (hat : 0 ≤ at1 ∧ at1 ≤ 70) :
    Ret Tryz.prog 28 [.pointer (some ⟨gd, 0, none⟩), .slice (some ⟨b, o, none⟩) m d, .int .i64 mo, .int .i64 at1] wB (fun u w' => PtR gd A n c at_ (m : Int) wB u w') := by
  obtain ⟨s1, s4, sbd⟩ := hss
  have hli := fun r k w => li_c r k w
  have hmv := fun r k w => mov_c r k w
  have hsy := fun k w => sys_c k w
  refine enterR Tryz.func28 rfl rfl rfl fun a hs hm => ?_
  clear hm
  have hm := h.in_
  repeat (first | (refine ovXPg40_ ?_; clear hs a; intro a hs) | ((with_reducible apply lCons); first | (refine dv hs gw_ rfl rfl da_ ?_; clear hs hm a; rintro _ w ⟨g, rfl, -, hm⟩ a hs) | (refine stn hs rfl rfl ds_ ?_; clear hs hm a; rintro - w hm a hs)) | refine sc_ ?_)
  refine st hs rfl rfl rfl (d_call hs rfl rfl rfl (pl 27 rfl) ((nxt_c gd A n c _ xs m _ (h.now hm mem_) (by omega) (by omega)))) ?_; clear hs a; rintro _ w1 ⟨r1, rfl, b1, a1, k1, hf⟩ a hs
  replace hm := hm.dkt rep_ k1 hf
  clear hf
  have e1 := ints_some (xs := ss) (k := r1) (by omega)
  have hs1 := sbd ss[r1] (List.getElem_mem _)
  generalize ss[r1]'(_) = sz at *
  repeat (first | (refine ovXPg40_ ?_; clear hs a; intro a hs) | ((with_reducible apply lCons); first | (refine dv hs gw_ rfl rfl da_ ?_; clear hs hm a; rintro _ w ⟨g, rfl, -, hm⟩ a hs) | (refine stn hs rfl rfl ds_ ?_; clear hs hm a; rintro - w hm a hs)) | refine sc_ ?_)
  obtain ⟨q, hq⟩ : ∃ q, q = min 5 (sz + 1) := ⟨_, rfl⟩
  rw [← hq] at hs
  have hq2 : 1 ≤ q ∧ q ≤ 5 := by omega
  clear hq
  refine st hs rfl rfl rfl (d_call hs rfl rfl rfl (pl 27 rfl) ((nxt_c gd A n c _ xs q _ (h.now hm mem_) (by omega) (by omega)))) ?_; clear hs a; rintro _ w1 ⟨r2, rfl, b2, a2, k2, hf⟩ a hs
  replace hm := hm.dkt rep_ k2 hf
  clear hf
  repeat (first | (refine ovXPg40_ ?_; clear hs a; intro a hs) | ((with_reducible apply lCons); first | (refine dv hs gw_ rfl rfl da_ ?_; clear hs hm a; rintro _ w ⟨g, rfl, -, hm⟩ a hs) | (refine stn hs rfl rfl ds_ ?_; clear hs hm a; rintro - w hm a hs) | (refine dvc hs hm gw_ rfl rfl rfl rfl rfl (pl 29 rfl) (hli _ _ _) ?_; clear hs hm a; intro w hm a hs)) | refine sc_ ?_)
  obtain ⟨g11, en_⟩ := hs.ps 11 (by exact rfl); subst en_
  refine st hs rfl rfl rfl (d_call hs rfl rfl rfl (pl 27 rfl) ((nxt_c gd A n c _ xs 20 _ (h.now hm mem_) (by omega) (by omega)))) ?_; clear hs a; rintro _ w1 ⟨r3, rfl, b3, a3, k3, hf⟩ a hs
  replace hm := hm.dkt rep_ k3 hf
  clear hf
  have hbuf : Row (some g11) 2 2 5 ([⟨15, 1, 0, 0, (r1 : Int)⟩, ⟨1, 2, 0, 0, (r2 : Int)⟩].flatMap inV) [.int .i64 15, .int .i64 1, .int .i64 0, .int .i64 0, .int .i64 (r1 : Int), .int .i64 1, .int .i64 2, .int .i64 0, .int .i64 0, .int .i64 (r2 : Int)] := row_lit rfl (by omega)
  replace hs : Sl Tryz.f28.ntmps [(0, .pointer (some ⟨gd, 0, none⟩)), (1, .slice (some ⟨b, o, none⟩) m d), (2, .int .i64 mo), (3, .int .i64 at1), (9, .int .i64 (r1 : Int)), (11, .slice (some ⟨g11, 0, none⟩) 2 2), (30, .int .i64 (r3 : Int))] a := hs.sub (Has.all ⟨rfl, rfl, rfl, rfl, rfl, rfl, rfl, trivial⟩)
  replace hm : Mm (own [dk gd A n c at_]) wB [⟨some g11, 54, [.int .i64 15, .int .i64 1, .int .i64 0, .int .i64 0, .int .i64 (r1 : Int), .int .i64 1, .int .i64 2, .int .i64 0, .int .i64 0, .int .i64 (r2 : Int)]⟩, dk gd A n c a3] _ := hm
  rcases (by omega : r3 = 0 ∨ r3 = 1 ∨ r3 = 2 ∨ r3 = 3 ∨ r3 = 4 ∨ r3 = 5 ∨ r3 = 6 ∨ r3 = 7 ∨ r3 = 8 ∨ r3 = 9 ∨ r3 = 10 ∨ r3 = 11 ∨ r3 = 12 ∨ r3 = 13 ∨ r3 = 14 ∨ r3 = 15 ∨ r3 = 16 ∨ r3 = 17 ∨ r3 = 18 ∨ r3 = 19) with rfl | rfl | rfl | rfl | rfl | rfl | rfl | rfl | rfl | rfl | rfl | rfl | rfl | rfl | rfl | rfl | rfl | rfl | rfl | rfl
  · repeat (first | (refine ovXPg40_ ?_; clear hs a; intro a hs) | ((with_reducible apply lCons); first | (refine dv hs gw_ rfl rfl da_ ?_; clear hs hm a; rintro _ w ⟨g, rfl, -, hm⟩ a hs) | (refine stn hs rfl rfl ds_ ?_; clear hs hm a; rintro - w hm a hs)) | refine sc_ ?_)
    refine st hs rfl rfl rfl (d_call hs rfl rfl rfl (pl 27 rfl) ((nxt_c gd A n c _ xs 3 _ (h.now hm mem_) (by omega) (by omega)))) ?_; clear hs a; rintro _ w1 ⟨r4, rfl, b4, a4, k4, hf⟩ a hs
    replace hm := hm.dkt rep_ k4 hf
    clear hf
    repeat (first | (refine ovXPg40_ ?_; clear hs a; intro a hs) | ((with_reducible apply lCons); first | (refine dv hs gw_ rfl rfl da_ ?_; clear hs hm a; rintro _ w ⟨g, rfl, -, hm⟩ a hs) | (refine stn hs rfl rfl ds_ ?_; clear hs hm a; rintro - w hm a hs)) | refine sc_ ?_)
    refine st hs rfl rfl rfl (d_call hs rfl rfl rfl (pl 51 rfl) ((wrd_c gd A n c _ xs _ (h.now hm mem_)))) ?_; clear hs a; rintro _ w1 ⟨z, rfl, hz, a5, k5, hf⟩ a hs
    replace hm := hm.dkt rep_ k5 hf
    clear hf
    repeat (first | (refine ovXPg40_ ?_; clear hs a; intro a hs) | ((with_reducible apply lCons); first | (refine dv hs gw_ rfl rfl da_ ?_; clear hs hm a; rintro _ w ⟨g, rfl, -, hm⟩ a hs) | (refine stn hs rfl rfl ds_ ?_; clear hs hm a; rintro - w hm a hs)) | refine sc_ ?_)
    rw [wrap_idP (v := z) (by omega)] at hs
    repeat (first | (refine ovXPg40_ ?_; clear hs a; intro a hs) | ((with_reducible apply lCons); first | (refine dv hs gw_ rfl rfl da_ ?_; clear hs hm a; rintro _ w ⟨g, rfl, -, hm⟩ a hs) | (refine stn hs rfl rfl ds_ ?_; clear hs hm a; rintro - w hm a hs) | (refine dvc hs hm gw_ rfl rfl rfl rfl rfl (pl 29 rfl) (hli _ _ _) ?_; clear hs hm a; intro w hm a hs) | (refine dvc hs hm gw_ rfl rfl rfl rfl rfl (pl 52 rfl) (hmv _ _ _) ?_; clear hs hm a; intro w hm a hs) | (refine dvc hs hm gw_ rfl rfl rfl rfl rfl (pl 30 rfl) (hsy _ _) ?_; clear hs hm a; intro w hm a hs)) | refine sc_ ?_)
    obtain ⟨g8, en_⟩ := hs.ps 8 (by exact rfl); subst en_
    refine gRet1 hs rfl rfl ⟨_, some g8, 1, _, [⟨1, 3 + (r4 : Int), 0, 0, z⟩], rfl, row_lit rfl (by show 1 ≤ 1000; omega), by show 1 ≤ 1; omega, by show 1 ≤ 6; omega, fun i hi => ?_, hm.sub sub_⟩
    simp only [List.mem_cons, List.not_mem_nil, or_false] at hi
    rcases hi with rfl <;> first | exact in_li _ _ (by omega) (by omega) | exact in_lea _ _ (by omega) (by omega) (by omega) | exact in_sys _ (by omega) | exact in_jnz _ _ (by omega) (by omega) | exact in_mov _ _ (by omega) (by omega) | exact in_st _ _ _ (by omega) (by omega) (by omega) | exact in_ld _ _ _ (by omega) (by omega) (by omega) | exact in_alu _ _ _ _ (by omega) (by omega) (by omega) (by omega)
  · skip
    repeat (first | (refine ovXPg40_ ?_; clear hs a; intro a hs) | ((with_reducible apply lCons); first | (refine dv hs gw_ rfl rfl da_ ?_; clear hs hm a; rintro _ w ⟨g, rfl, -, hm⟩ a hs) | (refine stn hs rfl rfl ds_ ?_; clear hs hm a; rintro - w hm a hs)) | refine sc_ ?_)
    refine cMid (fun a w => ∃ (g8 : Nat) (l : List In) (a9 : Nat) (cs : List Value), cs = l.flatMap inV ∧ l.length = 1 ∧ (∀ i ∈ l, InV i (m : Int)) ∧ Sl Tryz.f28.ntmps [(8, .slice (some ⟨g8, 0, none⟩) 1 1)] a ∧ Mm (own [dk gd A n c at_]) wB [⟨some g8, 54, cs⟩, dk gd A n c a9] w) ?_ ?_
    · skip
      refine cDraw (n := 17) [] hm rfl rfl ?_
      clear hm
      intro w2 hm
      refine hV_ 1 ?_; clear hs a; intro a hs
      refine hV_ 5 ?_; clear hs a; intro a hs
      refine hV_ 8 ?_; clear hs a; intro a hs
      refine hV_ 11 ?_; clear hs a; intro a hs
      refine hEach [0, 2] (by kernel_rfl) (eDo hs rfl (Wnt.none rfl) rfl rfl (by exact d_buildSlice hs rfl tab rfl rfl rfl rfl rfl rfl rfl rfl rfl hm) ?_ (eDo hs rfl (Wnt.none rfl) rfl rfl (by exact d_call hs rfl rfl rfl (pl 27 rfl) ((nxt_c gd A n c _ xs 8 _ (h.now hm mem_) (by omega) (by omega)))) ?_ eNil))
      · skip
        clear hs hm a
        rintro _ w20 ⟨g43, rfl, -, hm⟩ a hs
        refine ⟨hm.sub sub_, ?_⟩
        refine hEach [2] (by kernel_rfl) (eDo hs rfl (Wnt.none rfl) rfl rfl (by exact d_call hs rfl rfl rfl (pl 27 rfl) ((nxt_c gd A n c _ xs 8 _ (h.now hm mem_) (by omega) (by omega)))) ?_ eNil)
        clear hs
        rintro _ w1 ⟨r4, rfl, b4, a4, k4, hf⟩ a hs
        replace hm := hm.dkt rep_ k4 hf
        clear hf
        obtain ⟨z, hz, hcell⟩ := alucell r4 (by omega)
        refine ⟨hm.sub sub_, ?_⟩
        refine hTake 3 hs rfl (by kernel_rfl) (Wnt.none rfl) rfl rfl (by intro w hm; replace hm : Mm _ _ _ w := hm; (first | exact r_iz hs tab rfl rfl (by omega) | exact r_iy hs tab rfl rfl (by omega))) (hm.sub (List.nil_sublist _)) ?_; clear hs a; intro a hs
        refine hEach [4, 6] (by kernel_rfl) (eDo hs rfl (Wnt.none rfl) rfl rfl (RunV.does kvR_) ?_ (eDo hs rfl (Wnt.none rfl) rfl rfl (by exact d_call hs rfl rfl rfl (pl 27 rfl) ((nxt_c gd A n c _ xs 3 _ (h.now hm mem_) (by omega) (by omega)))) ?_ eNil))
        · skip
          clear hs a
          rintro _ _ ⟨rfl, rfl⟩ a hs
          refine ⟨hm.sub sub_, ?_⟩
          refine hEach [6] (by kernel_rfl) (eDo hs rfl (Wnt.none rfl) rfl rfl (by exact d_call hs rfl rfl rfl (pl 27 rfl) ((nxt_c gd A n c _ xs 3 _ (h.now hm mem_) (by omega) (by omega)))) ?_ eNil)
          clear hs
          rintro _ w1 ⟨r5, rfl, b5, a5, k5, hf⟩ a hs
          replace hm := hm.dkt rep_ k5 hf
          clear hf
          refine ⟨hm.sub sub_, ?_⟩
          refine hTake 7 hs rfl (by kernel_rfl) (Wnt.none rfl) rfl rfl (by intro w hm; replace hm : Mm _ _ _ w := hm; (first | exact r_arH hs rfl (by assumption) (by omega) | exact r_pred hs rfl rfl rfl (by omega) | exact r_ar hs rfl (by omega) | exact r_bi hs rfl)) (hm.sub (List.nil_sublist _)) ?_; clear hs a; intro a hs
          refine hEach [9] (by kernel_rfl) (eDo hs rfl (Wnt.none rfl) rfl rfl (by exact d_call hs rfl rfl rfl (pl 27 rfl) ((nxt_c gd A n c _ xs 3 _ (h.now hm mem_) (by omega) (by omega)))) ?_ eNil)
          clear hs
          rintro _ w1 ⟨r6, rfl, b6, a6, k6, hf⟩ a hs
          replace hm := hm.dkt rep_ k6 hf
          clear hf
          refine ⟨hm.sub sub_, ?_⟩
          refine hTake 10 hs rfl (by kernel_rfl) (Wnt.none rfl) rfl rfl (by intro w hm; replace hm : Mm _ _ _ w := hm; (first | exact r_arH hs rfl (by assumption) (by omega) | exact r_pred hs rfl rfl rfl (by omega) | exact r_ar hs rfl (by omega) | exact r_bi hs rfl)) (hm.sub (List.nil_sublist _)) ?_; clear hs a; intro a hs
          refine hEach [12] (by kernel_rfl) (eDo hs rfl (Wnt.none rfl) rfl rfl (by exact d_call hs rfl rfl rfl (pl 27 rfl) ((nxt_c gd A n c _ xs 3 _ (h.now hm mem_) (by omega) (by omega)))) ?_ eNil)
          clear hs
          rintro _ w1 ⟨r7, rfl, b7, a7, k7, hf⟩ a hs
          replace hm := hm.dkt rep_ k7 hf
          clear hf
          refine ⟨hm.sub sub_, ?_⟩
          refine hTake 13 hs rfl (by kernel_rfl) (Wnt.none rfl) rfl rfl (by intro w hm; replace hm : Mm _ _ _ w := hm; (first | exact r_arH hs rfl (by assumption) (by omega) | exact r_pred hs rfl rfl rfl (by omega) | exact r_ar hs rfl (by omega) | exact r_bi hs rfl)) (hm.sub (List.nil_sublist _)) ?_; clear hs a; intro a hs
          refine hV_ 14 ?_; clear hs a; intro a hs
          refine hEach [15] (by kernel_rfl) (eDo hs rfl (Wnt.none rfl) rfl rfl (by exact d_buildSlice hs rfl tab rfl rfl rfl rfl rfl rfl rfl rfl rfl hm) ?_ eNil)
          clear hs hm a
          rintro _ w35 ⟨g58, rfl, -, hm⟩ a hs
          refine ⟨hm.sub sub_, ?_⟩
          refine hV_ 16 ?_; clear hs a; intro a hs
          refine hDone (by kernel_rfl) ?_
          obtain ⟨g8, en_⟩ := hs.ps 8 (by exact rfl); subst en_
          refine And.intro rfl ⟨g8, [⟨z, 3 + (r5 : Int), 3 + (r6 : Int), 3 + (r7 : Int), 0⟩], _, _, rfl, rfl, fun i hi => ?_, hs.sub (Has.all ⟨rfl, trivial⟩), hm.sub sub_⟩
          simp only [List.mem_cons, List.not_mem_nil, or_false] at hi
          rcases hi with rfl <;> first | exact in_lea _ _ (by omega) (by omega) (by omega) | exact in_st _ _ _ (by omega) (by omega) (by omega) | exact in_ld _ _ _ (by omega) (by omega) (by omega) | exact in_alu _ _ _ _ (by omega) (by omega) (by omega) (by omega)
        · skip
          clear hs
          rintro _ w1 ⟨r5, rfl, b5, a5, k5, hf⟩ a hs
          replace hm := hm.dkt rep_ k5 hf
          clear hf
          refine ⟨hm.sub sub_, ?_⟩
          refine hTake 7 hs rfl (by kernel_rfl) (Wnt.none rfl) rfl rfl (by intro w hm; replace hm : Mm _ _ _ w := hm; (first | exact r_arH hs rfl (by assumption) (by omega) | exact r_pred hs rfl rfl rfl (by omega) | exact r_ar hs rfl (by omega) | exact r_bi hs rfl)) (hm.sub (List.nil_sublist _)) ?_; clear hs a; intro a hs
          refine hEach [4, 9] (by kernel_rfl) (eDo hs rfl (Wnt.none rfl) rfl rfl (RunV.does kvR_) ?_ (eDo hs rfl (Wnt.none rfl) rfl rfl (by exact d_call hs rfl rfl rfl (pl 27 rfl) ((nxt_c gd A n c _ xs 3 _ (h.now hm mem_) (by omega) (by omega)))) ?_ eNil))
          · skip
            clear hs a
            rintro _ _ ⟨rfl, rfl⟩ a hs
            refine ⟨hm.sub sub_, ?_⟩
            refine hEach [9] (by kernel_rfl) (eDo hs rfl (Wnt.none rfl) rfl rfl (by exact d_call hs rfl rfl rfl (pl 27 rfl) ((nxt_c gd A n c _ xs 3 _ (h.now hm mem_) (by omega) (by omega)))) ?_ eNil)
            clear hs
            rintro _ w1 ⟨r6, rfl, b6, a6, k6, hf⟩ a hs
            replace hm := hm.dkt rep_ k6 hf
            clear hf
            refine ⟨hm.sub sub_, ?_⟩
            refine hTake 10 hs rfl (by kernel_rfl) (Wnt.none rfl) rfl rfl (by intro w hm; replace hm : Mm _ _ _ w := hm; (first | exact r_arH hs rfl (by assumption) (by omega) | exact r_pred hs rfl rfl rfl (by omega) | exact r_ar hs rfl (by omega) | exact r_bi hs rfl)) (hm.sub (List.nil_sublist _)) ?_; clear hs a; intro a hs
            refine hEach [12] (by kernel_rfl) (eDo hs rfl (Wnt.none rfl) rfl rfl (by exact d_call hs rfl rfl rfl (pl 27 rfl) ((nxt_c gd A n c _ xs 3 _ (h.now hm mem_) (by omega) (by omega)))) ?_ eNil)
            clear hs
            rintro _ w1 ⟨r7, rfl, b7, a7, k7, hf⟩ a hs
            replace hm := hm.dkt rep_ k7 hf
            clear hf
            refine ⟨hm.sub sub_, ?_⟩
            refine hTake 13 hs rfl (by kernel_rfl) (Wnt.none rfl) rfl rfl (by intro w hm; replace hm : Mm _ _ _ w := hm; (first | exact r_arH hs rfl (by assumption) (by omega) | exact r_pred hs rfl rfl rfl (by omega) | exact r_ar hs rfl (by omega) | exact r_bi hs rfl)) (hm.sub (List.nil_sublist _)) ?_; clear hs a; intro a hs
            refine hV_ 14 ?_; clear hs a; intro a hs
            refine hEach [15] (by kernel_rfl) (eDo hs rfl (Wnt.none rfl) rfl rfl (by exact d_buildSlice hs rfl tab rfl rfl rfl rfl rfl rfl rfl rfl rfl hm) ?_ eNil)
            clear hs hm a
            rintro _ w35 ⟨g58, rfl, -, hm⟩ a hs
            refine ⟨hm.sub sub_, ?_⟩
            refine hV_ 16 ?_; clear hs a; intro a hs
            refine hDone (by kernel_rfl) ?_
            obtain ⟨g8, en_⟩ := hs.ps 8 (by exact rfl); subst en_
            refine And.intro rfl ⟨g8, [⟨z, 3 + (r5 : Int), 3 + (r6 : Int), 3 + (r7 : Int), 0⟩], _, _, rfl, rfl, fun i hi => ?_, hs.sub (Has.all ⟨rfl, trivial⟩), hm.sub sub_⟩
            simp only [List.mem_cons, List.not_mem_nil, or_false] at hi
            rcases hi with rfl <;> first | exact in_lea _ _ (by omega) (by omega) (by omega) | exact in_st _ _ _ (by omega) (by omega) (by omega) | exact in_ld _ _ _ (by omega) (by omega) (by omega) | exact in_alu _ _ _ _ (by omega) (by omega) (by omega) (by omega)
          · skip
            clear hs
            rintro _ w1 ⟨r6, rfl, b6, a6, k6, hf⟩ a hs
            replace hm := hm.dkt rep_ k6 hf
            clear hf
            refine ⟨hm.sub sub_, ?_⟩
            refine hTake 10 hs rfl (by kernel_rfl) (Wnt.none rfl) rfl rfl (by intro w hm; replace hm : Mm _ _ _ w := hm; (first | exact r_arH hs rfl (by assumption) (by omega) | exact r_pred hs rfl rfl rfl (by omega) | exact r_ar hs rfl (by omega) | exact r_bi hs rfl)) (hm.sub (List.nil_sublist _)) ?_; clear hs a; intro a hs
            refine hEach [4, 12] (by kernel_rfl) (eDo hs rfl (Wnt.none rfl) rfl rfl (RunV.does kvR_) ?_ (eDo hs rfl (Wnt.none rfl) rfl rfl (by exact d_call hs rfl rfl rfl (pl 27 rfl) ((nxt_c gd A n c _ xs 3 _ (h.now hm mem_) (by omega) (by omega)))) ?_ eNil))
            · skip
              clear hs a
              rintro _ _ ⟨rfl, rfl⟩ a hs
              refine ⟨hm.sub sub_, ?_⟩
              refine hEach [12] (by kernel_rfl) (eDo hs rfl (Wnt.none rfl) rfl rfl (by exact d_call hs rfl rfl rfl (pl 27 rfl) ((nxt_c gd A n c _ xs 3 _ (h.now hm mem_) (by omega) (by omega)))) ?_ eNil)
              clear hs
              rintro _ w1 ⟨r7, rfl, b7, a7, k7, hf⟩ a hs
              replace hm := hm.dkt rep_ k7 hf
              clear hf
              refine ⟨hm.sub sub_, ?_⟩
              refine hTake 13 hs rfl (by kernel_rfl) (Wnt.none rfl) rfl rfl (by intro w hm; replace hm : Mm _ _ _ w := hm; (first | exact r_arH hs rfl (by assumption) (by omega) | exact r_pred hs rfl rfl rfl (by omega) | exact r_ar hs rfl (by omega) | exact r_bi hs rfl)) (hm.sub (List.nil_sublist _)) ?_; clear hs a; intro a hs
              refine hV_ 14 ?_; clear hs a; intro a hs
              refine hEach [15] (by kernel_rfl) (eDo hs rfl (Wnt.none rfl) rfl rfl (by exact d_buildSlice hs rfl tab rfl rfl rfl rfl rfl rfl rfl rfl rfl hm) ?_ eNil)
              clear hs hm a
              rintro _ w35 ⟨g58, rfl, -, hm⟩ a hs
              refine ⟨hm.sub sub_, ?_⟩
              refine hV_ 16 ?_; clear hs a; intro a hs
              refine hDone (by kernel_rfl) ?_
              obtain ⟨g8, en_⟩ := hs.ps 8 (by exact rfl); subst en_
              refine And.intro rfl ⟨g8, [⟨z, 3 + (r5 : Int), 3 + (r6 : Int), 3 + (r7 : Int), 0⟩], _, _, rfl, rfl, fun i hi => ?_, hs.sub (Has.all ⟨rfl, trivial⟩), hm.sub sub_⟩
              simp only [List.mem_cons, List.not_mem_nil, or_false] at hi
              rcases hi with rfl <;> first | exact in_lea _ _ (by omega) (by omega) (by omega) | exact in_st _ _ _ (by omega) (by omega) (by omega) | exact in_ld _ _ _ (by omega) (by omega) (by omega) | exact in_alu _ _ _ _ (by omega) (by omega) (by omega) (by omega)
            · skip
              clear hs
              rintro _ w1 ⟨r7, rfl, b7, a7, k7, hf⟩ a hs
              replace hm := hm.dkt rep_ k7 hf
              clear hf
              refine ⟨hm.sub sub_, ?_⟩
              refine hTake 13 hs rfl (by kernel_rfl) (Wnt.none rfl) rfl rfl (by intro w hm; replace hm : Mm _ _ _ w := hm; (first | exact r_arH hs rfl (by assumption) (by omega) | exact r_pred hs rfl rfl rfl (by omega) | exact r_ar hs rfl (by omega) | exact r_bi hs rfl)) (hm.sub (List.nil_sublist _)) ?_; clear hs a; intro a hs
              refine hEach [4] (by kernel_rfl) (eDo hs rfl (Wnt.none rfl) rfl rfl (RunV.does kvR_) ?_ eNil)
              clear hs a
              rintro _ _ ⟨rfl, rfl⟩ a hs
              refine ⟨hm.sub sub_, ?_⟩
              refine hV_ 14 ?_; clear hs a; intro a hs
              refine hEach [15] (by kernel_rfl) (eDo hs rfl (Wnt.none rfl) rfl rfl (by exact d_buildSlice hs rfl tab rfl rfl rfl rfl rfl rfl rfl rfl rfl hm) ?_ eNil)
              clear hs hm a
              rintro _ w35 ⟨g58, rfl, -, hm⟩ a hs
              refine ⟨hm.sub sub_, ?_⟩
              refine hV_ 16 ?_; clear hs a; intro a hs
              refine hDone (by kernel_rfl) ?_
              obtain ⟨g8, en_⟩ := hs.ps 8 (by exact rfl); subst en_
              refine And.intro rfl ⟨g8, [⟨z, 3 + (r5 : Int), 3 + (r6 : Int), 3 + (r7 : Int), 0⟩], _, _, rfl, rfl, fun i hi => ?_, hs.sub (Has.all ⟨rfl, trivial⟩), hm.sub sub_⟩
              simp only [List.mem_cons, List.not_mem_nil, or_false] at hi
              rcases hi with rfl <;> first | exact in_lea _ _ (by omega) (by omega) (by omega) | exact in_st _ _ _ (by omega) (by omega) (by omega) | exact in_ld _ _ _ (by omega) (by omega) (by omega) | exact in_alu _ _ _ _ (by omega) (by omega) (by omega) (by omega)
      · skip
        clear hs
        rintro _ w1 ⟨r4, rfl, b4, a4, k4, hf⟩ a hs
        replace hm := hm.dkt rep_ k4 hf
        clear hf
        obtain ⟨z, hz, hcell⟩ := alucell r4 (by omega)
        refine ⟨hm.sub sub_, ?_⟩
        refine hEach [0, 6] (by kernel_rfl) (eDo hs rfl (Wnt.none rfl) rfl rfl (by exact d_buildSlice hs rfl tab rfl rfl rfl rfl rfl rfl rfl rfl rfl hm) ?_ (eDo hs rfl (Wnt.none rfl) rfl rfl (by exact d_call hs rfl rfl rfl (pl 27 rfl) ((nxt_c gd A n c _ xs 3 _ (h.now hm mem_) (by omega) (by omega)))) ?_ eNil))
        · skip
          clear hs hm a
          rintro _ w20 ⟨g43, rfl, -, hm⟩ a hs
          refine ⟨hm.sub sub_, ?_⟩
          refine hTake 3 hs rfl (by kernel_rfl) (Wnt.none rfl) rfl rfl (by intro w hm; replace hm : Mm _ _ _ w := hm; (first | exact r_iz hs tab rfl rfl (by omega) | exact r_iy hs tab rfl rfl (by omega))) (hm.sub (List.nil_sublist _)) ?_; clear hs a; intro a hs
          refine hEach [4, 6] (by kernel_rfl) (eDo hs rfl (Wnt.none rfl) rfl rfl (RunV.does kvR_) ?_ (eDo hs rfl (Wnt.none rfl) rfl rfl (by exact d_call hs rfl rfl rfl (pl 27 rfl) ((nxt_c gd A n c _ xs 3 _ (h.now hm mem_) (by omega) (by omega)))) ?_ eNil))
          · skip
            clear hs a
            rintro _ _ ⟨rfl, rfl⟩ a hs
            refine ⟨hm.sub sub_, ?_⟩
            refine hEach [6] (by kernel_rfl) (eDo hs rfl (Wnt.none rfl) rfl rfl (by exact d_call hs rfl rfl rfl (pl 27 rfl) ((nxt_c gd A n c _ xs 3 _ (h.now hm mem_) (by omega) (by omega)))) ?_ eNil)
            clear hs
            rintro _ w1 ⟨r5, rfl, b5, a5, k5, hf⟩ a hs
            replace hm := hm.dkt rep_ k5 hf
            clear hf
            refine ⟨hm.sub sub_, ?_⟩
            refine hTake 7 hs rfl (by kernel_rfl) (Wnt.none rfl) rfl rfl (by intro w hm; replace hm : Mm _ _ _ w := hm; (first | exact r_arH hs rfl (by assumption) (by omega) | exact r_pred hs rfl rfl rfl (by omega) | exact r_ar hs rfl (by omega) | exact r_bi hs rfl)) (hm.sub (List.nil_sublist _)) ?_; clear hs a; intro a hs
            refine hEach [9] (by kernel_rfl) (eDo hs rfl (Wnt.none rfl) rfl rfl (by exact d_call hs rfl rfl rfl (pl 27 rfl) ((nxt_c gd A n c _ xs 3 _ (h.now hm mem_) (by omega) (by omega)))) ?_ eNil)
            clear hs
            rintro _ w1 ⟨r6, rfl, b6, a6, k6, hf⟩ a hs
            replace hm := hm.dkt rep_ k6 hf
            clear hf
            refine ⟨hm.sub sub_, ?_⟩
            refine hTake 10 hs rfl (by kernel_rfl) (Wnt.none rfl) rfl rfl (by intro w hm; replace hm : Mm _ _ _ w := hm; (first | exact r_arH hs rfl (by assumption) (by omega) | exact r_pred hs rfl rfl rfl (by omega) | exact r_ar hs rfl (by omega) | exact r_bi hs rfl)) (hm.sub (List.nil_sublist _)) ?_; clear hs a; intro a hs
            refine hEach [12] (by kernel_rfl) (eDo hs rfl (Wnt.none rfl) rfl rfl (by exact d_call hs rfl rfl rfl (pl 27 rfl) ((nxt_c gd A n c _ xs 3 _ (h.now hm mem_) (by omega) (by omega)))) ?_ eNil)
            clear hs
            rintro _ w1 ⟨r7, rfl, b7, a7, k7, hf⟩ a hs
            replace hm := hm.dkt rep_ k7 hf
            clear hf
            refine ⟨hm.sub sub_, ?_⟩
            refine hTake 13 hs rfl (by kernel_rfl) (Wnt.none rfl) rfl rfl (by intro w hm; replace hm : Mm _ _ _ w := hm; (first | exact r_arH hs rfl (by assumption) (by omega) | exact r_pred hs rfl rfl rfl (by omega) | exact r_ar hs rfl (by omega) | exact r_bi hs rfl)) (hm.sub (List.nil_sublist _)) ?_; clear hs a; intro a hs
            refine hV_ 14 ?_; clear hs a; intro a hs
            refine hEach [15] (by kernel_rfl) (eDo hs rfl (Wnt.none rfl) rfl rfl (by exact d_buildSlice hs rfl tab rfl rfl rfl rfl rfl rfl rfl rfl rfl hm) ?_ eNil)
            clear hs hm a
            rintro _ w35 ⟨g58, rfl, -, hm⟩ a hs
            refine ⟨hm.sub sub_, ?_⟩
            refine hV_ 16 ?_; clear hs a; intro a hs
            refine hDone (by kernel_rfl) ?_
            obtain ⟨g8, en_⟩ := hs.ps 8 (by exact rfl); subst en_
            refine And.intro rfl ⟨g8, [⟨z, 3 + (r5 : Int), 3 + (r6 : Int), 3 + (r7 : Int), 0⟩], _, _, rfl, rfl, fun i hi => ?_, hs.sub (Has.all ⟨rfl, trivial⟩), hm.sub sub_⟩
            simp only [List.mem_cons, List.not_mem_nil, or_false] at hi
            rcases hi with rfl <;> first | exact in_lea _ _ (by omega) (by omega) (by omega) | exact in_st _ _ _ (by omega) (by omega) (by omega) | exact in_ld _ _ _ (by omega) (by omega) (by omega) | exact in_alu _ _ _ _ (by omega) (by omega) (by omega) (by omega)
          · skip
            clear hs
            rintro _ w1 ⟨r5, rfl, b5, a5, k5, hf⟩ a hs
            replace hm := hm.dkt rep_ k5 hf
            clear hf
            refine ⟨hm.sub sub_, ?_⟩
            refine hTake 7 hs rfl (by kernel_rfl) (Wnt.none rfl) rfl rfl (by intro w hm; replace hm : Mm _ _ _ w := hm; (first | exact r_arH hs rfl (by assumption) (by omega) | exact r_pred hs rfl rfl rfl (by omega) | exact r_ar hs rfl (by omega) | exact r_bi hs rfl)) (hm.sub (List.nil_sublist _)) ?_; clear hs a; intro a hs
            refine hEach [4, 9] (by kernel_rfl) (eDo hs rfl (Wnt.none rfl) rfl rfl (RunV.does kvR_) ?_ (eDo hs rfl (Wnt.none rfl) rfl rfl (by exact d_call hs rfl rfl rfl (pl 27 rfl) ((nxt_c gd A n c _ xs 3 _ (h.now hm mem_) (by omega) (by omega)))) ?_ eNil))
            · skip
              clear hs a
              rintro _ _ ⟨rfl, rfl⟩ a hs
              refine ⟨hm.sub sub_, ?_⟩
              refine hEach [9] (by kernel_rfl) (eDo hs rfl (Wnt.none rfl) rfl rfl (by exact d_call hs rfl rfl rfl (pl 27 rfl) ((nxt_c gd A n c _ xs 3 _ (h.now hm mem_) (by omega) (by omega)))) ?_ eNil)
              clear hs
              rintro _ w1 ⟨r6, rfl, b6, a6, k6, hf⟩ a hs
              replace hm := hm.dkt rep_ k6 hf
              clear hf
              refine ⟨hm.sub sub_, ?_⟩
              refine hTake 10 hs rfl (by kernel_rfl) (Wnt.none rfl) rfl rfl (by intro w hm; replace hm : Mm _ _ _ w := hm; (first | exact r_arH hs rfl (by assumption) (by omega) | exact r_pred hs rfl rfl rfl (by omega) | exact r_ar hs rfl (by omega) | exact r_bi hs rfl)) (hm.sub (List.nil_sublist _)) ?_; clear hs a; intro a hs
              refine hEach [12] (by kernel_rfl) (eDo hs rfl (Wnt.none rfl) rfl rfl (by exact d_call hs rfl rfl rfl (pl 27 rfl) ((nxt_c gd A n c _ xs 3 _ (h.now hm mem_) (by omega) (by omega)))) ?_ eNil)
              clear hs
              rintro _ w1 ⟨r7, rfl, b7, a7, k7, hf⟩ a hs
              replace hm := hm.dkt rep_ k7 hf
              clear hf
              refine ⟨hm.sub sub_, ?_⟩
              refine hTake 13 hs rfl (by kernel_rfl) (Wnt.none rfl) rfl rfl (by intro w hm; replace hm : Mm _ _ _ w := hm; (first | exact r_arH hs rfl (by assumption) (by omega) | exact r_pred hs rfl rfl rfl (by omega) | exact r_ar hs rfl (by omega) | exact r_bi hs rfl)) (hm.sub (List.nil_sublist _)) ?_; clear hs a; intro a hs
              refine hV_ 14 ?_; clear hs a; intro a hs
              refine hEach [15] (by kernel_rfl) (eDo hs rfl (Wnt.none rfl) rfl rfl (by exact d_buildSlice hs rfl tab rfl rfl rfl rfl rfl rfl rfl rfl rfl hm) ?_ eNil)
              clear hs hm a
              rintro _ w35 ⟨g58, rfl, -, hm⟩ a hs
              refine ⟨hm.sub sub_, ?_⟩
              refine hV_ 16 ?_; clear hs a; intro a hs
              refine hDone (by kernel_rfl) ?_
              obtain ⟨g8, en_⟩ := hs.ps 8 (by exact rfl); subst en_
              refine And.intro rfl ⟨g8, [⟨z, 3 + (r5 : Int), 3 + (r6 : Int), 3 + (r7 : Int), 0⟩], _, _, rfl, rfl, fun i hi => ?_, hs.sub (Has.all ⟨rfl, trivial⟩), hm.sub sub_⟩
              simp only [List.mem_cons, List.not_mem_nil, or_false] at hi
              rcases hi with rfl <;> first | exact in_lea _ _ (by omega) (by omega) (by omega) | exact in_st _ _ _ (by omega) (by omega) (by omega) | exact in_ld _ _ _ (by omega) (by omega) (by omega) | exact in_alu _ _ _ _ (by omega) (by omega) (by omega) (by omega)
            · skip
              clear hs
              rintro _ w1 ⟨r6, rfl, b6, a6, k6, hf⟩ a hs
              replace hm := hm.dkt rep_ k6 hf
              clear hf
              refine ⟨hm.sub sub_, ?_⟩
              refine hTake 10 hs rfl (by kernel_rfl) (Wnt.none rfl) rfl rfl (by intro w hm; replace hm : Mm _ _ _ w := hm; (first | exact r_arH hs rfl (by assumption) (by omega) | exact r_pred hs rfl rfl rfl (by omega) | exact r_ar hs rfl (by omega) | exact r_bi hs rfl)) (hm.sub (List.nil_sublist _)) ?_; clear hs a; intro a hs
              refine hEach [4, 12] (by kernel_rfl) (eDo hs rfl (Wnt.none rfl) rfl rfl (RunV.does kvR_) ?_ (eDo hs rfl (Wnt.none rfl) rfl rfl (by exact d_call hs rfl rfl rfl (pl 27 rfl) ((nxt_c gd A n c _ xs 3 _ (h.now hm mem_) (by omega) (by omega)))) ?_ eNil))
              · skip
                clear hs a
                rintro _ _ ⟨rfl, rfl⟩ a hs
                refine ⟨hm.sub sub_, ?_⟩
                refine hEach [12] (by kernel_rfl) (eDo hs rfl (Wnt.none rfl) rfl rfl (by exact d_call hs rfl rfl rfl (pl 27 rfl) ((nxt_c gd A n c _ xs 3 _ (h.now hm mem_) (by omega) (by omega)))) ?_ eNil)
                clear hs
                rintro _ w1 ⟨r7, rfl, b7, a7, k7, hf⟩ a hs
                replace hm := hm.dkt rep_ k7 hf
                clear hf
                refine ⟨hm.sub sub_, ?_⟩
                refine hTake 13 hs rfl (by kernel_rfl) (Wnt.none rfl) rfl rfl (by intro w hm; replace hm : Mm _ _ _ w := hm; (first | exact r_arH hs rfl (by assumption) (by omega) | exact r_pred hs rfl rfl rfl (by omega) | exact r_ar hs rfl (by omega) | exact r_bi hs rfl)) (hm.sub (List.nil_sublist _)) ?_; clear hs a; intro a hs
                refine hV_ 14 ?_; clear hs a; intro a hs
                refine hEach [15] (by kernel_rfl) (eDo hs rfl (Wnt.none rfl) rfl rfl (by exact d_buildSlice hs rfl tab rfl rfl rfl rfl rfl rfl rfl rfl rfl hm) ?_ eNil)
                clear hs hm a
                rintro _ w35 ⟨g58, rfl, -, hm⟩ a hs
                refine ⟨hm.sub sub_, ?_⟩
                refine hV_ 16 ?_; clear hs a; intro a hs
                refine hDone (by kernel_rfl) ?_
                obtain ⟨g8, en_⟩ := hs.ps 8 (by exact rfl); subst en_
                refine And.intro rfl ⟨g8, [⟨z, 3 + (r5 : Int), 3 + (r6 : Int), 3 + (r7 : Int), 0⟩], _, _, rfl, rfl, fun i hi => ?_, hs.sub (Has.all ⟨rfl, trivial⟩), hm.sub sub_⟩
                simp only [List.mem_cons, List.not_mem_nil, or_false] at hi
                rcases hi with rfl <;> first | exact in_lea _ _ (by omega) (by omega) (by omega) | exact in_st _ _ _ (by omega) (by omega) (by omega) | exact in_ld _ _ _ (by omega) (by omega) (by omega) | exact in_alu _ _ _ _ (by omega) (by omega) (by omega) (by omega)
              · skip
                clear hs
                rintro _ w1 ⟨r7, rfl, b7, a7, k7, hf⟩ a hs
                replace hm := hm.dkt rep_ k7 hf
                clear hf
                refine ⟨hm.sub sub_, ?_⟩
                refine hTake 13 hs rfl (by kernel_rfl) (Wnt.none rfl) rfl rfl (by intro w hm; replace hm : Mm _ _ _ w := hm; (first | exact r_arH hs rfl (by assumption) (by omega) | exact r_pred hs rfl rfl rfl (by omega) | exact r_ar hs rfl (by omega) | exact r_bi hs rfl)) (hm.sub (List.nil_sublist _)) ?_; clear hs a; intro a hs
                refine hEach [4] (by kernel_rfl) (eDo hs rfl (Wnt.none rfl) rfl rfl (RunV.does kvR_) ?_ eNil)
                clear hs a
                rintro _ _ ⟨rfl, rfl⟩ a hs
                refine ⟨hm.sub sub_, ?_⟩
                refine hV_ 14 ?_; clear hs a; intro a hs
                refine hEach [15] (by kernel_rfl) (eDo hs rfl (Wnt.none rfl) rfl rfl (by exact d_buildSlice hs rfl tab rfl rfl rfl rfl rfl rfl rfl rfl rfl hm) ?_ eNil)
                clear hs hm a
                rintro _ w35 ⟨g58, rfl, -, hm⟩ a hs
                refine ⟨hm.sub sub_, ?_⟩
                refine hV_ 16 ?_; clear hs a; intro a hs
                refine hDone (by kernel_rfl) ?_
                obtain ⟨g8, en_⟩ := hs.ps 8 (by exact rfl); subst en_
                refine And.intro rfl ⟨g8, [⟨z, 3 + (r5 : Int), 3 + (r6 : Int), 3 + (r7 : Int), 0⟩], _, _, rfl, rfl, fun i hi => ?_, hs.sub (Has.all ⟨rfl, trivial⟩), hm.sub sub_⟩
                simp only [List.mem_cons, List.not_mem_nil, or_false] at hi
                rcases hi with rfl <;> first | exact in_lea _ _ (by omega) (by omega) (by omega) | exact in_st _ _ _ (by omega) (by omega) (by omega) | exact in_ld _ _ _ (by omega) (by omega) (by omega) | exact in_alu _ _ _ _ (by omega) (by omega) (by omega) (by omega)
        · skip
          clear hs
          rintro _ w1 ⟨r5, rfl, b5, a5, k5, hf⟩ a hs
          replace hm := hm.dkt rep_ k5 hf
          clear hf
          refine ⟨hm.sub sub_, ?_⟩
          refine hTake 7 hs rfl (by kernel_rfl) (Wnt.none rfl) rfl rfl (by intro w hm; replace hm : Mm _ _ _ w := hm; (first | exact r_arH hs rfl (by assumption) (by omega) | exact r_pred hs rfl rfl rfl (by omega) | exact r_ar hs rfl (by omega) | exact r_bi hs rfl)) (hm.sub (List.nil_sublist _)) ?_; clear hs a; intro a hs
          refine hEach [0, 9] (by kernel_rfl) (eDo hs rfl (Wnt.none rfl) rfl rfl (by exact d_buildSlice hs rfl tab rfl rfl rfl rfl rfl rfl rfl rfl rfl hm) ?_ (eDo hs rfl (Wnt.none rfl) rfl rfl (by exact d_call hs rfl rfl rfl (pl 27 rfl) ((nxt_c gd A n c _ xs 3 _ (h.now hm mem_) (by omega) (by omega)))) ?_ eNil))
          · skip
            clear hs hm a
            rintro _ w20 ⟨g43, rfl, -, hm⟩ a hs
            refine ⟨hm.sub sub_, ?_⟩
            refine hTake 3 hs rfl (by kernel_rfl) (Wnt.none rfl) rfl rfl (by intro w hm; replace hm : Mm _ _ _ w := hm; (first | exact r_iz hs tab rfl rfl (by omega) | exact r_iy hs tab rfl rfl (by omega))) (hm.sub (List.nil_sublist _)) ?_; clear hs a; intro a hs
            refine hEach [4, 9] (by kernel_rfl) (eDo hs rfl (Wnt.none rfl) rfl rfl (RunV.does kvR_) ?_ (eDo hs rfl (Wnt.none rfl) rfl rfl (by exact d_call hs rfl rfl rfl (pl 27 rfl) ((nxt_c gd A n c _ xs 3 _ (h.now hm mem_) (by omega) (by omega)))) ?_ eNil))
            · skip
              clear hs a
              rintro _ _ ⟨rfl, rfl⟩ a hs
              refine ⟨hm.sub sub_, ?_⟩
              refine hEach [9] (by kernel_rfl) (eDo hs rfl (Wnt.none rfl) rfl rfl (by exact d_call hs rfl rfl rfl (pl 27 rfl) ((nxt_c gd A n c _ xs 3 _ (h.now hm mem_) (by omega) (by omega)))) ?_ eNil)
              clear hs
              rintro _ w1 ⟨r6, rfl, b6, a6, k6, hf⟩ a hs
              replace hm := hm.dkt rep_ k6 hf
              clear hf
              refine ⟨hm.sub sub_, ?_⟩
              refine hTake 10 hs rfl (by kernel_rfl) (Wnt.none rfl) rfl rfl (by intro w hm; replace hm : Mm _ _ _ w := hm; (first | exact r_arH hs rfl (by assumption) (by omega) | exact r_pred hs rfl rfl rfl (by omega) | exact r_ar hs rfl (by omega) | exact r_bi hs rfl)) (hm.sub (List.nil_sublist _)) ?_; clear hs a; intro a hs
              refine hEach [12] (by kernel_rfl) (eDo hs rfl (Wnt.none rfl) rfl rfl (by exact d_call hs rfl rfl rfl (pl 27 rfl) ((nxt_c gd A n c _ xs 3 _ (h.now hm mem_) (by omega) (by omega)))) ?_ eNil)
              clear hs
              rintro _ w1 ⟨r7, rfl, b7, a7, k7, hf⟩ a hs
              replace hm := hm.dkt rep_ k7 hf
              clear hf
              refine ⟨hm.sub sub_, ?_⟩
              refine hTake 13 hs rfl (by kernel_rfl) (Wnt.none rfl) rfl rfl (by intro w hm; replace hm : Mm _ _ _ w := hm; (first | exact r_arH hs rfl (by assumption) (by omega) | exact r_pred hs rfl rfl rfl (by omega) | exact r_ar hs rfl (by omega) | exact r_bi hs rfl)) (hm.sub (List.nil_sublist _)) ?_; clear hs a; intro a hs
              refine hV_ 14 ?_; clear hs a; intro a hs
              refine hEach [15] (by kernel_rfl) (eDo hs rfl (Wnt.none rfl) rfl rfl (by exact d_buildSlice hs rfl tab rfl rfl rfl rfl rfl rfl rfl rfl rfl hm) ?_ eNil)
              clear hs hm a
              rintro _ w35 ⟨g58, rfl, -, hm⟩ a hs
              refine ⟨hm.sub sub_, ?_⟩
              refine hV_ 16 ?_; clear hs a; intro a hs
              refine hDone (by kernel_rfl) ?_
              obtain ⟨g8, en_⟩ := hs.ps 8 (by exact rfl); subst en_
              refine And.intro rfl ⟨g8, [⟨z, 3 + (r5 : Int), 3 + (r6 : Int), 3 + (r7 : Int), 0⟩], _, _, rfl, rfl, fun i hi => ?_, hs.sub (Has.all ⟨rfl, trivial⟩), hm.sub sub_⟩
              simp only [List.mem_cons, List.not_mem_nil, or_false] at hi
              rcases hi with rfl <;> first | exact in_lea _ _ (by omega) (by omega) (by omega) | exact in_st _ _ _ (by omega) (by omega) (by omega) | exact in_ld _ _ _ (by omega) (by omega) (by omega) | exact in_alu _ _ _ _ (by omega) (by omega) (by omega) (by omega)
            · skip
              clear hs
              rintro _ w1 ⟨r6, rfl, b6, a6, k6, hf⟩ a hs
              replace hm := hm.dkt rep_ k6 hf
              clear hf
              refine ⟨hm.sub sub_, ?_⟩
              refine hTake 10 hs rfl (by kernel_rfl) (Wnt.none rfl) rfl rfl (by intro w hm; replace hm : Mm _ _ _ w := hm; (first | exact r_arH hs rfl (by assumption) (by omega) | exact r_pred hs rfl rfl rfl (by omega) | exact r_ar hs rfl (by omega) | exact r_bi hs rfl)) (hm.sub (List.nil_sublist _)) ?_; clear hs a; intro a hs
              refine hEach [4, 12] (by kernel_rfl) (eDo hs rfl (Wnt.none rfl) rfl rfl (RunV.does kvR_) ?_ (eDo hs rfl (Wnt.none rfl) rfl rfl (by exact d_call hs rfl rfl rfl (pl 27 rfl) ((nxt_c gd A n c _ xs 3 _ (h.now hm mem_) (by omega) (by omega)))) ?_ eNil))
              · skip
                clear hs a
                rintro _ _ ⟨rfl, rfl⟩ a hs
                refine ⟨hm.sub sub_, ?_⟩
                refine hEach [12] (by kernel_rfl) (eDo hs rfl (Wnt.none rfl) rfl rfl (by exact d_call hs rfl rfl rfl (pl 27 rfl) ((nxt_c gd A n c _ xs 3 _ (h.now hm mem_) (by omega) (by omega)))) ?_ eNil)
                clear hs
                rintro _ w1 ⟨r7, rfl, b7, a7, k7, hf⟩ a hs
                replace hm := hm.dkt rep_ k7 hf
                clear hf
                refine ⟨hm.sub sub_, ?_⟩
                refine hTake 13 hs rfl (by kernel_rfl) (Wnt.none rfl) rfl rfl (by intro w hm; replace hm : Mm _ _ _ w := hm; (first | exact r_arH hs rfl (by assumption) (by omega) | exact r_pred hs rfl rfl rfl (by omega) | exact r_ar hs rfl (by omega) | exact r_bi hs rfl)) (hm.sub (List.nil_sublist _)) ?_; clear hs a; intro a hs
                refine hV_ 14 ?_; clear hs a; intro a hs
                refine hEach [15] (by kernel_rfl) (eDo hs rfl (Wnt.none rfl) rfl rfl (by exact d_buildSlice hs rfl tab rfl rfl rfl rfl rfl rfl rfl rfl rfl hm) ?_ eNil)
                clear hs hm a
                rintro _ w35 ⟨g58, rfl, -, hm⟩ a hs
                refine ⟨hm.sub sub_, ?_⟩
                refine hV_ 16 ?_; clear hs a; intro a hs
                refine hDone (by kernel_rfl) ?_
                obtain ⟨g8, en_⟩ := hs.ps 8 (by exact rfl); subst en_
                refine And.intro rfl ⟨g8, [⟨z, 3 + (r5 : Int), 3 + (r6 : Int), 3 + (r7 : Int), 0⟩], _, _, rfl, rfl, fun i hi => ?_, hs.sub (Has.all ⟨rfl, trivial⟩), hm.sub sub_⟩
                simp only [List.mem_cons, List.not_mem_nil, or_false] at hi
                rcases hi with rfl <;> first | exact in_lea _ _ (by omega) (by omega) (by omega) | exact in_st _ _ _ (by omega) (by omega) (by omega) | exact in_ld _ _ _ (by omega) (by omega) (by omega) | exact in_alu _ _ _ _ (by omega) (by omega) (by omega) (by omega)
              · skip
                clear hs
                rintro _ w1 ⟨r7, rfl, b7, a7, k7, hf⟩ a hs
                replace hm := hm.dkt rep_ k7 hf
                clear hf
                refine ⟨hm.sub sub_, ?_⟩
                refine hTake 13 hs rfl (by kernel_rfl) (Wnt.none rfl) rfl rfl (by intro w hm; replace hm : Mm _ _ _ w := hm; (first | exact r_arH hs rfl (by assumption) (by omega) | exact r_pred hs rfl rfl rfl (by omega) | exact r_ar hs rfl (by omega) | exact r_bi hs rfl)) (hm.sub (List.nil_sublist _)) ?_; clear hs a; intro a hs
                refine hEach [4] (by kernel_rfl) (eDo hs rfl (Wnt.none rfl) rfl rfl (RunV.does kvR_) ?_ eNil)
                clear hs a
                rintro _ _ ⟨rfl, rfl⟩ a hs
                refine ⟨hm.sub sub_, ?_⟩
                refine hV_ 14 ?_; clear hs a; intro a hs
                refine hEach [15] (by kernel_rfl) (eDo hs rfl (Wnt.none rfl) rfl rfl (by exact d_buildSlice hs rfl tab rfl rfl rfl rfl rfl rfl rfl rfl rfl hm) ?_ eNil)
                clear hs hm a
                rintro _ w35 ⟨g58, rfl, -, hm⟩ a hs
                refine ⟨hm.sub sub_, ?_⟩
                refine hV_ 16 ?_; clear hs a; intro a hs
                refine hDone (by kernel_rfl) ?_
                obtain ⟨g8, en_⟩ := hs.ps 8 (by exact rfl); subst en_
                refine And.intro rfl ⟨g8, [⟨z, 3 + (r5 : Int), 3 + (r6 : Int), 3 + (r7 : Int), 0⟩], _, _, rfl, rfl, fun i hi => ?_, hs.sub (Has.all ⟨rfl, trivial⟩), hm.sub sub_⟩
                simp only [List.mem_cons, List.not_mem_nil, or_false] at hi
                rcases hi with rfl <;> first | exact in_lea _ _ (by omega) (by omega) (by omega) | exact in_st _ _ _ (by omega) (by omega) (by omega) | exact in_ld _ _ _ (by omega) (by omega) (by omega) | exact in_alu _ _ _ _ (by omega) (by omega) (by omega) (by omega)
          · skip
            clear hs
            rintro _ w1 ⟨r6, rfl, b6, a6, k6, hf⟩ a hs
            replace hm := hm.dkt rep_ k6 hf
            clear hf
            refine ⟨hm.sub sub_, ?_⟩
            refine hTake 10 hs rfl (by kernel_rfl) (Wnt.none rfl) rfl rfl (by intro w hm; replace hm : Mm _ _ _ w := hm; (first | exact r_arH hs rfl (by assumption) (by omega) | exact r_pred hs rfl rfl rfl (by omega) | exact r_ar hs rfl (by omega) | exact r_bi hs rfl)) (hm.sub (List.nil_sublist _)) ?_; clear hs a; intro a hs
            refine hEach [0, 12] (by kernel_rfl) (eDo hs rfl (Wnt.none rfl) rfl rfl (by exact d_buildSlice hs rfl tab rfl rfl rfl rfl rfl rfl rfl rfl rfl hm) ?_ (eDo hs rfl (Wnt.none rfl) rfl rfl (by exact d_call hs rfl rfl rfl (pl 27 rfl) ((nxt_c gd A n c _ xs 3 _ (h.now hm mem_) (by omega) (by omega)))) ?_ eNil))
            · skip
              clear hs hm a
              rintro _ w20 ⟨g43, rfl, -, hm⟩ a hs
              refine ⟨hm.sub sub_, ?_⟩
              refine hTake 3 hs rfl (by kernel_rfl) (Wnt.none rfl) rfl rfl (by intro w hm; replace hm : Mm _ _ _ w := hm; (first | exact r_iz hs tab rfl rfl (by omega) | exact r_iy hs tab rfl rfl (by omega))) (hm.sub (List.nil_sublist _)) ?_; clear hs a; intro a hs
              refine hEach [4, 12] (by kernel_rfl) (eDo hs rfl (Wnt.none rfl) rfl rfl (RunV.does kvR_) ?_ (eDo hs rfl (Wnt.none rfl) rfl rfl (by exact d_call hs rfl rfl rfl (pl 27 rfl) ((nxt_c gd A n c _ xs 3 _ (h.now hm mem_) (by omega) (by omega)))) ?_ eNil))
              · skip
                clear hs a
                rintro _ _ ⟨rfl, rfl⟩ a hs
                refine ⟨hm.sub sub_, ?_⟩
                refine hEach [12] (by kernel_rfl) (eDo hs rfl (Wnt.none rfl) rfl rfl (by exact d_call hs rfl rfl rfl (pl 27 rfl) ((nxt_c gd A n c _ xs 3 _ (h.now hm mem_) (by omega) (by omega)))) ?_ eNil)
                clear hs
                rintro _ w1 ⟨r7, rfl, b7, a7, k7, hf⟩ a hs
                replace hm := hm.dkt rep_ k7 hf
                clear hf
                refine ⟨hm.sub sub_, ?_⟩
                refine hTake 13 hs rfl (by kernel_rfl) (Wnt.none rfl) rfl rfl (by intro w hm; replace hm : Mm _ _ _ w := hm; (first | exact r_arH hs rfl (by assumption) (by omega) | exact r_pred hs rfl rfl rfl (by omega) | exact r_ar hs rfl (by omega) | exact r_bi hs rfl)) (hm.sub (List.nil_sublist _)) ?_; clear hs a; intro a hs
                refine hV_ 14 ?_; clear hs a; intro a hs
                refine hEach [15] (by kernel_rfl) (eDo hs rfl (Wnt.none rfl) rfl rfl (by exact d_buildSlice hs rfl tab rfl rfl rfl rfl rfl rfl rfl rfl rfl hm) ?_ eNil)
                clear hs hm a
                rintro _ w35 ⟨g58, rfl, -, hm⟩ a hs
                refine ⟨hm.sub sub_, ?_⟩
                refine hV_ 16 ?_; clear hs a; intro a hs
                refine hDone (by kernel_rfl) ?_
                obtain ⟨g8, en_⟩ := hs.ps 8 (by exact rfl); subst en_
                refine And.intro rfl ⟨g8, [⟨z, 3 + (r5 : Int), 3 + (r6 : Int), 3 + (r7 : Int), 0⟩], _, _, rfl, rfl, fun i hi => ?_, hs.sub (Has.all ⟨rfl, trivial⟩), hm.sub sub_⟩
                simp only [List.mem_cons, List.not_mem_nil, or_false] at hi
                rcases hi with rfl <;> first | exact in_lea _ _ (by omega) (by omega) (by omega) | exact in_st _ _ _ (by omega) (by omega) (by omega) | exact in_ld _ _ _ (by omega) (by omega) (by omega) | exact in_alu _ _ _ _ (by omega) (by omega) (by omega) (by omega)
              · skip
                clear hs
                rintro _ w1 ⟨r7, rfl, b7, a7, k7, hf⟩ a hs
                replace hm := hm.dkt rep_ k7 hf
                clear hf
                refine ⟨hm.sub sub_, ?_⟩
                refine hTake 13 hs rfl (by kernel_rfl) (Wnt.none rfl) rfl rfl (by intro w hm; replace hm : Mm _ _ _ w := hm; (first | exact r_arH hs rfl (by assumption) (by omega) | exact r_pred hs rfl rfl rfl (by omega) | exact r_ar hs rfl (by omega) | exact r_bi hs rfl)) (hm.sub (List.nil_sublist _)) ?_; clear hs a; intro a hs
                refine hEach [4] (by kernel_rfl) (eDo hs rfl (Wnt.none rfl) rfl rfl (RunV.does kvR_) ?_ eNil)
                clear hs a
                rintro _ _ ⟨rfl, rfl⟩ a hs
                refine ⟨hm.sub sub_, ?_⟩
                refine hV_ 14 ?_; clear hs a; intro a hs
                refine hEach [15] (by kernel_rfl) (eDo hs rfl (Wnt.none rfl) rfl rfl (by exact d_buildSlice hs rfl tab rfl rfl rfl rfl rfl rfl rfl rfl rfl hm) ?_ eNil)
                clear hs hm a
                rintro _ w35 ⟨g58, rfl, -, hm⟩ a hs
                refine ⟨hm.sub sub_, ?_⟩
                refine hV_ 16 ?_; clear hs a; intro a hs
                refine hDone (by kernel_rfl) ?_
                obtain ⟨g8, en_⟩ := hs.ps 8 (by exact rfl); subst en_
                refine And.intro rfl ⟨g8, [⟨z, 3 + (r5 : Int), 3 + (r6 : Int), 3 + (r7 : Int), 0⟩], _, _, rfl, rfl, fun i hi => ?_, hs.sub (Has.all ⟨rfl, trivial⟩), hm.sub sub_⟩
                simp only [List.mem_cons, List.not_mem_nil, or_false] at hi
                rcases hi with rfl <;> first | exact in_lea _ _ (by omega) (by omega) (by omega) | exact in_st _ _ _ (by omega) (by omega) (by omega) | exact in_ld _ _ _ (by omega) (by omega) (by omega) | exact in_alu _ _ _ _ (by omega) (by omega) (by omega) (by omega)
            · skip
              clear hs
              rintro _ w1 ⟨r7, rfl, b7, a7, k7, hf⟩ a hs
              replace hm := hm.dkt rep_ k7 hf
              clear hf
              refine ⟨hm.sub sub_, ?_⟩
              refine hTake 13 hs rfl (by kernel_rfl) (Wnt.none rfl) rfl rfl (by intro w hm; replace hm : Mm _ _ _ w := hm; (first | exact r_arH hs rfl (by assumption) (by omega) | exact r_pred hs rfl rfl rfl (by omega) | exact r_ar hs rfl (by omega) | exact r_bi hs rfl)) (hm.sub (List.nil_sublist _)) ?_; clear hs a; intro a hs
              refine hEach [0] (by kernel_rfl) (eDo hs rfl (Wnt.none rfl) rfl rfl (by exact d_buildSlice hs rfl tab rfl rfl rfl rfl rfl rfl rfl rfl rfl hm) ?_ eNil)
              clear hs hm a
              rintro _ w20 ⟨g43, rfl, -, hm⟩ a hs
              refine ⟨hm.sub sub_, ?_⟩
              refine hTake 3 hs rfl (by kernel_rfl) (Wnt.none rfl) rfl rfl (by intro w hm; replace hm : Mm _ _ _ w := hm; (first | exact r_iz hs tab rfl rfl (by omega) | exact r_iy hs tab rfl rfl (by omega))) (hm.sub (List.nil_sublist _)) ?_; clear hs a; intro a hs
              refine hEach [4] (by kernel_rfl) (eDo hs rfl (Wnt.none rfl) rfl rfl (RunV.does kvR_) ?_ eNil)
              clear hs a
              rintro _ _ ⟨rfl, rfl⟩ a hs
              refine ⟨hm.sub sub_, ?_⟩
              refine hV_ 14 ?_; clear hs a; intro a hs
              refine hEach [15] (by kernel_rfl) (eDo hs rfl (Wnt.none rfl) rfl rfl (by exact d_buildSlice hs rfl tab rfl rfl rfl rfl rfl rfl rfl rfl rfl hm) ?_ eNil)
              clear hs hm a
              rintro _ w35 ⟨g58, rfl, -, hm⟩ a hs
              refine ⟨hm.sub sub_, ?_⟩
              refine hV_ 16 ?_; clear hs a; intro a hs
              refine hDone (by kernel_rfl) ?_
              obtain ⟨g8, en_⟩ := hs.ps 8 (by exact rfl); subst en_
              refine And.intro rfl ⟨g8, [⟨z, 3 + (r5 : Int), 3 + (r6 : Int), 3 + (r7 : Int), 0⟩], _, _, rfl, rfl, fun i hi => ?_, hs.sub (Has.all ⟨rfl, trivial⟩), hm.sub sub_⟩
              simp only [List.mem_cons, List.not_mem_nil, or_false] at hi
              rcases hi with rfl <;> first | exact in_lea _ _ (by omega) (by omega) (by omega) | exact in_st _ _ _ (by omega) (by omega) (by omega) | exact in_ld _ _ _ (by omega) (by omega) (by omega) | exact in_alu _ _ _ _ (by omega) (by omega) (by omega) (by omega)
    clear hs hm a
    rintro a w ⟨g8, l, a9, cs, hcs, hln, hiv, hs, hm⟩
    repeat (first | (refine ovXPg40_ ?_; clear hs a; intro a hs) | ((with_reducible apply lCons); first | (refine dv hs gw_ rfl rfl da_ ?_; clear hs hm a; rintro _ w ⟨g, rfl, -, hm⟩ a hs) | (refine stn hs rfl rfl ds_ ?_; clear hs hm a; rintro - w hm a hs)) | refine sc_ ?_)
    exact gRet1 hs rfl rfl ⟨a9, some g8, 1, cs, l, by rw [hln]; rfl, by rw [hln, ← hcs]; exact row_lit (by rw [hcs, flat_len inV 5 inV_len, hln]) (by omega), by omega, by omega, hiv, hm⟩
  · skip
    repeat (first | (refine ovXPg40_ ?_; clear hs a; intro a hs) | ((with_reducible apply lCons); first | (refine dv hs gw_ rfl rfl da_ ?_; clear hs hm a; rintro _ w ⟨g, rfl, -, hm⟩ a hs) | (refine stn hs rfl rfl ds_ ?_; clear hs hm a; rintro - w hm a hs) | (refine dvc hs hm gw_ rfl rfl rfl rfl rfl (pl 29 rfl) (hli _ _ _) ?_; clear hs hm a; intro w hm a hs) | (refine dvc hs hm gw_ rfl rfl rfl rfl rfl (pl 52 rfl) (hmv _ _ _) ?_; clear hs hm a; intro w hm a hs) | (refine dvc hs hm gw_ rfl rfl rfl rfl rfl (pl 30 rfl) (hsy _ _) ?_; clear hs hm a; intro w hm a hs)) | refine sc_ ?_)
    obtain ⟨g8, en_⟩ := hs.ps 8 (by exact rfl); subst en_
    refine gRet1 hs rfl rfl ⟨_, some g8, 1, _, [⟨15, 6, 0, 0, (r1 : Int)⟩], rfl, row_lit rfl (by show 1 ≤ 1000; omega), by show 1 ≤ 1; omega, by show 1 ≤ 6; omega, fun i hi => ?_, hm.sub sub_⟩
    simp only [List.mem_cons, List.not_mem_nil, or_false] at hi
    rcases hi with rfl <;> first | exact in_li _ _ (by omega) (by omega) | exact in_lea _ _ (by omega) (by omega) (by omega) | exact in_sys _ (by omega) | exact in_jnz _ _ (by omega) (by omega) | exact in_mov _ _ (by omega) (by omega) | exact in_st _ _ _ (by omega) (by omega) (by omega) | exact in_ld _ _ _ (by omega) (by omega) (by omega) | exact in_alu _ _ _ _ (by omega) (by omega) (by omega) (by omega)
  · skip
    repeat (first | (refine ovXPg40_ ?_; clear hs a; intro a hs) | ((with_reducible apply lCons); first | (refine dv hs gw_ rfl rfl da_ ?_; clear hs hm a; rintro _ w ⟨g, rfl, -, hm⟩ a hs) | (refine stn hs rfl rfl ds_ ?_; clear hs hm a; rintro - w hm a hs)) | refine sc_ ?_)
    refine cMid (fun a w => ∃ (g8 : Nat) (l : List In) (a9 : Nat) (cs : List Value), cs = l.flatMap inV ∧ l.length = 2 ∧ (∀ i ∈ l, InV i (m : Int)) ∧ Sl Tryz.f28.ntmps [(8, .slice (some ⟨g8, 0, none⟩) 2 2)] a ∧ Mm (own [dk gd A n c at_]) wB [⟨some g8, 54, cs⟩, dk gd A n c a9] w) ?_ ?_
    · skip
      refine cDraw (n := 14) [] hm rfl rfl ?_
      clear hm
      intro w2 hm
      refine hV_ 0 ?_; clear hs a; intro a hs
      refine hV_ 1 ?_; clear hs a; intro a hs
      refine hV_ 2 ?_; clear hs a; intro a hs
      refine hV_ 5 ?_; clear hs a; intro a hs
      refine hV_ 6 ?_; clear hs a; intro a hs
      refine hV_ 7 ?_; clear hs a; intro a hs
      refine hTake 8 hs rfl (by kernel_rfl) (Wnt.none rfl) rfl rfl (by intro w hm; replace hm : Mm _ _ _ w := hm; (first | exact r_iz hs tab rfl rfl (by omega) | exact r_iy hs tab rfl rfl (by omega))) (hm.sub (List.nil_sublist _)) ?_; clear hs a; intro a hs
      refine hTake 9 hs rfl (by kernel_rfl) (Wnt.none rfl) rfl rfl (by intro w hm; replace hm : Mm _ _ _ w := hm; exact klR_) (hm.sub (List.nil_sublist _)) ?_; clear hs a; intro a hs
      refine hEach [3] (by kernel_rfl) (eDo hs rfl (Wnt.none rfl) rfl rfl (by exact d_call hs rfl rfl rfl (pl 27 rfl) ((nxt_c gd A n c _ xs 5 _ (h.now hm mem_) (by omega) (by omega)))) ?_ eNil)
      clear hs
      rintro _ w1 ⟨r4, rfl, b4, a4, k4, hf⟩ a hs
      replace hm := hm.dkt rep_ k4 hf
      clear hf
      refine ⟨hm.sub sub_, ?_⟩
      refine hTake 4 hs rfl (by kernel_rfl) (Wnt.none rfl) rfl rfl (by intro w hm; replace hm : Mm _ _ _ w := hm; (first | exact r_arH hs rfl (by assumption) (by omega) | exact r_pred hs rfl rfl rfl (by omega) | exact r_ar hs rfl (by omega) | exact r_bi hs rfl)) (hm.sub (List.nil_sublist _)) ?_; clear hs a; intro a hs
      refine hEach [10] (by kernel_rfl) (eDo hs rfl (Wnt.none rfl) rfl rfl (by exact d_call hs rfl rfl rfl (pl 27 rfl) ((nxt_c gd A n c _ xs sz _ (h.now hm mem_) (by omega) (by omega)))) ?_ eNil)
      clear hs
      rintro _ w1 ⟨r5, rfl, b5, a5, k5, hf⟩ a hs
      replace hm := hm.dkt rep_ k5 hf
      clear hf
      refine ⟨hm.sub sub_, ?_⟩
      refine hV_ 11 ?_; clear hs a; intro a hs
      refine hEach [12] (by kernel_rfl) (eDo hs rfl (Wnt.none rfl) rfl rfl (by exact d_buildSlice hs rfl tab rfl rfl rfl rfl rfl rfl rfl rfl rfl hm) ?_ eNil)
      clear hs hm a
      rintro _ w32 ⟨g79, rfl, -, hm⟩ a hs
      refine ⟨hm.sub sub_, ?_⟩
      refine hV_ 13 ?_; clear hs a; intro a hs
      refine hDone (by kernel_rfl) ?_
      obtain ⟨g8, en_⟩ := hs.ps 8 (by exact rfl); subst en_
      refine And.intro rfl ⟨g8, [⟨15, 6, 0, 0, (r1 : Int)⟩, ⟨17, 6, 3 + (r4 : Int), 0, (r5 : Int)⟩], _, _, rfl, rfl, fun i hi => ?_, hs.sub (Has.all ⟨rfl, trivial⟩), hm.sub sub_⟩
      simp only [List.mem_cons, List.not_mem_nil, or_false] at hi
      rcases hi with rfl | rfl <;> first | exact in_lea _ _ (by omega) (by omega) (by omega) | exact in_st _ _ _ (by omega) (by omega) (by omega) | exact in_ld _ _ _ (by omega) (by omega) (by omega) | exact in_alu _ _ _ _ (by omega) (by omega) (by omega) (by omega)
    clear hs hm a
    rintro a w ⟨g8, l, a9, cs, hcs, hln, hiv, hs, hm⟩
    repeat (first | (refine ovXPg40_ ?_; clear hs a; intro a hs) | ((with_reducible apply lCons); first | (refine dv hs gw_ rfl rfl da_ ?_; clear hs hm a; rintro _ w ⟨g, rfl, -, hm⟩ a hs) | (refine stn hs rfl rfl ds_ ?_; clear hs hm a; rintro - w hm a hs)) | refine sc_ ?_)
    exact gRet1 hs rfl rfl ⟨a9, some g8, 2, cs, l, by rw [hln]; rfl, by rw [hln, ← hcs]; exact row_lit (by rw [hcs, flat_len inV 5 inV_len, hln]) (by omega), by omega, by omega, hiv, hm⟩
  · skip
    repeat (first | (refine ovXPg40_ ?_; clear hs a; intro a hs) | ((with_reducible apply lCons); first | (refine dv hs gw_ rfl rfl da_ ?_; clear hs hm a; rintro _ w ⟨g, rfl, -, hm⟩ a hs) | (refine stn hs rfl rfl ds_ ?_; clear hs hm a; rintro - w hm a hs)) | refine sc_ ?_)
    refine cMid (fun a w => ∃ (g8 : Nat) (l : List In) (a9 : Nat) (cs : List Value), cs = l.flatMap inV ∧ l.length = 2 ∧ (∀ i ∈ l, InV i (m : Int)) ∧ Sl Tryz.f28.ntmps [(8, .slice (some ⟨g8, 0, none⟩) 2 2)] a ∧ Mm (own [dk gd A n c at_]) wB [⟨some g8, 54, cs⟩, dk gd A n c a9] w) ?_ ?_
    · skip
      refine cDraw (n := 14) [] hm rfl rfl ?_
      clear hm
      intro w2 hm
      refine hV_ 0 ?_; clear hs a; intro a hs
      refine hV_ 1 ?_; clear hs a; intro a hs
      refine hV_ 2 ?_; clear hs a; intro a hs
      refine hV_ 5 ?_; clear hs a; intro a hs
      refine hV_ 6 ?_; clear hs a; intro a hs
      refine hV_ 7 ?_; clear hs a; intro a hs
      refine hTake 8 hs rfl (by kernel_rfl) (Wnt.none rfl) rfl rfl (by intro w hm; replace hm : Mm _ _ _ w := hm; (first | exact r_iz hs tab rfl rfl (by omega) | exact r_iy hs tab rfl rfl (by omega))) (hm.sub (List.nil_sublist _)) ?_; clear hs a; intro a hs
      refine hTake 9 hs rfl (by kernel_rfl) (Wnt.none rfl) rfl rfl (by intro w hm; replace hm : Mm _ _ _ w := hm; exact klR_) (hm.sub (List.nil_sublist _)) ?_; clear hs a; intro a hs
      refine hEach [3] (by kernel_rfl) (eDo hs rfl (Wnt.none rfl) rfl rfl (by exact d_call hs rfl rfl rfl (pl 27 rfl) ((nxt_c gd A n c _ xs 5 _ (h.now hm mem_) (by omega) (by omega)))) ?_ eNil)
      clear hs
      rintro _ w1 ⟨r4, rfl, b4, a4, k4, hf⟩ a hs
      replace hm := hm.dkt rep_ k4 hf
      clear hf
      refine ⟨hm.sub sub_, ?_⟩
      refine hTake 4 hs rfl (by kernel_rfl) (Wnt.none rfl) rfl rfl (by intro w hm; replace hm : Mm _ _ _ w := hm; (first | exact r_arH hs rfl (by assumption) (by omega) | exact r_pred hs rfl rfl rfl (by omega) | exact r_ar hs rfl (by omega) | exact r_bi hs rfl)) (hm.sub (List.nil_sublist _)) ?_; clear hs a; intro a hs
      refine hEach [10] (by kernel_rfl) (eDo hs rfl (Wnt.none rfl) rfl rfl (by exact d_call hs rfl rfl rfl (pl 27 rfl) ((nxt_c gd A n c _ xs sz _ (h.now hm mem_) (by omega) (by omega)))) ?_ eNil)
      clear hs
      rintro _ w1 ⟨r5, rfl, b5, a5, k5, hf⟩ a hs
      replace hm := hm.dkt rep_ k5 hf
      clear hf
      refine ⟨hm.sub sub_, ?_⟩
      refine hV_ 11 ?_; clear hs a; intro a hs
      refine hEach [12] (by kernel_rfl) (eDo hs rfl (Wnt.none rfl) rfl rfl (by exact d_buildSlice hs rfl tab rfl rfl rfl rfl rfl rfl rfl rfl rfl hm) ?_ eNil)
      clear hs hm a
      rintro _ w32 ⟨g79, rfl, -, hm⟩ a hs
      refine ⟨hm.sub sub_, ?_⟩
      refine hV_ 13 ?_; clear hs a; intro a hs
      refine hDone (by kernel_rfl) ?_
      obtain ⟨g8, en_⟩ := hs.ps 8 (by exact rfl); subst en_
      refine And.intro rfl ⟨g8, [⟨15, 6, 0, 0, (r1 : Int)⟩, ⟨17, 6, 3 + (r4 : Int), 0, (r5 : Int)⟩], _, _, rfl, rfl, fun i hi => ?_, hs.sub (Has.all ⟨rfl, trivial⟩), hm.sub sub_⟩
      simp only [List.mem_cons, List.not_mem_nil, or_false] at hi
      rcases hi with rfl | rfl <;> first | exact in_lea _ _ (by omega) (by omega) (by omega) | exact in_st _ _ _ (by omega) (by omega) (by omega) | exact in_ld _ _ _ (by omega) (by omega) (by omega) | exact in_alu _ _ _ _ (by omega) (by omega) (by omega) (by omega)
    clear hs hm a
    rintro a w ⟨g8, l, a9, cs, hcs, hln, hiv, hs, hm⟩
    repeat (first | (refine ovXPg40_ ?_; clear hs a; intro a hs) | ((with_reducible apply lCons); first | (refine dv hs gw_ rfl rfl da_ ?_; clear hs hm a; rintro _ w ⟨g, rfl, -, hm⟩ a hs) | (refine stn hs rfl rfl ds_ ?_; clear hs hm a; rintro - w hm a hs)) | refine sc_ ?_)
    exact gRet1 hs rfl rfl ⟨a9, some g8, 2, cs, l, by rw [hln]; rfl, by rw [hln, ← hcs]; exact row_lit (by rw [hcs, flat_len inV 5 inV_len, hln]) (by omega), by omega, by omega, hiv, hm⟩
  · skip
    repeat (first | (refine ovXPg40_ ?_; clear hs a; intro a hs) | ((with_reducible apply lCons); first | (refine dv hs gw_ rfl rfl da_ ?_; clear hs hm a; rintro _ w ⟨g, rfl, -, hm⟩ a hs) | (refine stn hs rfl rfl ds_ ?_; clear hs hm a; rintro - w hm a hs)) | refine sc_ ?_)
    refine cMid (fun a w => ∃ (g8 : Nat) (l : List In) (a9 : Nat) (cs : List Value), cs = l.flatMap inV ∧ l.length = 2 ∧ (∀ i ∈ l, InV i (m : Int)) ∧ Sl Tryz.f28.ntmps [(8, .slice (some ⟨g8, 0, none⟩) 2 2)] a ∧ Mm (own [dk gd A n c at_]) wB [⟨some g8, 54, cs⟩, dk gd A n c a9] w) ?_ ?_
    · skip
      refine cDraw (n := 14) [] hm rfl rfl ?_
      clear hm
      intro w2 hm
      refine hV_ 0 ?_; clear hs a; intro a hs
      refine hV_ 1 ?_; clear hs a; intro a hs
      refine hV_ 2 ?_; clear hs a; intro a hs
      refine hV_ 5 ?_; clear hs a; intro a hs
      refine hV_ 6 ?_; clear hs a; intro a hs
      refine hV_ 7 ?_; clear hs a; intro a hs
      refine hTake 8 hs rfl (by kernel_rfl) (Wnt.none rfl) rfl rfl (by intro w hm; replace hm : Mm _ _ _ w := hm; (first | exact r_iz hs tab rfl rfl (by omega) | exact r_iy hs tab rfl rfl (by omega))) (hm.sub (List.nil_sublist _)) ?_; clear hs a; intro a hs
      refine hTake 9 hs rfl (by kernel_rfl) (Wnt.none rfl) rfl rfl (by intro w hm; replace hm : Mm _ _ _ w := hm; exact klR_) (hm.sub (List.nil_sublist _)) ?_; clear hs a; intro a hs
      refine hEach [3] (by kernel_rfl) (eDo hs rfl (Wnt.none rfl) rfl rfl (by exact d_call hs rfl rfl rfl (pl 27 rfl) ((nxt_c gd A n c _ xs 4 _ (h.now hm mem_) (by omega) (by omega)))) ?_ eNil)
      clear hs
      rintro _ w1 ⟨r4, rfl, b4, a4, k4, hf⟩ a hs
      replace hm := hm.dkt rep_ k4 hf
      clear hf
      refine ⟨hm.sub sub_, ?_⟩
      refine hTake 4 hs rfl (by kernel_rfl) (Wnt.none rfl) rfl rfl (by intro w hm; replace hm : Mm _ _ _ w := hm; (first | exact r_arH hs rfl (by assumption) (by omega) | exact r_pred hs rfl rfl rfl (by omega) | exact r_ar hs rfl (by omega) | exact r_bi hs rfl)) (hm.sub (List.nil_sublist _)) ?_; clear hs a; intro a hs
      refine hEach [10] (by kernel_rfl) (eDo hs rfl (Wnt.none rfl) rfl rfl (by exact d_call hs rfl rfl rfl (pl 27 rfl) ((nxt_c gd A n c _ xs sz _ (h.now hm mem_) (by omega) (by omega)))) ?_ eNil)
      clear hs
      rintro _ w1 ⟨r5, rfl, b5, a5, k5, hf⟩ a hs
      replace hm := hm.dkt rep_ k5 hf
      clear hf
      refine ⟨hm.sub sub_, ?_⟩
      refine hV_ 11 ?_; clear hs a; intro a hs
      refine hEach [12] (by kernel_rfl) (eDo hs rfl (Wnt.none rfl) rfl rfl (by exact d_buildSlice hs rfl tab rfl rfl rfl rfl rfl rfl rfl rfl rfl hm) ?_ eNil)
      clear hs hm a
      rintro _ w32 ⟨g95, rfl, -, hm⟩ a hs
      refine ⟨hm.sub sub_, ?_⟩
      refine hV_ 13 ?_; clear hs a; intro a hs
      refine hDone (by kernel_rfl) ?_
      obtain ⟨g8, en_⟩ := hs.ps 8 (by exact rfl); subst en_
      refine And.intro rfl ⟨g8, [⟨15, 6, 0, 0, (r1 : Int)⟩, ⟨16, 3 + (r4 : Int), 6, 0, (r5 : Int)⟩], _, _, rfl, rfl, fun i hi => ?_, hs.sub (Has.all ⟨rfl, trivial⟩), hm.sub sub_⟩
      simp only [List.mem_cons, List.not_mem_nil, or_false] at hi
      rcases hi with rfl | rfl <;> first | exact in_lea _ _ (by omega) (by omega) (by omega) | exact in_st _ _ _ (by omega) (by omega) (by omega) | exact in_ld _ _ _ (by omega) (by omega) (by omega) | exact in_alu _ _ _ _ (by omega) (by omega) (by omega) (by omega)
    clear hs hm a
    rintro a w ⟨g8, l, a9, cs, hcs, hln, hiv, hs, hm⟩
    repeat (first | (refine ovXPg40_ ?_; clear hs a; intro a hs) | ((with_reducible apply lCons); first | (refine dv hs gw_ rfl rfl da_ ?_; clear hs hm a; rintro _ w ⟨g, rfl, -, hm⟩ a hs) | (refine stn hs rfl rfl ds_ ?_; clear hs hm a; rintro - w hm a hs)) | refine sc_ ?_)
    exact gRet1 hs rfl rfl ⟨a9, some g8, 2, cs, l, by rw [hln]; rfl, by rw [hln, ← hcs]; exact row_lit (by rw [hcs, flat_len inV 5 inV_len, hln]) (by omega), by omega, by omega, hiv, hm⟩
  · skip
    repeat (first | (refine ovXPg40_ ?_; clear hs a; intro a hs) | ((with_reducible apply lCons); first | (refine dv hs gw_ rfl rfl da_ ?_; clear hs hm a; rintro _ w ⟨g, rfl, -, hm⟩ a hs) | (refine stn hs rfl rfl ds_ ?_; clear hs hm a; rintro - w hm a hs)) | refine sc_ ?_)
    refine cMid (fun a w => ∃ (g8 : Nat) (l : List In) (a9 : Nat) (cs : List Value), cs = l.flatMap inV ∧ l.length = 2 ∧ (∀ i ∈ l, InV i (m : Int)) ∧ Sl Tryz.f28.ntmps [(8, .slice (some ⟨g8, 0, none⟩) 2 2)] a ∧ Mm (own [dk gd A n c at_]) wB [⟨some g8, 54, cs⟩, dk gd A n c a9] w) ?_ ?_
    · skip
      refine cDraw (n := 14) [] hm rfl rfl ?_
      clear hm
      intro w2 hm
      refine hV_ 0 ?_; clear hs a; intro a hs
      refine hV_ 1 ?_; clear hs a; intro a hs
      refine hV_ 2 ?_; clear hs a; intro a hs
      refine hV_ 5 ?_; clear hs a; intro a hs
      refine hV_ 6 ?_; clear hs a; intro a hs
      refine hV_ 7 ?_; clear hs a; intro a hs
      refine hTake 8 hs rfl (by kernel_rfl) (Wnt.none rfl) rfl rfl (by intro w hm; replace hm : Mm _ _ _ w := hm; (first | exact r_iz hs tab rfl rfl (by omega) | exact r_iy hs tab rfl rfl (by omega))) (hm.sub (List.nil_sublist _)) ?_; clear hs a; intro a hs
      refine hTake 9 hs rfl (by kernel_rfl) (Wnt.none rfl) rfl rfl (by intro w hm; replace hm : Mm _ _ _ w := hm; exact klR_) (hm.sub (List.nil_sublist _)) ?_; clear hs a; intro a hs
      refine hEach [3] (by kernel_rfl) (eDo hs rfl (Wnt.none rfl) rfl rfl (by exact d_call hs rfl rfl rfl (pl 27 rfl) ((nxt_c gd A n c _ xs 4 _ (h.now hm mem_) (by omega) (by omega)))) ?_ eNil)
      clear hs
      rintro _ w1 ⟨r4, rfl, b4, a4, k4, hf⟩ a hs
      replace hm := hm.dkt rep_ k4 hf
      clear hf
      refine ⟨hm.sub sub_, ?_⟩
      refine hTake 4 hs rfl (by kernel_rfl) (Wnt.none rfl) rfl rfl (by intro w hm; replace hm : Mm _ _ _ w := hm; (first | exact r_arH hs rfl (by assumption) (by omega) | exact r_pred hs rfl rfl rfl (by omega) | exact r_ar hs rfl (by omega) | exact r_bi hs rfl)) (hm.sub (List.nil_sublist _)) ?_; clear hs a; intro a hs
      refine hEach [10] (by kernel_rfl) (eDo hs rfl (Wnt.none rfl) rfl rfl (by exact d_call hs rfl rfl rfl (pl 27 rfl) ((nxt_c gd A n c _ xs sz _ (h.now hm mem_) (by omega) (by omega)))) ?_ eNil)
      clear hs
      rintro _ w1 ⟨r5, rfl, b5, a5, k5, hf⟩ a hs
      replace hm := hm.dkt rep_ k5 hf
      clear hf
      refine ⟨hm.sub sub_, ?_⟩
      refine hV_ 11 ?_; clear hs a; intro a hs
      refine hEach [12] (by kernel_rfl) (eDo hs rfl (Wnt.none rfl) rfl rfl (by exact d_buildSlice hs rfl tab rfl rfl rfl rfl rfl rfl rfl rfl rfl hm) ?_ eNil)
      clear hs hm a
      rintro _ w32 ⟨g95, rfl, -, hm⟩ a hs
      refine ⟨hm.sub sub_, ?_⟩
      refine hV_ 13 ?_; clear hs a; intro a hs
      refine hDone (by kernel_rfl) ?_
      obtain ⟨g8, en_⟩ := hs.ps 8 (by exact rfl); subst en_
      refine And.intro rfl ⟨g8, [⟨15, 6, 0, 0, (r1 : Int)⟩, ⟨16, 3 + (r4 : Int), 6, 0, (r5 : Int)⟩], _, _, rfl, rfl, fun i hi => ?_, hs.sub (Has.all ⟨rfl, trivial⟩), hm.sub sub_⟩
      simp only [List.mem_cons, List.not_mem_nil, or_false] at hi
      rcases hi with rfl | rfl <;> first | exact in_lea _ _ (by omega) (by omega) (by omega) | exact in_st _ _ _ (by omega) (by omega) (by omega) | exact in_ld _ _ _ (by omega) (by omega) (by omega) | exact in_alu _ _ _ _ (by omega) (by omega) (by omega) (by omega)
    clear hs hm a
    rintro a w ⟨g8, l, a9, cs, hcs, hln, hiv, hs, hm⟩
    repeat (first | (refine ovXPg40_ ?_; clear hs a; intro a hs) | ((with_reducible apply lCons); first | (refine dv hs gw_ rfl rfl da_ ?_; clear hs hm a; rintro _ w ⟨g, rfl, -, hm⟩ a hs) | (refine stn hs rfl rfl ds_ ?_; clear hs hm a; rintro - w hm a hs)) | refine sc_ ?_)
    exact gRet1 hs rfl rfl ⟨a9, some g8, 2, cs, l, by rw [hln]; rfl, by rw [hln, ← hcs]; exact row_lit (by rw [hcs, flat_len inV 5 inV_len, hln]) (by omega), by omega, by omega, hiv, hm⟩
  · skip
    repeat (first | (refine ovXPg40_ ?_; clear hs a; intro a hs) | ((with_reducible apply lCons); first | (refine dv hs gw_ rfl rfl da_ ?_; clear hs hm a; rintro _ w ⟨g, rfl, -, hm⟩ a hs) | (refine stn hs rfl rfl ds_ ?_; clear hs hm a; rintro - w hm a hs) | (refine dvc hs hm gw_ rfl rfl rfl rfl rfl (pl 29 rfl) (hli _ _ _) ?_; clear hs hm a; intro w hm a hs) | (refine dvc hs hm gw_ rfl rfl rfl rfl rfl (pl 52 rfl) (hmv _ _ _) ?_; clear hs hm a; intro w hm a hs) | (refine dvc hs hm gw_ rfl rfl rfl rfl rfl (pl 30 rfl) (hsy _ _) ?_; clear hs hm a; intro w hm a hs)) | refine sc_ ?_)
    refine st hs rfl rfl rfl (d_call hs rfl rfl rfl (pl 27 rfl) ((nxt_c gd A n c _ xs 3 _ (h.now hm mem_) (by omega) (by omega)))) ?_; clear hs a; rintro _ w1 ⟨r4, rfl, b4, a4, k4, hf⟩ a hs
    replace hm := hm.dkt rep_ k4 hf
    clear hf
    repeat (first | (refine ovXPg40_ ?_; clear hs a; intro a hs) | ((with_reducible apply lCons); first | (refine dv hs gw_ rfl rfl da_ ?_; clear hs hm a; rintro _ w ⟨g, rfl, -, hm⟩ a hs) | (refine stn hs rfl rfl ds_ ?_; clear hs hm a; rintro - w hm a hs) | (refine dvc hs hm gw_ rfl rfl rfl rfl rfl (pl 29 rfl) (hli _ _ _) ?_; clear hs hm a; intro w hm a hs) | (refine dvc hs hm gw_ rfl rfl rfl rfl rfl (pl 52 rfl) (hmv _ _ _) ?_; clear hs hm a; intro w hm a hs) | (refine dvc hs hm gw_ rfl rfl rfl rfl rfl (pl 30 rfl) (hsy _ _) ?_; clear hs hm a; intro w hm a hs)) | refine sc_ ?_)
    obtain ⟨g0, en_⟩ := hs.ps 102 (by exact rfl); subst en_
    refine dv hs (Wnt.none rfl) rfl rfl (d_append (A := some g0) (n := 1) (c := 1) hs rfl rfl rfl rfl rfl tab rfl rfl rfl rfl rfl hm mem_ (row_lit rfl (by omega)) rfl (hm.ro (n := 10) mem_ (cutF_ok rfl)) rfl (by show (1 + 2) * 40 ≤ _; omega) (by omega)) ?_
    clear hs
    rintro _ w2 ⟨A1, c1, cs1, rfl, hr1, hM⟩ a hs
    replace hm := hM _ rep_
    clear hM
    repeat (first | (refine ovXPg40_ ?_; clear hs a; intro a hs) | ((with_reducible apply lCons); first | (refine dv hs gw_ rfl rfl da_ ?_; clear hs hm a; rintro _ w ⟨g, rfl, -, hm⟩ a hs) | (refine stn hs rfl rfl ds_ ?_; clear hs hm a; rintro - w hm a hs) | (refine dvc hs hm gw_ rfl rfl rfl rfl rfl (pl 29 rfl) (hli _ _ _) ?_; clear hs hm a; intro w hm a hs) | (refine dvc hs hm gw_ rfl rfl rfl rfl rfl (pl 52 rfl) (hmv _ _ _) ?_; clear hs hm a; intro w hm a hs) | (refine dvc hs hm gw_ rfl rfl rfl rfl rfl (pl 30 rfl) (hsy _ _) ?_; clear hs hm a; intro w hm a hs)) | refine sc_ ?_)
    refine dv hs (Wnt.none rfl) rfl rfl (d_append (A := A1) (n := 1 + 2) (c := c1) hs rfl rfl rfl rfl rfl tab rfl rfl rfl rfl rfl hm mem_ hr1 rfl (hm.ro (n := 5) mem_ (cutF_ok rfl)) rfl (by show (1 + 2 + 1) * 40 ≤ _; omega) (by omega)) ?_
    clear hs
    rintro _ w2 ⟨A2, c2, cs2, rfl, hr2, hM⟩ a hs
    replace hm := hM _ rep_
    clear hM
    repeat (first | (refine ovXPg40_ ?_; clear hs a; intro a hs) | ((with_reducible apply lCons); first | (refine dv hs gw_ rfl rfl da_ ?_; clear hs hm a; rintro _ w ⟨g, rfl, -, hm⟩ a hs) | (refine stn hs rfl rfl ds_ ?_; clear hs hm a; rintro - w hm a hs) | (refine dvc hs hm gw_ rfl rfl rfl rfl rfl (pl 29 rfl) (hli _ _ _) ?_; clear hs hm a; intro w hm a hs) | (refine dvc hs hm gw_ rfl rfl rfl rfl rfl (pl 52 rfl) (hmv _ _ _) ?_; clear hs hm a; intro w hm a hs) | (refine dvc hs hm gw_ rfl rfl rfl rfl rfl (pl 30 rfl) (hsy _ _) ?_; clear hs hm a; intro w hm a hs)) | refine sc_ ?_)
    refine gRet1 hs rfl rfl ⟨_, A2, _, _, [⟨1, 0, 0, 0, (r4 : Int)⟩, ⟨15, 1, 0, 0, (r1 : Int)⟩, ⟨1, 2, 0, 0, (r2 : Int)⟩, ⟨23, 0, 0, 0, 13⟩], rfl, hr2, by show 1 ≤ 4; omega, by show 4 ≤ 6; omega, fun i hi => ?_, hm.sub sub_⟩
    simp only [List.mem_cons, List.not_mem_nil, or_false] at hi
    rcases hi with rfl | rfl | rfl | rfl <;> first | exact in_li _ _ (by omega) (by omega) | exact in_lea _ _ (by omega) (by omega) (by omega) | exact in_sys _ (by omega) | exact in_jnz _ _ (by omega) (by omega) | exact in_mov _ _ (by omega) (by omega)
  · skip
    repeat (first | (refine ovXPg40_ ?_; clear hs a; intro a hs) | ((with_reducible apply lCons); first | (refine dv hs gw_ rfl rfl da_ ?_; clear hs hm a; rintro _ w ⟨g, rfl, -, hm⟩ a hs) | (refine stn hs rfl rfl ds_ ?_; clear hs hm a; rintro - w hm a hs) | (refine dvc hs hm gw_ rfl rfl rfl rfl rfl (pl 29 rfl) (hli _ _ _) ?_; clear hs hm a; intro w hm a hs) | (refine dvc hs hm gw_ rfl rfl rfl rfl rfl (pl 52 rfl) (hmv _ _ _) ?_; clear hs hm a; intro w hm a hs) | (refine dvc hs hm gw_ rfl rfl rfl rfl rfl (pl 30 rfl) (hsy _ _) ?_; clear hs hm a; intro w hm a hs)) | refine sc_ ?_)
    refine st hs rfl rfl rfl (d_call hs rfl rfl rfl (pl 27 rfl) ((nxt_c gd A n c _ xs 3 _ (h.now hm mem_) (by omega) (by omega)))) ?_; clear hs a; rintro _ w1 ⟨r4, rfl, b4, a4, k4, hf⟩ a hs
    replace hm := hm.dkt rep_ k4 hf
    clear hf
    repeat (first | (refine ovXPg40_ ?_; clear hs a; intro a hs) | ((with_reducible apply lCons); first | (refine dv hs gw_ rfl rfl da_ ?_; clear hs hm a; rintro _ w ⟨g, rfl, -, hm⟩ a hs) | (refine stn hs rfl rfl ds_ ?_; clear hs hm a; rintro - w hm a hs) | (refine dvc hs hm gw_ rfl rfl rfl rfl rfl (pl 29 rfl) (hli _ _ _) ?_; clear hs hm a; intro w hm a hs) | (refine dvc hs hm gw_ rfl rfl rfl rfl rfl (pl 52 rfl) (hmv _ _ _) ?_; clear hs hm a; intro w hm a hs) | (refine dvc hs hm gw_ rfl rfl rfl rfl rfl (pl 30 rfl) (hsy _ _) ?_; clear hs hm a; intro w hm a hs)) | refine sc_ ?_)
    obtain ⟨g0, en_⟩ := hs.ps 102 (by exact rfl); subst en_
    refine dv hs (Wnt.none rfl) rfl rfl (d_append (A := some g0) (n := 1) (c := 1) hs rfl rfl rfl rfl rfl tab rfl rfl rfl rfl rfl hm mem_ (row_lit rfl (by omega)) rfl (hm.ro (n := 10) mem_ (cutF_ok rfl)) rfl (by show (1 + 2) * 40 ≤ _; omega) (by omega)) ?_
    clear hs
    rintro _ w2 ⟨A1, c1, cs1, rfl, hr1, hM⟩ a hs
    replace hm := hM _ rep_
    clear hM
    repeat (first | (refine ovXPg40_ ?_; clear hs a; intro a hs) | ((with_reducible apply lCons); first | (refine dv hs gw_ rfl rfl da_ ?_; clear hs hm a; rintro _ w ⟨g, rfl, -, hm⟩ a hs) | (refine stn hs rfl rfl ds_ ?_; clear hs hm a; rintro - w hm a hs) | (refine dvc hs hm gw_ rfl rfl rfl rfl rfl (pl 29 rfl) (hli _ _ _) ?_; clear hs hm a; intro w hm a hs) | (refine dvc hs hm gw_ rfl rfl rfl rfl rfl (pl 52 rfl) (hmv _ _ _) ?_; clear hs hm a; intro w hm a hs) | (refine dvc hs hm gw_ rfl rfl rfl rfl rfl (pl 30 rfl) (hsy _ _) ?_; clear hs hm a; intro w hm a hs)) | refine sc_ ?_)
    refine dv hs (Wnt.none rfl) rfl rfl (d_append (A := A1) (n := 1 + 2) (c := c1) hs rfl rfl rfl rfl rfl tab rfl rfl rfl rfl rfl hm mem_ hr1 rfl (hm.ro (n := 5) mem_ (cutF_ok rfl)) rfl (by show (1 + 2 + 1) * 40 ≤ _; omega) (by omega)) ?_
    clear hs
    rintro _ w2 ⟨A2, c2, cs2, rfl, hr2, hM⟩ a hs
    replace hm := hM _ rep_
    clear hM
    repeat (first | (refine ovXPg40_ ?_; clear hs a; intro a hs) | ((with_reducible apply lCons); first | (refine dv hs gw_ rfl rfl da_ ?_; clear hs hm a; rintro _ w ⟨g, rfl, -, hm⟩ a hs) | (refine stn hs rfl rfl ds_ ?_; clear hs hm a; rintro - w hm a hs) | (refine dvc hs hm gw_ rfl rfl rfl rfl rfl (pl 29 rfl) (hli _ _ _) ?_; clear hs hm a; intro w hm a hs) | (refine dvc hs hm gw_ rfl rfl rfl rfl rfl (pl 52 rfl) (hmv _ _ _) ?_; clear hs hm a; intro w hm a hs) | (refine dvc hs hm gw_ rfl rfl rfl rfl rfl (pl 30 rfl) (hsy _ _) ?_; clear hs hm a; intro w hm a hs)) | refine sc_ ?_)
    refine gRet1 hs rfl rfl ⟨_, A2, _, _, [⟨1, 0, 0, 0, (r4 : Int)⟩, ⟨15, 1, 0, 0, (r1 : Int)⟩, ⟨1, 2, 0, 0, (r2 : Int)⟩, ⟨23, 0, 0, 0, 13⟩], rfl, hr2, by show 1 ≤ 4; omega, by show 4 ≤ 6; omega, fun i hi => ?_, hm.sub sub_⟩
    simp only [List.mem_cons, List.not_mem_nil, or_false] at hi
    rcases hi with rfl | rfl | rfl | rfl <;> first | exact in_li _ _ (by omega) (by omega) | exact in_lea _ _ (by omega) (by omega) (by omega) | exact in_sys _ (by omega) | exact in_jnz _ _ (by omega) (by omega) | exact in_mov _ _ (by omega) (by omega)
  · skip
    repeat (first | (refine ovXPg40_ ?_; clear hs a; intro a hs) | ((with_reducible apply lCons); first | (refine dv hs gw_ rfl rfl da_ ?_; clear hs hm a; rintro _ w ⟨g, rfl, -, hm⟩ a hs) | (refine stn hs rfl rfl ds_ ?_; clear hs hm a; rintro - w hm a hs) | (refine dvc hs hm gw_ rfl rfl rfl rfl rfl (pl 29 rfl) (hli _ _ _) ?_; clear hs hm a; intro w hm a hs) | (refine dvc hs hm gw_ rfl rfl rfl rfl rfl (pl 52 rfl) (hmv _ _ _) ?_; clear hs hm a; intro w hm a hs) | (refine dvc hs hm gw_ rfl rfl rfl rfl rfl (pl 30 rfl) (hsy _ _) ?_; clear hs hm a; intro w hm a hs)) | refine sc_ ?_)
    refine st hs rfl rfl rfl (d_call hs rfl rfl rfl (pl 27 rfl) ((nxt_c gd A n c _ xs 3 _ (h.now hm mem_) (by omega) (by omega)))) ?_; clear hs a; rintro _ w1 ⟨r4, rfl, b4, a4, k4, hf⟩ a hs
    replace hm := hm.dkt rep_ k4 hf
    clear hf
    repeat (first | (refine ovXPg40_ ?_; clear hs a; intro a hs) | ((with_reducible apply lCons); first | (refine dv hs gw_ rfl rfl da_ ?_; clear hs hm a; rintro _ w ⟨g, rfl, -, hm⟩ a hs) | (refine stn hs rfl rfl ds_ ?_; clear hs hm a; rintro - w hm a hs) | (refine dvc hs hm gw_ rfl rfl rfl rfl rfl (pl 29 rfl) (hli _ _ _) ?_; clear hs hm a; intro w hm a hs) | (refine dvc hs hm gw_ rfl rfl rfl rfl rfl (pl 52 rfl) (hmv _ _ _) ?_; clear hs hm a; intro w hm a hs) | (refine dvc hs hm gw_ rfl rfl rfl rfl rfl (pl 30 rfl) (hsy _ _) ?_; clear hs hm a; intro w hm a hs)) | refine sc_ ?_)
    obtain ⟨g0, en_⟩ := hs.ps 113 (by exact rfl); subst en_
    refine dv hs (Wnt.none rfl) rfl rfl (d_append (A := some g0) (n := 1) (c := 1) hs rfl rfl rfl rfl rfl tab rfl rfl rfl rfl rfl hm mem_ (row_lit rfl (by omega)) rfl (hm.ro (n := 10) mem_ (cutF_ok rfl)) rfl (by show (1 + 2) * 40 ≤ _; omega) (by omega)) ?_
    clear hs
    rintro _ w2 ⟨A1, c1, cs1, rfl, hr1, hM⟩ a hs
    replace hm := hM _ rep_
    clear hM
    repeat (first | (refine ovXPg40_ ?_; clear hs a; intro a hs) | ((with_reducible apply lCons); first | (refine dv hs gw_ rfl rfl da_ ?_; clear hs hm a; rintro _ w ⟨g, rfl, -, hm⟩ a hs) | (refine stn hs rfl rfl ds_ ?_; clear hs hm a; rintro - w hm a hs) | (refine dvc hs hm gw_ rfl rfl rfl rfl rfl (pl 29 rfl) (hli _ _ _) ?_; clear hs hm a; intro w hm a hs) | (refine dvc hs hm gw_ rfl rfl rfl rfl rfl (pl 52 rfl) (hmv _ _ _) ?_; clear hs hm a; intro w hm a hs) | (refine dvc hs hm gw_ rfl rfl rfl rfl rfl (pl 30 rfl) (hsy _ _) ?_; clear hs hm a; intro w hm a hs)) | refine sc_ ?_)
    refine dv hs (Wnt.none rfl) rfl rfl (d_append (A := A1) (n := 1 + 2) (c := c1) hs rfl rfl rfl rfl rfl tab rfl rfl rfl rfl rfl hm mem_ hr1 rfl (hm.ro (n := 10) mem_ (cutF_ok rfl)) rfl (by show (1 + 2 + 2) * 40 ≤ _; omega) (by omega)) ?_
    clear hs
    rintro _ w2 ⟨A2, c2, cs2, rfl, hr2, hM⟩ a hs
    replace hm := hM _ rep_
    clear hM
    repeat (first | (refine ovXPg40_ ?_; clear hs a; intro a hs) | ((with_reducible apply lCons); first | (refine dv hs gw_ rfl rfl da_ ?_; clear hs hm a; rintro _ w ⟨g, rfl, -, hm⟩ a hs) | (refine stn hs rfl rfl ds_ ?_; clear hs hm a; rintro - w hm a hs) | (refine dvc hs hm gw_ rfl rfl rfl rfl rfl (pl 29 rfl) (hli _ _ _) ?_; clear hs hm a; intro w hm a hs) | (refine dvc hs hm gw_ rfl rfl rfl rfl rfl (pl 52 rfl) (hmv _ _ _) ?_; clear hs hm a; intro w hm a hs) | (refine dvc hs hm gw_ rfl rfl rfl rfl rfl (pl 30 rfl) (hsy _ _) ?_; clear hs hm a; intro w hm a hs)) | refine sc_ ?_)
    refine gRet1 hs rfl rfl ⟨_, A2, _, _, [⟨1, 0, 0, 0, (r4 : Int)⟩, ⟨15, 1, 0, 0, (r1 : Int)⟩, ⟨1, 2, 0, 0, (r2 : Int)⟩, ⟨23, 0, 0, 0, 14⟩, ⟨2, 3, 0, 0, 0⟩], rfl, hr2, by show 1 ≤ 5; omega, by show 5 ≤ 6; omega, fun i hi => ?_, hm.sub sub_⟩
    simp only [List.mem_cons, List.not_mem_nil, or_false] at hi
    rcases hi with rfl | rfl | rfl | rfl | rfl <;> first | exact in_li _ _ (by omega) (by omega) | exact in_lea _ _ (by omega) (by omega) (by omega) | exact in_sys _ (by omega) | exact in_jnz _ _ (by omega) (by omega) | exact in_mov _ _ (by omega) (by omega)
  · skip
    repeat (first | (refine ovXPg40_ ?_; clear hs a; intro a hs) | ((with_reducible apply lCons); first | (refine dv hs gw_ rfl rfl da_ ?_; clear hs hm a; rintro _ w ⟨g, rfl, -, hm⟩ a hs) | (refine stn hs rfl rfl ds_ ?_; clear hs hm a; rintro - w hm a hs) | (refine dvc hs hm gw_ rfl rfl rfl rfl rfl (pl 29 rfl) (hli _ _ _) ?_; clear hs hm a; intro w hm a hs) | (refine dvc hs hm gw_ rfl rfl rfl rfl rfl (pl 52 rfl) (hmv _ _ _) ?_; clear hs hm a; intro w hm a hs) | (refine dvc hs hm gw_ rfl rfl rfl rfl rfl (pl 30 rfl) (hsy _ _) ?_; clear hs hm a; intro w hm a hs)) | refine sc_ ?_)
    refine st hs rfl rfl rfl (d_call hs rfl rfl rfl (pl 27 rfl) ((nxt_c gd A n c _ xs 3 _ (h.now hm mem_) (by omega) (by omega)))) ?_; clear hs a; rintro _ w1 ⟨r4, rfl, b4, a4, k4, hf⟩ a hs
    replace hm := hm.dkt rep_ k4 hf
    clear hf
    repeat (first | (refine ovXPg40_ ?_; clear hs a; intro a hs) | ((with_reducible apply lCons); first | (refine dv hs gw_ rfl rfl da_ ?_; clear hs hm a; rintro _ w ⟨g, rfl, -, hm⟩ a hs) | (refine stn hs rfl rfl ds_ ?_; clear hs hm a; rintro - w hm a hs) | (refine dvc hs hm gw_ rfl rfl rfl rfl rfl (pl 29 rfl) (hli _ _ _) ?_; clear hs hm a; intro w hm a hs) | (refine dvc hs hm gw_ rfl rfl rfl rfl rfl (pl 52 rfl) (hmv _ _ _) ?_; clear hs hm a; intro w hm a hs) | (refine dvc hs hm gw_ rfl rfl rfl rfl rfl (pl 30 rfl) (hsy _ _) ?_; clear hs hm a; intro w hm a hs)) | refine sc_ ?_)
    refine st hs rfl rfl rfl (d_call hs rfl rfl rfl (pl 27 rfl) ((nxt_c gd A n c _ xs 4 _ (h.now hm mem_) (by omega) (by omega)))) ?_; clear hs a; rintro _ w1 ⟨r5, rfl, b5, a5, k5, hf⟩ a hs
    replace hm := hm.dkt rep_ k5 hf
    clear hf
    repeat (first | (refine ovXPg40_ ?_; clear hs a; intro a hs) | ((with_reducible apply lCons); first | (refine dv hs gw_ rfl rfl da_ ?_; clear hs hm a; rintro _ w ⟨g, rfl, -, hm⟩ a hs) | (refine stn hs rfl rfl ds_ ?_; clear hs hm a; rintro - w hm a hs) | (refine dvc hs hm gw_ rfl rfl rfl rfl rfl (pl 29 rfl) (hli _ _ _) ?_; clear hs hm a; intro w hm a hs) | (refine dvc hs hm gw_ rfl rfl rfl rfl rfl (pl 52 rfl) (hmv _ _ _) ?_; clear hs hm a; intro w hm a hs) | (refine dvc hs hm gw_ rfl rfl rfl rfl rfl (pl 30 rfl) (hsy _ _) ?_; clear hs hm a; intro w hm a hs)) | refine sc_ ?_)
    obtain ⟨g8, en_⟩ := hs.ps 8 (by exact rfl); subst en_
    refine gRet1 hs rfl rfl ⟨_, some g8, 4, _, [⟨1, 0, 0, 0, (r4 : Int)⟩, ⟨1, 1, 0, 0, (r5 : Int)⟩, ⟨23, 0, 0, 0, 3⟩, ⟨2, 7, 0, 0, 0⟩], rfl, row_lit rfl (by show 4 ≤ 1000; omega), by show 1 ≤ 4; omega, by show 4 ≤ 6; omega, fun i hi => ?_, hm.sub sub_⟩
    simp only [List.mem_cons, List.not_mem_nil, or_false] at hi
    rcases hi with rfl | rfl | rfl | rfl <;> first | exact in_li _ _ (by omega) (by omega) | exact in_lea _ _ (by omega) (by omega) (by omega) | exact in_sys _ (by omega) | exact in_jnz _ _ (by omega) (by omega) | exact in_mov _ _ (by omega) (by omega) | exact in_st _ _ _ (by omega) (by omega) (by omega) | exact in_ld _ _ _ (by omega) (by omega) (by omega) | exact in_alu _ _ _ _ (by omega) (by omega) (by omega) (by omega)
  · skip
    repeat (first | (refine ovXPg40_ ?_; clear hs a; intro a hs) | ((with_reducible apply lCons); first | (refine dv hs gw_ rfl rfl da_ ?_; clear hs hm a; rintro _ w ⟨g, rfl, -, hm⟩ a hs) | (refine stn hs rfl rfl ds_ ?_; clear hs hm a; rintro - w hm a hs) | (refine dvc hs hm gw_ rfl rfl rfl rfl rfl (pl 29 rfl) (hli _ _ _) ?_; clear hs hm a; intro w hm a hs) | (refine dvc hs hm gw_ rfl rfl rfl rfl rfl (pl 52 rfl) (hmv _ _ _) ?_; clear hs hm a; intro w hm a hs) | (refine dvc hs hm gw_ rfl rfl rfl rfl rfl (pl 30 rfl) (hsy _ _) ?_; clear hs hm a; intro w hm a hs)) | refine sc_ ?_)
    obtain ⟨g0, en_⟩ := hs.ps 134 (by exact rfl); subst en_
    refine dv hs (Wnt.none rfl) rfl rfl (d_append (A := some g0) (n := 1) (c := 1) hs rfl rfl rfl rfl rfl tab rfl rfl rfl rfl rfl hm mem_ (row_lit rfl (by omega)) rfl (hm.ro (n := 10) mem_ (cutF_ok rfl)) rfl (by show (1 + 2) * 40 ≤ _; omega) (by omega)) ?_
    clear hs
    rintro _ w2 ⟨A1, c1, cs1, rfl, hr1, hM⟩ a hs
    replace hm := hM _ rep_
    clear hM
    repeat (first | (refine ovXPg40_ ?_; clear hs a; intro a hs) | ((with_reducible apply lCons); first | (refine dv hs gw_ rfl rfl da_ ?_; clear hs hm a; rintro _ w ⟨g, rfl, -, hm⟩ a hs) | (refine stn hs rfl rfl ds_ ?_; clear hs hm a; rintro - w hm a hs) | (refine dvc hs hm gw_ rfl rfl rfl rfl rfl (pl 29 rfl) (hli _ _ _) ?_; clear hs hm a; intro w hm a hs) | (refine dvc hs hm gw_ rfl rfl rfl rfl rfl (pl 52 rfl) (hmv _ _ _) ?_; clear hs hm a; intro w hm a hs) | (refine dvc hs hm gw_ rfl rfl rfl rfl rfl (pl 30 rfl) (hsy _ _) ?_; clear hs hm a; intro w hm a hs)) | refine sc_ ?_)
    refine st hs rfl rfl rfl (d_call hs rfl rfl rfl (pl 27 rfl) ((nxt_c gd A n c _ xs 2 _ (h.now hm mem_) (by omega) (by omega)))) ?_; clear hs a; rintro _ w1 ⟨r4, rfl, b4, a4, k4, hf⟩ a hs
    replace hm := hm.dkt rep_ k4 hf
    clear hf
    rcases (by omega : r4 = 0 ∨ r4 = 1) with rfl | rfl
    · skip
      repeat (first | (refine ovXPg40_ ?_; clear hs a; intro a hs) | ((with_reducible apply lCons); first | (refine dv hs gw_ rfl rfl da_ ?_; clear hs hm a; rintro _ w ⟨g, rfl, -, hm⟩ a hs) | (refine stn hs rfl rfl ds_ ?_; clear hs hm a; rintro - w hm a hs) | (refine dvc hs hm gw_ rfl rfl rfl rfl rfl (pl 29 rfl) (hli _ _ _) ?_; clear hs hm a; intro w hm a hs) | (refine dvc hs hm gw_ rfl rfl rfl rfl rfl (pl 52 rfl) (hmv _ _ _) ?_; clear hs hm a; intro w hm a hs) | (refine dvc hs hm gw_ rfl rfl rfl rfl rfl (pl 30 rfl) (hsy _ _) ?_; clear hs hm a; intro w hm a hs)) | refine sc_ ?_)
      refine dv hs (Wnt.none rfl) rfl rfl (d_append (A := A1) (n := 1 + 2) (c := c1) hs rfl rfl rfl rfl rfl tab rfl rfl rfl rfl rfl hm mem_ hr1 rfl (hm.ro (n := 5) mem_ (cutF_ok rfl)) rfl (by show (1 + 2 + 1) * 40 ≤ _; omega) (by omega)) ?_
      clear hs
      rintro _ w2 ⟨A2, c2, cs2, rfl, hr2, hM⟩ a hs
      replace hm := hM _ rep_
      clear hM
      repeat (first | (refine ovXPg40_ ?_; clear hs a; intro a hs) | ((with_reducible apply lCons); first | (refine dv hs gw_ rfl rfl da_ ?_; clear hs hm a; rintro _ w ⟨g, rfl, -, hm⟩ a hs) | (refine stn hs rfl rfl ds_ ?_; clear hs hm a; rintro - w hm a hs) | (refine dvc hs hm gw_ rfl rfl rfl rfl rfl (pl 29 rfl) (hli _ _ _) ?_; clear hs hm a; intro w hm a hs) | (refine dvc hs hm gw_ rfl rfl rfl rfl rfl (pl 52 rfl) (hmv _ _ _) ?_; clear hs hm a; intro w hm a hs) | (refine dvc hs hm gw_ rfl rfl rfl rfl rfl (pl 30 rfl) (hsy _ _) ?_; clear hs hm a; intro w hm a hs)) | refine sc_ ?_)
      refine gRet1 hs rfl rfl ⟨_, A2, _, _, [⟨2, 0, 7, 0, 0⟩, ⟨15, 1, 0, 0, (r1 : Int)⟩, ⟨1, 2, 0, 0, (r2 : Int)⟩, ⟨23, 0, 0, 0, 1⟩], rfl, hr2, by show 1 ≤ 4; omega, by show 4 ≤ 6; omega, fun i hi => ?_, hm.sub sub_⟩
      simp only [List.mem_cons, List.not_mem_nil, or_false] at hi
      rcases hi with rfl | rfl | rfl | rfl <;> first | exact in_li _ _ (by omega) (by omega) | exact in_lea _ _ (by omega) (by omega) (by omega) | exact in_sys _ (by omega) | exact in_jnz _ _ (by omega) (by omega) | exact in_mov _ _ (by omega) (by omega)
    · skip
      repeat (first | (refine ovXPg40_ ?_; clear hs a; intro a hs) | ((with_reducible apply lCons); first | (refine dv hs gw_ rfl rfl da_ ?_; clear hs hm a; rintro _ w ⟨g, rfl, -, hm⟩ a hs) | (refine stn hs rfl rfl ds_ ?_; clear hs hm a; rintro - w hm a hs) | (refine dvc hs hm gw_ rfl rfl rfl rfl rfl (pl 29 rfl) (hli _ _ _) ?_; clear hs hm a; intro w hm a hs) | (refine dvc hs hm gw_ rfl rfl rfl rfl rfl (pl 52 rfl) (hmv _ _ _) ?_; clear hs hm a; intro w hm a hs) | (refine dvc hs hm gw_ rfl rfl rfl rfl rfl (pl 30 rfl) (hsy _ _) ?_; clear hs hm a; intro w hm a hs)) | refine sc_ ?_)
      refine dv hs (Wnt.none rfl) rfl rfl (d_append (A := A1) (n := 1 + 2) (c := c1) hs rfl rfl rfl rfl rfl tab rfl rfl rfl rfl rfl hm mem_ hr1 rfl (hm.ro (n := 5) mem_ (cutF_ok rfl)) rfl (by show (1 + 2 + 1) * 40 ≤ _; omega) (by omega)) ?_
      clear hs
      rintro _ w2 ⟨A2, c2, cs2, rfl, hr2, hM⟩ a hs
      replace hm := hM _ rep_
      clear hM
      repeat (first | (refine ovXPg40_ ?_; clear hs a; intro a hs) | ((with_reducible apply lCons); first | (refine dv hs gw_ rfl rfl da_ ?_; clear hs hm a; rintro _ w ⟨g, rfl, -, hm⟩ a hs) | (refine stn hs rfl rfl ds_ ?_; clear hs hm a; rintro - w hm a hs) | (refine dvc hs hm gw_ rfl rfl rfl rfl rfl (pl 29 rfl) (hli _ _ _) ?_; clear hs hm a; intro w hm a hs) | (refine dvc hs hm gw_ rfl rfl rfl rfl rfl (pl 52 rfl) (hmv _ _ _) ?_; clear hs hm a; intro w hm a hs) | (refine dvc hs hm gw_ rfl rfl rfl rfl rfl (pl 30 rfl) (hsy _ _) ?_; clear hs hm a; intro w hm a hs)) | refine sc_ ?_)
      refine gRet1 hs rfl rfl ⟨_, A2, _, _, [⟨2, 0, 7, 0, 0⟩, ⟨15, 1, 0, 0, (r1 : Int)⟩, ⟨1, 2, 0, 0, (r2 : Int)⟩, ⟨23, 0, 0, 0, 2⟩], rfl, hr2, by show 1 ≤ 4; omega, by show 4 ≤ 6; omega, fun i hi => ?_, hm.sub sub_⟩
      simp only [List.mem_cons, List.not_mem_nil, or_false] at hi
      rcases hi with rfl | rfl | rfl | rfl <;> first | exact in_li _ _ (by omega) (by omega) | exact in_lea _ _ (by omega) (by omega) (by omega) | exact in_sys _ (by omega) | exact in_jnz _ _ (by omega) (by omega) | exact in_mov _ _ (by omega) (by omega)
  · skip
    repeat (first | (refine ovXPg40_ ?_; clear hs a; intro a hs) | ((with_reducible apply lCons); first | (refine dv hs gw_ rfl rfl da_ ?_; clear hs hm a; rintro _ w ⟨g, rfl, -, hm⟩ a hs) | (refine stn hs rfl rfl ds_ ?_; clear hs hm a; rintro - w hm a hs) | (refine dvc hs hm gw_ rfl rfl rfl rfl rfl (pl 29 rfl) (hli _ _ _) ?_; clear hs hm a; intro w hm a hs) | (refine dvc hs hm gw_ rfl rfl rfl rfl rfl (pl 52 rfl) (hmv _ _ _) ?_; clear hs hm a; intro w hm a hs) | (refine dvc hs hm gw_ rfl rfl rfl rfl rfl (pl 30 rfl) (hsy _ _) ?_; clear hs hm a; intro w hm a hs)) | refine sc_ ?_)
    refine st hs rfl rfl rfl (d_call hs rfl rfl rfl (pl 27 rfl) ((nxt_c gd A n c _ xs 4 _ (h.now hm mem_) (by omega) (by omega)))) ?_; clear hs a; rintro _ w1 ⟨r4, rfl, b4, a4, k4, hf⟩ a hs
    replace hm := hm.dkt rep_ k4 hf
    clear hf
    repeat (first | (refine ovXPg40_ ?_; clear hs a; intro a hs) | ((with_reducible apply lCons); first | (refine dv hs gw_ rfl rfl da_ ?_; clear hs hm a; rintro _ w ⟨g, rfl, -, hm⟩ a hs) | (refine stn hs rfl rfl ds_ ?_; clear hs hm a; rintro - w hm a hs) | (refine dvc hs hm gw_ rfl rfl rfl rfl rfl (pl 29 rfl) (hli _ _ _) ?_; clear hs hm a; intro w hm a hs) | (refine dvc hs hm gw_ rfl rfl rfl rfl rfl (pl 52 rfl) (hmv _ _ _) ?_; clear hs hm a; intro w hm a hs) | (refine dvc hs hm gw_ rfl rfl rfl rfl rfl (pl 30 rfl) (hsy _ _) ?_; clear hs hm a; intro w hm a hs)) | refine sc_ ?_)
    refine st hs rfl rfl rfl (d_call hs rfl rfl rfl (pl 27 rfl) ((nxt_c gd A n c _ xs 2 _ (h.now hm mem_) (by omega) (by omega)))) ?_; clear hs a; rintro _ w1 ⟨r5, rfl, b5, a5, k5, hf⟩ a hs
    replace hm := hm.dkt rep_ k5 hf
    clear hf
    rcases (by omega : r5 = 0 ∨ r5 = 1) with rfl | rfl
    · skip
      repeat (first | (refine ovXPg40_ ?_; clear hs a; intro a hs) | ((with_reducible apply lCons); first | (refine dv hs gw_ rfl rfl da_ ?_; clear hs hm a; rintro _ w ⟨g, rfl, -, hm⟩ a hs) | (refine stn hs rfl rfl ds_ ?_; clear hs hm a; rintro - w hm a hs) | (refine dvc hs hm gw_ rfl rfl rfl rfl rfl (pl 29 rfl) (hli _ _ _) ?_; clear hs hm a; intro w hm a hs) | (refine dvc hs hm gw_ rfl rfl rfl rfl rfl (pl 52 rfl) (hmv _ _ _) ?_; clear hs hm a; intro w hm a hs) | (refine dvc hs hm gw_ rfl rfl rfl rfl rfl (pl 30 rfl) (hsy _ _) ?_; clear hs hm a; intro w hm a hs)) | refine sc_ ?_)
      obtain ⟨g8, en_⟩ := hs.ps 8 (by exact rfl); subst en_
      refine gRet1 hs rfl rfl ⟨_, some g8, 2, _, [⟨2, 0, 7, 0, 0⟩, ⟨23, 0, 0, 0, 4⟩], rfl, row_lit rfl (by show 2 ≤ 1000; omega), by show 1 ≤ 2; omega, by show 2 ≤ 6; omega, fun i hi => ?_, hm.sub sub_⟩
      simp only [List.mem_cons, List.not_mem_nil, or_false] at hi
      rcases hi with rfl | rfl <;> first | exact in_li _ _ (by omega) (by omega) | exact in_lea _ _ (by omega) (by omega) (by omega) | exact in_sys _ (by omega) | exact in_jnz _ _ (by omega) (by omega) | exact in_mov _ _ (by omega) (by omega) | exact in_st _ _ _ (by omega) (by omega) (by omega) | exact in_ld _ _ _ (by omega) (by omega) (by omega) | exact in_alu _ _ _ _ (by omega) (by omega) (by omega) (by omega)
    · skip
      repeat (first | (refine ovXPg40_ ?_; clear hs a; intro a hs) | ((with_reducible apply lCons); first | (refine dv hs gw_ rfl rfl da_ ?_; clear hs hm a; rintro _ w ⟨g, rfl, -, hm⟩ a hs) | (refine stn hs rfl rfl ds_ ?_; clear hs hm a; rintro - w hm a hs) | (refine dvc hs hm gw_ rfl rfl rfl rfl rfl (pl 29 rfl) (hli _ _ _) ?_; clear hs hm a; intro w hm a hs) | (refine dvc hs hm gw_ rfl rfl rfl rfl rfl (pl 52 rfl) (hmv _ _ _) ?_; clear hs hm a; intro w hm a hs) | (refine dvc hs hm gw_ rfl rfl rfl rfl rfl (pl 30 rfl) (hsy _ _) ?_; clear hs hm a; intro w hm a hs)) | refine sc_ ?_)
      obtain ⟨g8, en_⟩ := hs.ps 8 (by exact rfl); subst en_
      refine gRet1 hs rfl rfl ⟨_, some g8, 3, _, [⟨2, 0, 7, 0, 0⟩, ⟨1, 1, 0, 0, (r4 : Int)⟩, ⟨23, 0, 0, 0, 5⟩], rfl, row_lit rfl (by show 3 ≤ 1000; omega), by show 1 ≤ 3; omega, by show 3 ≤ 6; omega, fun i hi => ?_, hm.sub sub_⟩
      simp only [List.mem_cons, List.not_mem_nil, or_false] at hi
      rcases hi with rfl | rfl | rfl <;> first | exact in_li _ _ (by omega) (by omega) | exact in_lea _ _ (by omega) (by omega) (by omega) | exact in_sys _ (by omega) | exact in_jnz _ _ (by omega) (by omega) | exact in_mov _ _ (by omega) (by omega) | exact in_st _ _ _ (by omega) (by omega) (by omega) | exact in_ld _ _ _ (by omega) (by omega) (by omega) | exact in_alu _ _ _ _ (by omega) (by omega) (by omega) (by omega)
  · skip
    repeat (first | (refine ovXPg40_ ?_; clear hs a; intro a hs) | ((with_reducible apply lCons); first | (refine dv hs gw_ rfl rfl da_ ?_; clear hs hm a; rintro _ w ⟨g, rfl, -, hm⟩ a hs) | (refine stn hs rfl rfl ds_ ?_; clear hs hm a; rintro - w hm a hs) | (refine dvc hs hm gw_ rfl rfl rfl rfl rfl (pl 29 rfl) (hli _ _ _) ?_; clear hs hm a; intro w hm a hs) | (refine dvc hs hm gw_ rfl rfl rfl rfl rfl (pl 52 rfl) (hmv _ _ _) ?_; clear hs hm a; intro w hm a hs) | (refine dvc hs hm gw_ rfl rfl rfl rfl rfl (pl 30 rfl) (hsy _ _) ?_; clear hs hm a; intro w hm a hs)) | refine sc_ ?_)
    refine st hs rfl rfl rfl (d_call hs rfl rfl rfl (pl 27 rfl) ((nxt_c gd A n c _ xs 3 _ (h.now hm mem_) (by omega) (by omega)))) ?_; clear hs a; rintro _ w1 ⟨r4, rfl, b4, a4, k4, hf⟩ a hs
    replace hm := hm.dkt rep_ k4 hf
    clear hf
    rcases (by omega : r4 = 0 ∨ r4 = 1 ∨ r4 = 2) with rfl | rfl | rfl
    · skip
      repeat (first | (refine ovXPg40_ ?_; clear hs a; intro a hs) | ((with_reducible apply lCons); first | (refine dv hs gw_ rfl rfl da_ ?_; clear hs hm a; rintro _ w ⟨g, rfl, -, hm⟩ a hs) | (refine stn hs rfl rfl ds_ ?_; clear hs hm a; rintro - w hm a hs) | (refine dvc hs hm gw_ rfl rfl rfl rfl rfl (pl 29 rfl) (hli _ _ _) ?_; clear hs hm a; intro w hm a hs) | (refine dvc hs hm gw_ rfl rfl rfl rfl rfl (pl 52 rfl) (hmv _ _ _) ?_; clear hs hm a; intro w hm a hs) | (refine dvc hs hm gw_ rfl rfl rfl rfl rfl (pl 30 rfl) (hsy _ _) ?_; clear hs hm a; intro w hm a hs)) | refine sc_ ?_)
      refine st hs rfl rfl rfl (d_call hs rfl rfl rfl (pl 27 rfl) ((nxt_c gd A n c _ xs 3 _ (h.now hm mem_) (by omega) (by omega)))) ?_; clear hs a; rintro _ w1 ⟨r5, rfl, b5, a5, k5, hf⟩ a hs
      replace hm := hm.dkt rep_ k5 hf
      clear hf
      repeat (first | (refine ovXPg40_ ?_; clear hs a; intro a hs) | ((with_reducible apply lCons); first | (refine dv hs gw_ rfl rfl da_ ?_; clear hs hm a; rintro _ w ⟨g, rfl, -, hm⟩ a hs) | (refine stn hs rfl rfl ds_ ?_; clear hs hm a; rintro - w hm a hs) | (refine dvc hs hm gw_ rfl rfl rfl rfl rfl (pl 29 rfl) (hli _ _ _) ?_; clear hs hm a; intro w hm a hs) | (refine dvc hs hm gw_ rfl rfl rfl rfl rfl (pl 52 rfl) (hmv _ _ _) ?_; clear hs hm a; intro w hm a hs) | (refine dvc hs hm gw_ rfl rfl rfl rfl rfl (pl 30 rfl) (hsy _ _) ?_; clear hs hm a; intro w hm a hs)) | refine sc_ ?_)
      obtain ⟨g8, en_⟩ := hs.ps 8 (by exact rfl); subst en_
      refine gRet1 hs rfl rfl ⟨_, some g8, 2, _, [⟨23, 0, 0, 0, 6⟩, ⟨2, 3 + (r5 : Int), 0, 0, 0⟩], rfl, row_lit rfl (by show 2 ≤ 1000; omega), by show 1 ≤ 2; omega, by show 2 ≤ 6; omega, fun i hi => ?_, hm.sub sub_⟩
      simp only [List.mem_cons, List.not_mem_nil, or_false] at hi
      rcases hi with rfl | rfl <;> first | exact in_li _ _ (by omega) (by omega) | exact in_lea _ _ (by omega) (by omega) (by omega) | exact in_sys _ (by omega) | exact in_jnz _ _ (by omega) (by omega) | exact in_mov _ _ (by omega) (by omega) | exact in_st _ _ _ (by omega) (by omega) (by omega) | exact in_ld _ _ _ (by omega) (by omega) (by omega) | exact in_alu _ _ _ _ (by omega) (by omega) (by omega) (by omega)
    · skip
      repeat (first | (refine ovXPg40_ ?_; clear hs a; intro a hs) | ((with_reducible apply lCons); first | (refine dv hs gw_ rfl rfl da_ ?_; clear hs hm a; rintro _ w ⟨g, rfl, -, hm⟩ a hs) | (refine stn hs rfl rfl ds_ ?_; clear hs hm a; rintro - w hm a hs) | (refine dvc hs hm gw_ rfl rfl rfl rfl rfl (pl 29 rfl) (hli _ _ _) ?_; clear hs hm a; intro w hm a hs) | (refine dvc hs hm gw_ rfl rfl rfl rfl rfl (pl 52 rfl) (hmv _ _ _) ?_; clear hs hm a; intro w hm a hs) | (refine dvc hs hm gw_ rfl rfl rfl rfl rfl (pl 30 rfl) (hsy _ _) ?_; clear hs hm a; intro w hm a hs)) | refine sc_ ?_)
      refine st hs rfl rfl rfl (d_call hs rfl rfl rfl (pl 27 rfl) ((nxt_c gd A n c _ xs 3 _ (h.now hm mem_) (by omega) (by omega)))) ?_; clear hs a; rintro _ w1 ⟨r5, rfl, b5, a5, k5, hf⟩ a hs
      replace hm := hm.dkt rep_ k5 hf
      clear hf
      repeat (first | (refine ovXPg40_ ?_; clear hs a; intro a hs) | ((with_reducible apply lCons); first | (refine dv hs gw_ rfl rfl da_ ?_; clear hs hm a; rintro _ w ⟨g, rfl, -, hm⟩ a hs) | (refine stn hs rfl rfl ds_ ?_; clear hs hm a; rintro - w hm a hs) | (refine dvc hs hm gw_ rfl rfl rfl rfl rfl (pl 29 rfl) (hli _ _ _) ?_; clear hs hm a; intro w hm a hs) | (refine dvc hs hm gw_ rfl rfl rfl rfl rfl (pl 52 rfl) (hmv _ _ _) ?_; clear hs hm a; intro w hm a hs) | (refine dvc hs hm gw_ rfl rfl rfl rfl rfl (pl 30 rfl) (hsy _ _) ?_; clear hs hm a; intro w hm a hs)) | refine sc_ ?_)
      obtain ⟨g8, en_⟩ := hs.ps 8 (by exact rfl); subst en_
      refine gRet1 hs rfl rfl ⟨_, some g8, 2, _, [⟨23, 0, 0, 0, 7⟩, ⟨2, 3 + (r5 : Int), 0, 0, 0⟩], rfl, row_lit rfl (by show 2 ≤ 1000; omega), by show 1 ≤ 2; omega, by show 2 ≤ 6; omega, fun i hi => ?_, hm.sub sub_⟩
      simp only [List.mem_cons, List.not_mem_nil, or_false] at hi
      rcases hi with rfl | rfl <;> first | exact in_li _ _ (by omega) (by omega) | exact in_lea _ _ (by omega) (by omega) (by omega) | exact in_sys _ (by omega) | exact in_jnz _ _ (by omega) (by omega) | exact in_mov _ _ (by omega) (by omega) | exact in_st _ _ _ (by omega) (by omega) (by omega) | exact in_ld _ _ _ (by omega) (by omega) (by omega) | exact in_alu _ _ _ _ (by omega) (by omega) (by omega) (by omega)
    · skip
      repeat (first | (refine ovXPg40_ ?_; clear hs a; intro a hs) | ((with_reducible apply lCons); first | (refine dv hs gw_ rfl rfl da_ ?_; clear hs hm a; rintro _ w ⟨g, rfl, -, hm⟩ a hs) | (refine stn hs rfl rfl ds_ ?_; clear hs hm a; rintro - w hm a hs) | (refine dvc hs hm gw_ rfl rfl rfl rfl rfl (pl 29 rfl) (hli _ _ _) ?_; clear hs hm a; intro w hm a hs) | (refine dvc hs hm gw_ rfl rfl rfl rfl rfl (pl 52 rfl) (hmv _ _ _) ?_; clear hs hm a; intro w hm a hs) | (refine dvc hs hm gw_ rfl rfl rfl rfl rfl (pl 30 rfl) (hsy _ _) ?_; clear hs hm a; intro w hm a hs)) | refine sc_ ?_)
      refine st hs rfl rfl rfl (d_call hs rfl rfl rfl (pl 27 rfl) ((nxt_c gd A n c _ xs 3 _ (h.now hm mem_) (by omega) (by omega)))) ?_; clear hs a; rintro _ w1 ⟨r5, rfl, b5, a5, k5, hf⟩ a hs
      replace hm := hm.dkt rep_ k5 hf
      clear hf
      repeat (first | (refine ovXPg40_ ?_; clear hs a; intro a hs) | ((with_reducible apply lCons); first | (refine dv hs gw_ rfl rfl da_ ?_; clear hs hm a; rintro _ w ⟨g, rfl, -, hm⟩ a hs) | (refine stn hs rfl rfl ds_ ?_; clear hs hm a; rintro - w hm a hs) | (refine dvc hs hm gw_ rfl rfl rfl rfl rfl (pl 29 rfl) (hli _ _ _) ?_; clear hs hm a; intro w hm a hs) | (refine dvc hs hm gw_ rfl rfl rfl rfl rfl (pl 52 rfl) (hmv _ _ _) ?_; clear hs hm a; intro w hm a hs) | (refine dvc hs hm gw_ rfl rfl rfl rfl rfl (pl 30 rfl) (hsy _ _) ?_; clear hs hm a; intro w hm a hs)) | refine sc_ ?_)
      obtain ⟨g8, en_⟩ := hs.ps 8 (by exact rfl); subst en_
      refine gRet1 hs rfl rfl ⟨_, some g8, 2, _, [⟨23, 0, 0, 0, 15⟩, ⟨2, 3 + (r5 : Int), 0, 0, 0⟩], rfl, row_lit rfl (by show 2 ≤ 1000; omega), by show 1 ≤ 2; omega, by show 2 ≤ 6; omega, fun i hi => ?_, hm.sub sub_⟩
      simp only [List.mem_cons, List.not_mem_nil, or_false] at hi
      rcases hi with rfl | rfl <;> first | exact in_li _ _ (by omega) (by omega) | exact in_lea _ _ (by omega) (by omega) (by omega) | exact in_sys _ (by omega) | exact in_jnz _ _ (by omega) (by omega) | exact in_mov _ _ (by omega) (by omega) | exact in_st _ _ _ (by omega) (by omega) (by omega) | exact in_ld _ _ _ (by omega) (by omega) (by omega) | exact in_alu _ _ _ _ (by omega) (by omega) (by omega) (by omega)
  · skip
    repeat (first | (refine ovXPg40_ ?_; clear hs a; intro a hs) | ((with_reducible apply lCons); first | (refine dv hs gw_ rfl rfl da_ ?_; clear hs hm a; rintro _ w ⟨g, rfl, -, hm⟩ a hs) | (refine stn hs rfl rfl ds_ ?_; clear hs hm a; rintro - w hm a hs) | (refine dvc hs hm gw_ rfl rfl rfl rfl rfl (pl 29 rfl) (hli _ _ _) ?_; clear hs hm a; intro w hm a hs) | (refine dvc hs hm gw_ rfl rfl rfl rfl rfl (pl 52 rfl) (hmv _ _ _) ?_; clear hs hm a; intro w hm a hs) | (refine dvc hs hm gw_ rfl rfl rfl rfl rfl (pl 30 rfl) (hsy _ _) ?_; clear hs hm a; intro w hm a hs)) | refine sc_ ?_)
    refine st hs rfl rfl rfl (d_call hs rfl rfl rfl (pl 27 rfl) ((nxt_c gd A n c _ xs 3 _ (h.now hm mem_) (by omega) (by omega)))) ?_; clear hs a; rintro _ w1 ⟨r4, rfl, b4, a4, k4, hf⟩ a hs
    replace hm := hm.dkt rep_ k4 hf
    clear hf
    repeat (first | (refine ovXPg40_ ?_; clear hs a; intro a hs) | ((with_reducible apply lCons); first | (refine dv hs gw_ rfl rfl da_ ?_; clear hs hm a; rintro _ w ⟨g, rfl, -, hm⟩ a hs) | (refine stn hs rfl rfl ds_ ?_; clear hs hm a; rintro - w hm a hs) | (refine dvc hs hm gw_ rfl rfl rfl rfl rfl (pl 29 rfl) (hli _ _ _) ?_; clear hs hm a; intro w hm a hs) | (refine dvc hs hm gw_ rfl rfl rfl rfl rfl (pl 52 rfl) (hmv _ _ _) ?_; clear hs hm a; intro w hm a hs) | (refine dvc hs hm gw_ rfl rfl rfl rfl rfl (pl 30 rfl) (hsy _ _) ?_; clear hs hm a; intro w hm a hs)) | refine sc_ ?_)
    refine st hs rfl rfl rfl (d_call hs rfl rfl rfl (pl 27 rfl) ((nxt_c gd A n c _ xs 2 _ (h.now hm mem_) (by omega) (by omega)))) ?_; clear hs a; rintro _ w1 ⟨r5, rfl, b5, a5, k5, hf⟩ a hs
    replace hm := hm.dkt rep_ k5 hf
    clear hf
    rcases (by omega : r5 = 0 ∨ r5 = 1) with rfl | rfl
    · skip
      repeat (first | (refine ovXPg40_ ?_; clear hs a; intro a hs) | ((with_reducible apply lCons); first | (refine dv hs gw_ rfl rfl da_ ?_; clear hs hm a; rintro _ w ⟨g, rfl, -, hm⟩ a hs) | (refine stn hs rfl rfl ds_ ?_; clear hs hm a; rintro - w hm a hs) | (refine dvc hs hm gw_ rfl rfl rfl rfl rfl (pl 29 rfl) (hli _ _ _) ?_; clear hs hm a; intro w hm a hs) | (refine dvc hs hm gw_ rfl rfl rfl rfl rfl (pl 52 rfl) (hmv _ _ _) ?_; clear hs hm a; intro w hm a hs) | (refine dvc hs hm gw_ rfl rfl rfl rfl rfl (pl 30 rfl) (hsy _ _) ?_; clear hs hm a; intro w hm a hs)) | refine sc_ ?_)
      obtain ⟨g8, en_⟩ := hs.ps 8 (by exact rfl); subst en_
      refine gRet1 hs rfl rfl ⟨_, some g8, 2, _, [⟨1, 0, 0, 0, (r4 : Int)⟩, ⟨23, 0, 0, 0, 8⟩], rfl, row_lit rfl (by show 2 ≤ 1000; omega), by show 1 ≤ 2; omega, by show 2 ≤ 6; omega, fun i hi => ?_, hm.sub sub_⟩
      simp only [List.mem_cons, List.not_mem_nil, or_false] at hi
      rcases hi with rfl | rfl <;> first | exact in_li _ _ (by omega) (by omega) | exact in_lea _ _ (by omega) (by omega) (by omega) | exact in_sys _ (by omega) | exact in_jnz _ _ (by omega) (by omega) | exact in_mov _ _ (by omega) (by omega) | exact in_st _ _ _ (by omega) (by omega) (by omega) | exact in_ld _ _ _ (by omega) (by omega) (by omega) | exact in_alu _ _ _ _ (by omega) (by omega) (by omega) (by omega)
    · skip
      repeat (first | (refine ovXPg40_ ?_; clear hs a; intro a hs) | ((with_reducible apply lCons); first | (refine dv hs gw_ rfl rfl da_ ?_; clear hs hm a; rintro _ w ⟨g, rfl, -, hm⟩ a hs) | (refine stn hs rfl rfl ds_ ?_; clear hs hm a; rintro - w hm a hs) | (refine dvc hs hm gw_ rfl rfl rfl rfl rfl (pl 29 rfl) (hli _ _ _) ?_; clear hs hm a; intro w hm a hs) | (refine dvc hs hm gw_ rfl rfl rfl rfl rfl (pl 52 rfl) (hmv _ _ _) ?_; clear hs hm a; intro w hm a hs) | (refine dvc hs hm gw_ rfl rfl rfl rfl rfl (pl 30 rfl) (hsy _ _) ?_; clear hs hm a; intro w hm a hs)) | refine sc_ ?_)
      obtain ⟨g8, en_⟩ := hs.ps 8 (by exact rfl); subst en_
      refine gRet1 hs rfl rfl ⟨_, some g8, 2, _, [⟨1, 0, 0, 0, (r4 : Int)⟩, ⟨23, 0, 0, 0, 9⟩], rfl, row_lit rfl (by show 2 ≤ 1000; omega), by show 1 ≤ 2; omega, by show 2 ≤ 6; omega, fun i hi => ?_, hm.sub sub_⟩
      simp only [List.mem_cons, List.not_mem_nil, or_false] at hi
      rcases hi with rfl | rfl <;> first | exact in_li _ _ (by omega) (by omega) | exact in_lea _ _ (by omega) (by omega) (by omega) | exact in_sys _ (by omega) | exact in_jnz _ _ (by omega) (by omega) | exact in_mov _ _ (by omega) (by omega) | exact in_st _ _ _ (by omega) (by omega) (by omega) | exact in_ld _ _ _ (by omega) (by omega) (by omega) | exact in_alu _ _ _ _ (by omega) (by omega) (by omega) (by omega)
  · skip
    repeat (first | (refine ovXPg40_ ?_; clear hs a; intro a hs) | ((with_reducible apply lCons); first | (refine dv hs gw_ rfl rfl da_ ?_; clear hs hm a; rintro _ w ⟨g, rfl, -, hm⟩ a hs) | (refine stn hs rfl rfl ds_ ?_; clear hs hm a; rintro - w hm a hs) | (refine dvc hs hm gw_ rfl rfl rfl rfl rfl (pl 29 rfl) (hli _ _ _) ?_; clear hs hm a; intro w hm a hs) | (refine dvc hs hm gw_ rfl rfl rfl rfl rfl (pl 52 rfl) (hmv _ _ _) ?_; clear hs hm a; intro w hm a hs) | (refine dvc hs hm gw_ rfl rfl rfl rfl rfl (pl 30 rfl) (hsy _ _) ?_; clear hs hm a; intro w hm a hs)) | refine sc_ ?_)
    refine st hs rfl rfl rfl (d_call hs rfl rfl rfl (pl 27 rfl) ((nxt_c gd A n c _ xs 3 _ (h.now hm mem_) (by omega) (by omega)))) ?_; clear hs a; rintro _ w1 ⟨r4, rfl, b4, a4, k4, hf⟩ a hs
    replace hm := hm.dkt rep_ k4 hf
    clear hf
    repeat (first | (refine ovXPg40_ ?_; clear hs a; intro a hs) | ((with_reducible apply lCons); first | (refine dv hs gw_ rfl rfl da_ ?_; clear hs hm a; rintro _ w ⟨g, rfl, -, hm⟩ a hs) | (refine stn hs rfl rfl ds_ ?_; clear hs hm a; rintro - w hm a hs) | (refine dvc hs hm gw_ rfl rfl rfl rfl rfl (pl 29 rfl) (hli _ _ _) ?_; clear hs hm a; intro w hm a hs) | (refine dvc hs hm gw_ rfl rfl rfl rfl rfl (pl 52 rfl) (hmv _ _ _) ?_; clear hs hm a; intro w hm a hs) | (refine dvc hs hm gw_ rfl rfl rfl rfl rfl (pl 30 rfl) (hsy _ _) ?_; clear hs hm a; intro w hm a hs)) | refine sc_ ?_)
    refine st hs rfl rfl rfl (d_call hs rfl rfl rfl (pl 27 rfl) ((nxt_c gd A n c _ xs 2 _ (h.now hm mem_) (by omega) (by omega)))) ?_; clear hs a; rintro _ w1 ⟨r5, rfl, b5, a5, k5, hf⟩ a hs
    replace hm := hm.dkt rep_ k5 hf
    clear hf
    rcases (by omega : r5 = 0 ∨ r5 = 1) with rfl | rfl
    · skip
      repeat (first | (refine ovXPg40_ ?_; clear hs a; intro a hs) | ((with_reducible apply lCons); first | (refine dv hs gw_ rfl rfl da_ ?_; clear hs hm a; rintro _ w ⟨g, rfl, -, hm⟩ a hs) | (refine stn hs rfl rfl ds_ ?_; clear hs hm a; rintro - w hm a hs) | (refine dvc hs hm gw_ rfl rfl rfl rfl rfl (pl 29 rfl) (hli _ _ _) ?_; clear hs hm a; intro w hm a hs) | (refine dvc hs hm gw_ rfl rfl rfl rfl rfl (pl 52 rfl) (hmv _ _ _) ?_; clear hs hm a; intro w hm a hs) | (refine dvc hs hm gw_ rfl rfl rfl rfl rfl (pl 30 rfl) (hsy _ _) ?_; clear hs hm a; intro w hm a hs)) | refine sc_ ?_)
      obtain ⟨g8, en_⟩ := hs.ps 8 (by exact rfl); subst en_
      refine gRet1 hs rfl rfl ⟨_, some g8, 2, _, [⟨1, 0, 0, 0, (r4 : Int)⟩, ⟨23, 0, 0, 0, 8⟩], rfl, row_lit rfl (by show 2 ≤ 1000; omega), by show 1 ≤ 2; omega, by show 2 ≤ 6; omega, fun i hi => ?_, hm.sub sub_⟩
      simp only [List.mem_cons, List.not_mem_nil, or_false] at hi
      rcases hi with rfl | rfl <;> first | exact in_li _ _ (by omega) (by omega) | exact in_lea _ _ (by omega) (by omega) (by omega) | exact in_sys _ (by omega) | exact in_jnz _ _ (by omega) (by omega) | exact in_mov _ _ (by omega) (by omega) | exact in_st _ _ _ (by omega) (by omega) (by omega) | exact in_ld _ _ _ (by omega) (by omega) (by omega) | exact in_alu _ _ _ _ (by omega) (by omega) (by omega) (by omega)
    · skip
      repeat (first | (refine ovXPg40_ ?_; clear hs a; intro a hs) | ((with_reducible apply lCons); first | (refine dv hs gw_ rfl rfl da_ ?_; clear hs hm a; rintro _ w ⟨g, rfl, -, hm⟩ a hs) | (refine stn hs rfl rfl ds_ ?_; clear hs hm a; rintro - w hm a hs) | (refine dvc hs hm gw_ rfl rfl rfl rfl rfl (pl 29 rfl) (hli _ _ _) ?_; clear hs hm a; intro w hm a hs) | (refine dvc hs hm gw_ rfl rfl rfl rfl rfl (pl 52 rfl) (hmv _ _ _) ?_; clear hs hm a; intro w hm a hs) | (refine dvc hs hm gw_ rfl rfl rfl rfl rfl (pl 30 rfl) (hsy _ _) ?_; clear hs hm a; intro w hm a hs)) | refine sc_ ?_)
      obtain ⟨g8, en_⟩ := hs.ps 8 (by exact rfl); subst en_
      refine gRet1 hs rfl rfl ⟨_, some g8, 2, _, [⟨1, 0, 0, 0, (r4 : Int)⟩, ⟨23, 0, 0, 0, 9⟩], rfl, row_lit rfl (by show 2 ≤ 1000; omega), by show 1 ≤ 2; omega, by show 2 ≤ 6; omega, fun i hi => ?_, hm.sub sub_⟩
      simp only [List.mem_cons, List.not_mem_nil, or_false] at hi
      rcases hi with rfl | rfl <;> first | exact in_li _ _ (by omega) (by omega) | exact in_lea _ _ (by omega) (by omega) (by omega) | exact in_sys _ (by omega) | exact in_jnz _ _ (by omega) (by omega) | exact in_mov _ _ (by omega) (by omega) | exact in_st _ _ _ (by omega) (by omega) (by omega) | exact in_ld _ _ _ (by omega) (by omega) (by omega) | exact in_alu _ _ _ _ (by omega) (by omega) (by omega) (by omega)
  · skip
    repeat (first | (refine ovXPg40_ ?_; clear hs a; intro a hs) | ((with_reducible apply lCons); first | (refine dv hs gw_ rfl rfl da_ ?_; clear hs hm a; rintro _ w ⟨g, rfl, -, hm⟩ a hs) | (refine stn hs rfl rfl ds_ ?_; clear hs hm a; rintro - w hm a hs) | (refine dvc hs hm gw_ rfl rfl rfl rfl rfl (pl 29 rfl) (hli _ _ _) ?_; clear hs hm a; intro w hm a hs) | (refine dvc hs hm gw_ rfl rfl rfl rfl rfl (pl 52 rfl) (hmv _ _ _) ?_; clear hs hm a; intro w hm a hs) | (refine dvc hs hm gw_ rfl rfl rfl rfl rfl (pl 30 rfl) (hsy _ _) ?_; clear hs hm a; intro w hm a hs)) | refine sc_ ?_)
    refine st hs rfl rfl rfl (d_call hs rfl rfl rfl (pl 27 rfl) ((nxt_c gd A n c _ xs mo _ (h.now hm mem_) (by omega) (by omega)))) ?_; clear hs a; rintro _ w1 ⟨r4, rfl, b4, a4, k4, hf⟩ a hs
    replace hm := hm.dkt rep_ k4 hf
    clear hf
    repeat (first | (refine ovXPg40_ ?_; clear hs a; intro a hs) | ((with_reducible apply lCons); first | (refine dv hs gw_ rfl rfl da_ ?_; clear hs hm a; rintro _ w ⟨g, rfl, -, hm⟩ a hs) | (refine stn hs rfl rfl ds_ ?_; clear hs hm a; rintro - w hm a hs) | (refine dvc hs hm gw_ rfl rfl rfl rfl rfl (pl 29 rfl) (hli _ _ _) ?_; clear hs hm a; intro w hm a hs) | (refine dvc hs hm gw_ rfl rfl rfl rfl rfl (pl 52 rfl) (hmv _ _ _) ?_; clear hs hm a; intro w hm a hs) | (refine dvc hs hm gw_ rfl rfl rfl rfl rfl (pl 30 rfl) (hsy _ _) ?_; clear hs hm a; intro w hm a hs)) | refine sc_ ?_)
    obtain ⟨g8, en_⟩ := hs.ps 8 (by exact rfl); subst en_
    refine gRet1 hs rfl rfl ⟨_, some g8, 3, _, [⟨1, 0, 0, 0, (r4 : Int)⟩, ⟨2, 1, 3, 0, 0⟩, ⟨23, 0, 0, 0, 10⟩], rfl, row_lit rfl (by show 3 ≤ 1000; omega), by show 1 ≤ 3; omega, by show 3 ≤ 6; omega, fun i hi => ?_, hm.sub sub_⟩
    simp only [List.mem_cons, List.not_mem_nil, or_false] at hi
    rcases hi with rfl | rfl | rfl <;> first | exact in_li _ _ (by omega) (by omega) | exact in_lea _ _ (by omega) (by omega) (by omega) | exact in_sys _ (by omega) | exact in_jnz _ _ (by omega) (by omega) | exact in_mov _ _ (by omega) (by omega) | exact in_st _ _ _ (by omega) (by omega) (by omega) | exact in_ld _ _ _ (by omega) (by omega) (by omega) | exact in_alu _ _ _ _ (by omega) (by omega) (by omega) (by omega)
  · skip
    repeat (first | (refine ovXPg40_ ?_; clear hs a; intro a hs) | ((with_reducible apply lCons); first | (refine dv hs gw_ rfl rfl da_ ?_; clear hs hm a; rintro _ w ⟨g, rfl, -, hm⟩ a hs) | (refine stn hs rfl rfl ds_ ?_; clear hs hm a; rintro - w hm a hs) | (refine dvc hs hm gw_ rfl rfl rfl rfl rfl (pl 29 rfl) (hli _ _ _) ?_; clear hs hm a; intro w hm a hs) | (refine dvc hs hm gw_ rfl rfl rfl rfl rfl (pl 52 rfl) (hmv _ _ _) ?_; clear hs hm a; intro w hm a hs) | (refine dvc hs hm gw_ rfl rfl rfl rfl rfl (pl 30 rfl) (hsy _ _) ?_; clear hs hm a; intro w hm a hs)) | refine sc_ ?_)
    refine st hs rfl rfl rfl (d_call hs rfl rfl rfl (pl 27 rfl) ((nxt_c gd A n c _ xs 2 _ (h.now hm mem_) (by omega) (by omega)))) ?_; clear hs a; rintro _ w1 ⟨r4, rfl, b4, a4, k4, hf⟩ a hs
    replace hm := hm.dkt rep_ k4 hf
    clear hf
    rcases (by omega : r4 = 0 ∨ r4 = 1) with rfl | rfl
    · skip
      repeat (first | (refine ovXPg40_ ?_; clear hs a; intro a hs) | ((with_reducible apply lCons); first | (refine dv hs gw_ rfl rfl da_ ?_; clear hs hm a; rintro _ w ⟨g, rfl, -, hm⟩ a hs) | (refine stn hs rfl rfl ds_ ?_; clear hs hm a; rintro - w hm a hs) | (refine dvc hs hm gw_ rfl rfl rfl rfl rfl (pl 29 rfl) (hli _ _ _) ?_; clear hs hm a; intro w hm a hs) | (refine dvc hs hm gw_ rfl rfl rfl rfl rfl (pl 52 rfl) (hmv _ _ _) ?_; clear hs hm a; intro w hm a hs) | (refine dvc hs hm gw_ rfl rfl rfl rfl rfl (pl 30 rfl) (hsy _ _) ?_; clear hs hm a; intro w hm a hs)) | refine sc_ ?_)
      refine st hs rfl rfl rfl (d_call hs rfl rfl rfl (pl 27 rfl) ((nxt_c gd A n c _ xs mo _ (h.now hm mem_) (by omega) (by omega)))) ?_; clear hs a; rintro _ w1 ⟨r5, rfl, b5, a5, k5, hf⟩ a hs
      replace hm := hm.dkt rep_ k5 hf
      clear hf
      repeat (first | (refine ovXPg40_ ?_; clear hs a; intro a hs) | ((with_reducible apply lCons); first | (refine dv hs gw_ rfl rfl da_ ?_; clear hs hm a; rintro _ w ⟨g, rfl, -, hm⟩ a hs) | (refine stn hs rfl rfl ds_ ?_; clear hs hm a; rintro - w hm a hs) | (refine dvc hs hm gw_ rfl rfl rfl rfl rfl (pl 29 rfl) (hli _ _ _) ?_; clear hs hm a; intro w hm a hs) | (refine dvc hs hm gw_ rfl rfl rfl rfl rfl (pl 52 rfl) (hmv _ _ _) ?_; clear hs hm a; intro w hm a hs) | (refine dvc hs hm gw_ rfl rfl rfl rfl rfl (pl 30 rfl) (hsy _ _) ?_; clear hs hm a; intro w hm a hs)) | refine sc_ ?_)
      refine st hs rfl rfl rfl (d_call hs rfl rfl rfl (pl 27 rfl) ((nxt_c gd A n c _ xs 2 _ (h.now hm mem_) (by omega) (by omega)))) ?_; clear hs a; rintro _ w1 ⟨r6, rfl, b6, a6, k6, hf⟩ a hs
      replace hm := hm.dkt rep_ k6 hf
      clear hf
      rcases (by omega : r6 = 0 ∨ r6 = 1) with rfl | rfl
      · skip
        repeat (first | (refine ovXPg40_ ?_; clear hs a; intro a hs) | ((with_reducible apply lCons); first | (refine dv hs gw_ rfl rfl da_ ?_; clear hs hm a; rintro _ w ⟨g, rfl, -, hm⟩ a hs) | (refine stn hs rfl rfl ds_ ?_; clear hs hm a; rintro - w hm a hs) | (refine dvc hs hm gw_ rfl rfl rfl rfl rfl (pl 29 rfl) (hli _ _ _) ?_; clear hs hm a; intro w hm a hs) | (refine dvc hs hm gw_ rfl rfl rfl rfl rfl (pl 52 rfl) (hmv _ _ _) ?_; clear hs hm a; intro w hm a hs) | (refine dvc hs hm gw_ rfl rfl rfl rfl rfl (pl 30 rfl) (hsy _ _) ?_; clear hs hm a; intro w hm a hs)) | refine sc_ ?_)
        obtain ⟨g8, en_⟩ := hs.ps 8 (by exact rfl); subst en_
        refine gRet1 hs rfl rfl ⟨_, some g8, 2, _, [⟨1, 0, 0, 0, (r5 : Int)⟩, ⟨23, 0, 0, 0, 12⟩], rfl, row_lit rfl (by show 2 ≤ 1000; omega), by show 1 ≤ 2; omega, by show 2 ≤ 6; omega, fun i hi => ?_, hm.sub sub_⟩
        simp only [List.mem_cons, List.not_mem_nil, or_false] at hi
        rcases hi with rfl | rfl <;> first | exact in_li _ _ (by omega) (by omega) | exact in_lea _ _ (by omega) (by omega) (by omega) | exact in_sys _ (by omega) | exact in_jnz _ _ (by omega) (by omega) | exact in_mov _ _ (by omega) (by omega) | exact in_st _ _ _ (by omega) (by omega) (by omega) | exact in_ld _ _ _ (by omega) (by omega) (by omega) | exact in_alu _ _ _ _ (by omega) (by omega) (by omega) (by omega)
      · skip
        repeat (first | (refine ovXPg40_ ?_; clear hs a; intro a hs) | ((with_reducible apply lCons); first | (refine dv hs gw_ rfl rfl da_ ?_; clear hs hm a; rintro _ w ⟨g, rfl, -, hm⟩ a hs) | (refine stn hs rfl rfl ds_ ?_; clear hs hm a; rintro - w hm a hs) | (refine dvc hs hm gw_ rfl rfl rfl rfl rfl (pl 29 rfl) (hli _ _ _) ?_; clear hs hm a; intro w hm a hs) | (refine dvc hs hm gw_ rfl rfl rfl rfl rfl (pl 52 rfl) (hmv _ _ _) ?_; clear hs hm a; intro w hm a hs) | (refine dvc hs hm gw_ rfl rfl rfl rfl rfl (pl 30 rfl) (hsy _ _) ?_; clear hs hm a; intro w hm a hs)) | refine sc_ ?_)
        obtain ⟨g8, en_⟩ := hs.ps 8 (by exact rfl); subst en_
        refine gRet1 hs rfl rfl ⟨_, some g8, 2, _, [⟨1, 0, 0, 0, (r5 : Int)⟩, ⟨23, 0, 0, 0, 11⟩], rfl, row_lit rfl (by show 2 ≤ 1000; omega), by show 1 ≤ 2; omega, by show 2 ≤ 6; omega, fun i hi => ?_, hm.sub sub_⟩
        simp only [List.mem_cons, List.not_mem_nil, or_false] at hi
        rcases hi with rfl | rfl <;> first | exact in_li _ _ (by omega) (by omega) | exact in_lea _ _ (by omega) (by omega) (by omega) | exact in_sys _ (by omega) | exact in_jnz _ _ (by omega) (by omega) | exact in_mov _ _ (by omega) (by omega) | exact in_st _ _ _ (by omega) (by omega) (by omega) | exact in_ld _ _ _ (by omega) (by omega) (by omega) | exact in_alu _ _ _ _ (by omega) (by omega) (by omega) (by omega)
    · skip
      repeat (first | (refine ovXPg40_ ?_; clear hs a; intro a hs) | ((with_reducible apply lCons); first | (refine dv hs gw_ rfl rfl da_ ?_; clear hs hm a; rintro _ w ⟨g, rfl, -, hm⟩ a hs) | (refine stn hs rfl rfl ds_ ?_; clear hs hm a; rintro - w hm a hs) | (refine dvc hs hm gw_ rfl rfl rfl rfl rfl (pl 29 rfl) (hli _ _ _) ?_; clear hs hm a; intro w hm a hs) | (refine dvc hs hm gw_ rfl rfl rfl rfl rfl (pl 52 rfl) (hmv _ _ _) ?_; clear hs hm a; intro w hm a hs) | (refine dvc hs hm gw_ rfl rfl rfl rfl rfl (pl 30 rfl) (hsy _ _) ?_; clear hs hm a; intro w hm a hs)) | refine sc_ ?_)
      refine st hs rfl rfl rfl (d_call hs rfl rfl rfl (pl 27 rfl) ((nxt_c gd A n c _ xs 5 _ (h.now hm mem_) (by omega) (by omega)))) ?_; clear hs a; rintro _ w1 ⟨r5, rfl, b5, a5, k5, hf⟩ a hs
      replace hm := hm.dkt rep_ k5 hf
      clear hf
      repeat (first | (refine ovXPg40_ ?_; clear hs a; intro a hs) | ((with_reducible apply lCons); first | (refine dv hs gw_ rfl rfl da_ ?_; clear hs hm a; rintro _ w ⟨g, rfl, -, hm⟩ a hs) | (refine stn hs rfl rfl ds_ ?_; clear hs hm a; rintro - w hm a hs) | (refine dvc hs hm gw_ rfl rfl rfl rfl rfl (pl 29 rfl) (hli _ _ _) ?_; clear hs hm a; intro w hm a hs) | (refine dvc hs hm gw_ rfl rfl rfl rfl rfl (pl 52 rfl) (hmv _ _ _) ?_; clear hs hm a; intro w hm a hs) | (refine dvc hs hm gw_ rfl rfl rfl rfl rfl (pl 30 rfl) (hsy _ _) ?_; clear hs hm a; intro w hm a hs)) | refine sc_ ?_)
      refine st hs rfl rfl rfl (d_call hs rfl rfl rfl (pl 27 rfl) ((nxt_c gd A n c _ xs 2 _ (h.now hm mem_) (by omega) (by omega)))) ?_; clear hs a; rintro _ w1 ⟨r6, rfl, b6, a6, k6, hf⟩ a hs
      replace hm := hm.dkt rep_ k6 hf
      clear hf
      rcases (by omega : r6 = 0 ∨ r6 = 1) with rfl | rfl
      · skip
        repeat (first | (refine ovXPg40_ ?_; clear hs a; intro a hs) | ((with_reducible apply lCons); first | (refine dv hs gw_ rfl rfl da_ ?_; clear hs hm a; rintro _ w ⟨g, rfl, -, hm⟩ a hs) | (refine stn hs rfl rfl ds_ ?_; clear hs hm a; rintro - w hm a hs) | (refine dvc hs hm gw_ rfl rfl rfl rfl rfl (pl 29 rfl) (hli _ _ _) ?_; clear hs hm a; intro w hm a hs) | (refine dvc hs hm gw_ rfl rfl rfl rfl rfl (pl 52 rfl) (hmv _ _ _) ?_; clear hs hm a; intro w hm a hs) | (refine dvc hs hm gw_ rfl rfl rfl rfl rfl (pl 30 rfl) (hsy _ _) ?_; clear hs hm a; intro w hm a hs)) | refine sc_ ?_)
        obtain ⟨g8, en_⟩ := hs.ps 8 (by exact rfl); subst en_
        refine gRet1 hs rfl rfl ⟨_, some g8, 2, _, [⟨1, 0, 0, 0, (r5 : Int)⟩, ⟨23, 0, 0, 0, 12⟩], rfl, row_lit rfl (by show 2 ≤ 1000; omega), by show 1 ≤ 2; omega, by show 2 ≤ 6; omega, fun i hi => ?_, hm.sub sub_⟩
        simp only [List.mem_cons, List.not_mem_nil, or_false] at hi
        rcases hi with rfl | rfl <;> first | exact in_li _ _ (by omega) (by omega) | exact in_lea _ _ (by omega) (by omega) (by omega) | exact in_sys _ (by omega) | exact in_jnz _ _ (by omega) (by omega) | exact in_mov _ _ (by omega) (by omega) | exact in_st _ _ _ (by omega) (by omega) (by omega) | exact in_ld _ _ _ (by omega) (by omega) (by omega) | exact in_alu _ _ _ _ (by omega) (by omega) (by omega) (by omega)
      · skip
        repeat (first | (refine ovXPg40_ ?_; clear hs a; intro a hs) | ((with_reducible apply lCons); first | (refine dv hs gw_ rfl rfl da_ ?_; clear hs hm a; rintro _ w ⟨g, rfl, -, hm⟩ a hs) | (refine stn hs rfl rfl ds_ ?_; clear hs hm a; rintro - w hm a hs) | (refine dvc hs hm gw_ rfl rfl rfl rfl rfl (pl 29 rfl) (hli _ _ _) ?_; clear hs hm a; intro w hm a hs) | (refine dvc hs hm gw_ rfl rfl rfl rfl rfl (pl 52 rfl) (hmv _ _ _) ?_; clear hs hm a; intro w hm a hs) | (refine dvc hs hm gw_ rfl rfl rfl rfl rfl (pl 30 rfl) (hsy _ _) ?_; clear hs hm a; intro w hm a hs)) | refine sc_ ?_)
        obtain ⟨g8, en_⟩ := hs.ps 8 (by exact rfl); subst en_
        refine gRet1 hs rfl rfl ⟨_, some g8, 2, _, [⟨1, 0, 0, 0, (r5 : Int)⟩, ⟨23, 0, 0, 0, 11⟩], rfl, row_lit rfl (by show 2 ≤ 1000; omega), by show 1 ≤ 2; omega, by show 2 ≤ 6; omega, fun i hi => ?_, hm.sub sub_⟩
        simp only [List.mem_cons, List.not_mem_nil, or_false] at hi
        rcases hi with rfl | rfl <;> first | exact in_li _ _ (by omega) (by omega) | exact in_lea _ _ (by omega) (by omega) (by omega) | exact in_sys _ (by omega) | exact in_jnz _ _ (by omega) (by omega) | exact in_mov _ _ (by omega) (by omega) | exact in_st _ _ _ (by omega) (by omega) (by omega) | exact in_ld _ _ _ (by omega) (by omega) (by omega) | exact in_alu _ _ _ _ (by omega) (by omega) (by omega) (by omega)
  · skip
    repeat (first | (refine ovXPg40_ ?_; clear hs a; intro a hs) | ((with_reducible apply lCons); first | (refine dv hs gw_ rfl rfl da_ ?_; clear hs hm a; rintro _ w ⟨g, rfl, -, hm⟩ a hs) | (refine stn hs rfl rfl ds_ ?_; clear hs hm a; rintro - w hm a hs) | (refine dvc hs hm gw_ rfl rfl rfl rfl rfl (pl 29 rfl) (hli _ _ _) ?_; clear hs hm a; intro w hm a hs) | (refine dvc hs hm gw_ rfl rfl rfl rfl rfl (pl 52 rfl) (hmv _ _ _) ?_; clear hs hm a; intro w hm a hs) | (refine dvc hs hm gw_ rfl rfl rfl rfl rfl (pl 30 rfl) (hsy _ _) ?_; clear hs hm a; intro w hm a hs)) | refine sc_ ?_)
    refine st hs rfl rfl rfl (d_call hs rfl rfl rfl (pl 27 rfl) ((nxt_c gd A n c _ xs 4 _ (h.now hm mem_) (by omega) (by omega)))) ?_; clear hs a; rintro _ w1 ⟨r4, rfl, b4, a4, k4, hf⟩ a hs
    replace hm := hm.dkt rep_ k4 hf
    clear hf
    repeat (first | (refine ovXPg40_ ?_; clear hs a; intro a hs) | ((with_reducible apply lCons); first | (refine dv hs gw_ rfl rfl da_ ?_; clear hs hm a; rintro _ w ⟨g, rfl, -, hm⟩ a hs) | (refine stn hs rfl rfl ds_ ?_; clear hs hm a; rintro - w hm a hs) | (refine dvc hs hm gw_ rfl rfl rfl rfl rfl (pl 29 rfl) (hli _ _ _) ?_; clear hs hm a; intro w hm a hs) | (refine dvc hs hm gw_ rfl rfl rfl rfl rfl (pl 52 rfl) (hmv _ _ _) ?_; clear hs hm a; intro w hm a hs) | (refine dvc hs hm gw_ rfl rfl rfl rfl rfl (pl 30 rfl) (hsy _ _) ?_; clear hs hm a; intro w hm a hs)) | refine sc_ ?_)
    obtain ⟨g8, en_⟩ := hs.ps 8 (by exact rfl); subst en_
    refine gRet1 hs rfl rfl ⟨_, some g8, 4, _, [⟨1, 5, 0, 0, 1 + (r4 : Int)⟩, ⟨1, 4, 0, 0, 1⟩, ⟨4, 5, 5, 4, 0⟩, ⟨20, 5, 0, 0, at1 + 2⟩], rfl, row_lit rfl (by show 4 ≤ 1000; omega), by show 1 ≤ 4; omega, by show 4 ≤ 6; omega, fun i hi => ?_, hm.sub sub_⟩
    simp only [List.mem_cons, List.not_mem_nil, or_false] at hi
    rcases hi with rfl | rfl | rfl | rfl <;> first | exact in_li _ _ (by omega) (by omega) | exact in_lea _ _ (by omega) (by omega) (by omega) | exact in_sys _ (by omega) | exact in_jnz _ _ (by omega) (by omega) | exact in_mov _ _ (by omega) (by omega) | exact in_st _ _ _ (by omega) (by omega) (by omega) | exact in_ld _ _ _ (by omega) (by omega) (by omega) | exact in_alu _ _ _ _ (by omega) (by omega) (by omega) (by omega)
  · skip
    repeat (first | (refine ovXPg40_ ?_; clear hs a; intro a hs) | ((with_reducible apply lCons); first | (refine dv hs gw_ rfl rfl da_ ?_; clear hs hm a; rintro _ w ⟨g, rfl, -, hm⟩ a hs) | (refine stn hs rfl rfl ds_ ?_; clear hs hm a; rintro - w hm a hs) | (refine dvc hs hm gw_ rfl rfl rfl rfl rfl (pl 29 rfl) (hli _ _ _) ?_; clear hs hm a; intro w hm a hs) | (refine dvc hs hm gw_ rfl rfl rfl rfl rfl (pl 52 rfl) (hmv _ _ _) ?_; clear hs hm a; intro w hm a hs) | (refine dvc hs hm gw_ rfl rfl rfl rfl rfl (pl 30 rfl) (hsy _ _) ?_; clear hs hm a; intro w hm a hs)) | refine sc_ ?_)
    refine st hs rfl rfl rfl (d_call hs rfl rfl rfl (pl 53 rfl) ((ins_c gd A n c _ xs (m : Int) mo _ (h.now hm mem_) (by omega) hmo))) ?_; clear hs a; rintro _ w1 ⟨iz, rfl, hiz, a4, k4, hf⟩ a hs
    replace hm := hm.dkt rep_ k4 hf
    clear hf
    obtain ⟨iop, ia, ib, ic, im⟩ := iz
    unfold inA at hs
    dsimp only at hs
    repeat (first | (refine ovXPg40_ ?_; clear hs a; intro a hs) | ((with_reducible apply lCons); first | (refine dv hs gw_ rfl rfl da_ ?_; clear hs hm a; rintro _ w ⟨g, rfl, -, hm⟩ a hs) | (refine stn hs rfl rfl ds_ ?_; clear hs hm a; rintro - w hm a hs) | (refine dvc hs hm gw_ rfl rfl rfl rfl rfl (pl 29 rfl) (hli _ _ _) ?_; clear hs hm a; intro w hm a hs) | (refine dvc hs hm gw_ rfl rfl rfl rfl rfl (pl 52 rfl) (hmv _ _ _) ?_; clear hs hm a; intro w hm a hs) | (refine dvc hs hm gw_ rfl rfl rfl rfl rfl (pl 30 rfl) (hsy _ _) ?_; clear hs hm a; intro w hm a hs)) | refine sc_ ?_)
    obtain ⟨g8, en_⟩ := hs.ps 8 (by exact rfl); subst en_
    refine gRet1 hs rfl rfl ⟨_, some g8, 1, _, [⟨iop, ia, ib, ic, im⟩], rfl, row_lit rfl (by show 1 ≤ 1000; omega), by show 1 ≤ 1; omega, by show 1 ≤ 6; omega, fun i hi => ?_, hm.sub sub_⟩
    rcases List.mem_singleton.1 hi with rfl
    exact hiz
end Go.Proofs.YtajkekhnfobgiaaGreatDoor
