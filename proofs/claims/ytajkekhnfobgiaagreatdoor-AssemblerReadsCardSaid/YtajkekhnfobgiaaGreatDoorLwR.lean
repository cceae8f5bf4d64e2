/- AssemblerReads: for every input the law returns true, and each argument reads afterwards as it read before, where the listed variables of the library hold what the text of the program lays; the card ties them. -/
import Derived.Test.YtajkekhnfobgiaaGreatDoorMgRf
import Derived.Test.YtajkekhnfobgiaaGreatDoorCards
import Derived.Test.YtajkekhnfobgiaaGreatDoorTie
import Derived.SizedLaws
import Derived.Handed
import Derived.LaidLaws
import Derived.Lib.LaidTab
import Derived.Stop.LaidErr
import Derived.Lay
import Derived.MakeChecks
import Derived.Shelf.Vars
import Derived.SevenTiedAt
import Derived.ChangeMaps5
namespace Go.Proofs.YtajkekhnfobgiaaGreatDoor.lawAssemblerReads
open Go.ChangeShapes Go.WideShapes Go.ChangeAt Go.RowKit

theorem own : ownKnob Tryz.prog.godebug = none := by kernel_rfl
theorem laidOut : laidOutB Tryz.prog = true := by kernel_rfl
theorem gP : Tryz.prog.globalNamed "internal/strconv.uint64pow10" = some 3 := by kernel_rfl
theorem gT : (Tryz.prog.globals[3]?).map (·.type) = some 165 := by kernel_rfl
theorem gA : Tryz.prog.globalNamed "strings.asciiSpace" = some 0 := by kernel_rfl
theorem gS : (Tryz.prog.globals[0]?).map (·.type) = some 106 := by kernel_rfl
theorem c1 : Tryz.prog.cellsOf 140 = 1 := by kernel_rfl
theorem c20 : Tryz.prog.cellsOf 165 = 20 := by kernel_rfl
theorem c8 : Tryz.prog.cellsOf 5 = 1 := by kernel_rfl
theorem c256 : Tryz.prog.cellsOf 106 = 256 := by kernel_rfl
noncomputable def lW (os : Os) : World := World.laidAll Tryz.prog os [("math/bits.deBruijn32tab", Rows.laid_math_bits_deBruijn32tab), ("math/bits.deBruijn64tab", Rows.laid_math_bits_deBruijn64tab), ("internal/strconv.uint64pow10", Rows.laid_internal_strconv_uint64pow10), ("unicode/utf8.acceptRanges", Rows.laid_unicode_utf8_acceptRanges), ("strconv.ErrRange", Rows.laid_strconv_ErrRange), ("strconv.ErrSyntax", Rows.laid_strconv_ErrSyntax), ("unicode.White_Space", Rows.laid_unicode_White_Space), ("strings.asciiSpace", Rows.laid_strings_asciiSpace), ("unicode/utf8.first", Rows.laid_unicode_utf8_first)]
set_option maxRecDepth 100000 in
theorem lW_shape (os : Os) (args : Array Value) : ((lW os).forCall (fun _ _ => 0) ⟨#[], args, []⟩).Shaped Tryz.prog := World.shaped_of_ZipB (by kernel_rfl) (by kernel_rfl)
set_option maxRecDepth 100000 in
theorem lW_met (os : Os) (args : Array Value) : laidMetH Tryz.prog Rows.assemblerReadsRow.laid ((lW os).forCall (fun _ _ => 0) ⟨#[], args, []⟩).memory := by
  rw [MakeChecks.laidMetH_plain _ _ _ (by kernel_rfl)]
  exact laidMet_laidAll _ (by kernel_rfl) (by kernel_rfl)

set_option maxRecDepth 100000 in
theorem lifted (os : Os) (started : os.Started) (H : Type) (enc : TypeId × Value → H) :
    ReturnsInHanded {} Tryz.checked os 4 .any (fun w args => (Rows.assemblerReadsSpec.pre enc Tryz.prog Tryz.f4 Rows.assemblerReadsRow.domain false w args ∧ laidMetH Tryz.prog Rows.assemblerReadsRow.laid w) ∧ sizedMet enc Tryz.prog Tryz.f4 (OpenSpec.ofChange Rows.assemblerReadsSpec) false w args) (Rows.assemblerReadsSpec.post enc Tryz.prog Tryz.f4 false true false false) := by
  refine returnsInHanded_of_calls own started (by kernel_rfl)
    (ChangeSpec.witness_shaped (enc := enc) (C := Tryz.checked) (os := os) (X := fun w _ => laidMetH Tryz.prog Rows.assemblerReadsRow.laid w) false (lW os) #[.string .empty, .slice none 0 0, .int .i64 0, .int .i64 0, .string .empty] 8 (World.laidAll_os _ _ _) (lW_shape os _) (by kernel_rfl) (by kernel_rfl) (by kernel_rfl) (lW_met os _)) ?_
  rintro w tape i - hsh - hok ⟨⟨⟨ds, gs, before, hw0, hcnd⟩, hlaid⟩, hsize⟩ -
  have hval0 := hok.2.2.2
  obtain ⟨fn0, hfn0, hok2⟩ := hval0
  obtain rfl : fn0 = Tryz.f4 := Option.some.inj (hfn0.symm.trans Tryz.func4)
  have hvals := hok2.2.2.2.2
  have hW := DataW.Whole.of_heap (w' := w.forCall tape i) (by rfl) hw0
  have hsz := hsize.weights hw0
  have hL : laidMetH Tryz.prog Rows.assemblerReadsRow.laid (w.forCall tape i) := hlaid.of_heap (by rfl)
  have hmx := cell_of_shapedOpen_int (g := 1) (t := 3) (zero := #[.int .i64 0]) (k := .i64) hsh (of_decide_eq_true (by kernel_rfl)) (by kernel_rfl) rfl (by kernel_rfl) (by kernel_rfl) Tryz.underlying3
  suffices hmain : Calls Tryz.prog 4 i.args (w.forCall tape i) (fun e W' => ∃ v, e = .returned v ∧ Rows.assemblerReadsSpec.post enc Tryz.prog Tryz.f4 false true false false (w.forCall tape i) i.args v W') from hmain.mono fun e W' ⟨v, he, hp⟩ => by subst he; exact ChangeSpec.post_blind hp
  obtain ⟨W, hWW⟩ : ∃ W : World, w.forCall tape i = W := ⟨_, rfl⟩
  obtain ⟨args, hargs0⟩ : ∃ x, i.args = x := ⟨_, rfl⟩
  rw [hWW] at hvals hW hL hmx ⊢
  rw [hargs0] at hvals hW ⊢
  have hval : ∀ (j : Nat) t v, Tryz.f4.params[j]? = some t → args[j]? = some v → Value.okWide Tryz.prog W .any w.heap.size t v := hvals
  have hW' := hW
  obtain ⟨p, q, hA0, hV, rfl, hfz, hnd⟩ := hW
  have hA : DataW.TrodAll enc Tryz.prog W 0 (fun _ => true) true Tryz.f4.params.toList args.toList ds p := hA0
  have hL2 : laidMet Tryz.prog [("math/bits.deBruijn32tab", Rows.laid_math_bits_deBruijn32tab), ("math/bits.deBruijn64tab", Rows.laid_math_bits_deBruijn64tab), ("internal/strconv.uint64pow10", Rows.laid_internal_strconv_uint64pow10), ("unicode/utf8.acceptRanges", Rows.laid_unicode_utf8_acceptRanges), ("strconv.ErrRange", Rows.laid_strconv_ErrRange), ("strconv.ErrSyntax", Rows.laid_strconv_ErrSyntax), ("unicode.White_Space", Rows.laid_unicode_White_Space), ("strings.asciiSpace", Rows.laid_strings_asciiSpace), ("unicode/utf8.first", Rows.laid_unicode_utf8_first)] W := hL
  have htab : TW W := ⟨Lib.tabIs_of_head gP gT Tryz.underlying165 Tryz.underlying140 c1 c20 hL2.tail.tail, Lib.tabIs_of_head gA gS Tryz.underlying106 Tryz.underlying5 c8 c256 hL2.tail.tail.tail.tail.tail.tail.tail, hmx⟩
  rw [Tryz.params4] at hA hval
  obtain ⟨v0, vs0, d0, ds0, p0, q0, hargs, rfl, rfl, h0, r0⟩ := trodAll_cons hA
  obtain ⟨v1, vs1, d1, ds1, p1, q1, rfl, rfl, rfl, h1, r1⟩ := trodAll_cons r0
  obtain ⟨v2, vs2, d2, ds2, p2, q2, rfl, rfl, rfl, h2, r2⟩ := trodAll_cons r1
  obtain ⟨v3, vs3, d3, ds3, p3, q3, rfl, rfl, rfl, h3, r3⟩ := trodAll_cons r2
  obtain ⟨v4, vs4, d4, ds4, p4, q4, rfl, rfl, rfl, h4, r4⟩ := trodAll_cons r3
  obtain ⟨rfl, rfl, rfl⟩ := trodAll_nil r4
  obtain rfl : args = #[v0, v1, v2, v3, v4] := by cases args; simp_all
  obtain ⟨rfl, rfl⟩ := trodVars_none hV
  have k0 := h0
  have lt0 : ∀ x ∈ p0, x.block < W.heap.size := by obtain ⟨m, hm⟩ := k0; exact DataW.trod_lt m _ _ _ hm
  obtain ⟨a0, rfl, -, -, w0⟩ := Go.ChangeMaps.open_string Tryz.underlying9 (hval 0 9 v0 rfl rfl) h0
  have k1 := h1
  have lt1 : ∀ x ∈ p1, x.block < W.heap.size := by obtain ⟨m, hm⟩ := k1; exact DataW.trod_lt m _ _ _ hm
  obtain ⟨A1, n1, c1, z1, rfl, w1⟩ := opn_ints Tryz.underlying23 Tryz.underlying3 (by kernel_rfl) (hval 1 23 v1 rfl rfl) h1
  have k2 := h2
  have lt2 : ∀ x ∈ p2, x.block < W.heap.size := by obtain ⟨m, hm⟩ := k2; exact DataW.trod_lt m _ _ _ hm
  obtain ⟨a2, rfl, rfl, rfl, w2⟩ := open_int Tryz.underlying3 (hval 2 3 v2 rfl rfl) h2
  have k3 := h3
  have lt3 : ∀ x ∈ p3, x.block < W.heap.size := by obtain ⟨m, hm⟩ := k3; exact DataW.trod_lt m _ _ _ hm
  obtain ⟨a3, rfl, rfl, rfl, w3⟩ := open_int Tryz.underlying3 (hval 3 3 v3 rfl rfl) h3
  have k4 := h4
  have lt4 : ∀ x ∈ p4, x.block < W.heap.size := by obtain ⟨m, hm⟩ := k4; exact DataW.trod_lt m _ _ _ hm
  obtain ⟨a4, rfl, -, -, w4⟩ := Go.ChangeMaps.open_string Tryz.underlying9 (hval 4 9 v4 rfl rfl) h4
  clear hA0
  refine (walk_AssemblerReads a0 A1 n1 c1 z1 a2 a3 a4 W w0 w1 w2 w3 w4 htab).mono fun e W' ⟨he, hpu⟩ => ?_
  have bel := hpu.below
  subst he
  exact ⟨_, rfl, _, _, _, [], _, [], hW', trodAll_mk1 (shut_bool Tryz.underlying4 _), (trodAll_cons_mk (Below.trod laidOut (by kernel_rfl) (of_decide_eq_true (by kernel_rfl)) k0 bel lt0) (trodAll_cons_mk (Below.trod laidOut (by kernel_rfl) (of_decide_eq_true (by kernel_rfl)) k1 bel lt1) (trodAll_cons_mk (Below.trod laidOut (by kernel_rfl) (of_decide_eq_true (by kernel_rfl)) k2 bel lt2) (trodAll_cons_mk (Below.trod laidOut (by kernel_rfl) (of_decide_eq_true (by kernel_rfl)) k3 bel lt3) (trodAll_cons_mk (Below.trod laidOut (by kernel_rfl) (of_decide_eq_true (by kernel_rfl)) k4 bel lt4) trodAll_mk0))))), rfl, bel.frame _, fun h => by cases h⟩

theorem row_holds : Rows.AssemblerReadsSaid :=
  OpenClaim.holds_of_wide 4 Tryz.f4 rfl rfl rfl rfl rfl rfl rfl ⟨rfl, rfl, rfl, rfl, rfl⟩ rfl rfl rfl rfl rfl (by kernel_rfl) Tryz.func4 (by kernel_rfl)
    (of_decide_eq_true (by kernel_rfl)) (by unfold Func.isWrapper; rw [if_neg (of_decide_eq_false (by kernel_rfl))]; exact ⟨rfl, rfl⟩)
    (fun os started H enc _ => lifted os started H enc)
/-- THE STATEMENT: the card. -/
theorem proved : Rows.AssemblerReadsCardSaid :=
  Claim7.holds_tied_plain_at .later [] [.data, .data, .data, .data, .sentinel, .sentinel, .listed, .data, .pinned] true (true, "1a5969eae9d9ba33301d57098b1d80a66d2982fbacfb05dabd7b208d243e06c9") true
    row_holds (fun _ h => by cases h) (by kernel_rfl) (fun _ h => by cases h) assemblerReads_row_tie rfl ⟨rfl, rfl⟩ (by kernel_rfl) rfl
    (fun f fn hf hfn => by
      obtain rfl : f = 4 := Option.some.inj ((show Tryz.prog.funcNamed "redundancy/redundancylaw07.AssemblerReads" = some 4 by kernel_rfl).symm.trans hf) |>.symm
      obtain rfl : fn = Tryz.f4 := (Option.some.inj (Tryz.func4.symm.trans hfn)).symm
      exact ⟨by kernel_rfl, fun j t ht => by
        have h3 : t ∈ Tryz.f4.params.toList := by rw [← Array.getElem?_toList] at ht; exact List.mem_of_getElem? ht
        exact (List.all_eq_true.1 (show (Tryz.f4.params.toList.all fun t => !Tryz.prog.wantsStandIn t) = true by kernel_rfl) t h3) |> fun h => show Tryz.prog.wantsStandIn t = false by simpa using h⟩)
    (by kernel_rfl)
#print axioms proved
end Go.Proofs.YtajkekhnfobgiaaGreatDoor.lawAssemblerReads
