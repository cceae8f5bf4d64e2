/- The check of sanity of layer 42. -/
import Derived.Test.YtlapnhpaedkgcaaDoorRpf
namespace Go.Proofs.YtlapnhpaedkgcaaDoor
open Go.RowKit

theorem dd1 (k : Nat) (h : k < 10) : Lib.decDigits k = [UInt8.ofNat (48 + k)] := Lib.decDigits_one h
theorem nl (k : Nat) (h : k < 10) : numL (k : Int) = [UInt8.ofNat (48 + k)] := by
  unfold numL Lib.itoa
  rw [if_neg (by omega), if_neg (by omega)]
  exact dd1 _ (by simpa using h)
theorem nlm : numL (-1) = [45, 49] := by
  have h : (if (-1 : Int) < -1099511627776 ∨ 1099511627776 < (-1 : Int) then 0 else (-1 : Int)) = -1 := if_neg (by omega)
  unfold numL
  rw [h]
  unfold Lib.itoa
  rw [if_pos (by omega)]
  exact congrArg (List.cons 45) (dd1 1 (by omega))
def exmF : Ft := ⟨0, 1, 4, 3, 5, -1⟩
def exT : List UInt8 := [102, 97, 117, 108, 116, 32, 48, 32, 114, 101, 112, 108, 105, 99, 97, 32, 49, 32, 107, 105, 110, 100, 32, 52, 32, 105, 110, 116, 114, 111, 100, 117, 99, 101, 100, 32, 51, 32, 102, 111, 117, 110, 100, 32, 53, 32, 114, 101, 112, 97, 105, 114, 101, 100, 32, 45, 49, 10]
theorem exL : linesTo [⟨3, 1, 1, 0⟩, ⟨5, 2, 1, 0⟩] [(1, 4)] 1 = [exmF] := by rfl
theorem exTx : textL [exmF] = exT := by
  have h0 := nl 0 (by omega)
  have h1 := nl 1 (by omega)
  have h4 := nl 4 (by omega)
  have h3 := nl 3 (by omega)
  have h5 := nl 5 (by omega)
  show lineL exmF ++ [] = exT
  unfold lineL exmF
  dsimp only
  rw [nlm, show numL 0 = _ from h0, show numL 1 = _ from h1, show numL 4 = _ from h4, show numL 3 = _ from h3, show numL 5 = _ from h5]
  rfl
theorem exC : cntF [exmF] = ⟨1, 1, 0, 2, 2, 0, 0⟩ := by rfl
theorem exB : ∀ y ∈ [exmF], y.bd := by
  intro y hy
  rcases List.mem_singleton.1 hy with rfl
  unfold Ft.bd exmF
  dsimp only
  omega

set_option maxHeartbeats 8000000 in
theorem rawk_c (wB : World) (ht : TabW wB) : Ret Tryd.prog 7 [] wB (fun u w' => u = .bool true ∧ Pu wB w') := by
  refine enterR Tryd.func7 rfl rfl rfl fun a hs hm => ?_
  repeat (first | ((with_reducible refine toL hm ?_); (first | refine oneV hs gw_ rfl rfl (by intro w hm; exact kvR_) ?_ | refine oneN hs rfl rfl rfl rfl rfl rfl rfl ?_ | refine oneU hs rfl rfl rfl rfl rfl rfl ?_); clear hs a; intro a hs) | ((with_reducible apply lCons); first | (refine dv hs gw_ rfl rfl da_ ?_; clear hs hm a; rintro _ w ⟨g, rfl, -, hm⟩ a hs) | (refine stn hs rfl rfl ds_ ?_; clear hs hm a; rintro - w hm a hs) ) | (with_reducible first | apply lNilThen | apply lNilBlock | apply lNil | apply wp_seq | apply wp_region_lit | apply wp_block | apply cExit | apply cRet | apply cSkip | apply gThen | apply gBlock | apply eThen | apply eBlockHit | refine eBlock rfl ?_ | apply rThen | apply rBlock) | ((with_reducible apply cCond); first | refine cTrue hs rfl bd_ ?_ | refine cFalse hs rfl bd_ ?_))
  obtain ⟨g3, en_⟩ := hs.ps 3 (by exact rfl); subst en_
  obtain ⟨g6, en_⟩ := hs.ps 6 (by exact rfl); subst en_
  refine st hs rfl rfl rfl (d_call hs rfl rfl rfl (pl 5 rfl) ((lines_c ⟨some ⟨g3, 0, none⟩, 1, 1, [(1, 4)]⟩ ⟨some ⟨g6, 0, none⟩, 2, 2, [⟨3, 1, 1, 0⟩, ⟨5, 2, 1, 0⟩]⟩ _ ⟨rfl, hm.rd mem_ (List.prefix_refl _)⟩ ⟨rfl, hm.rd mem_ (List.prefix_refl _)⟩ (by dsimp only; omega) (by dsimp only; omega)))) ?_; clear hs a; rintro _ w1 ⟨z, rfl, hz, hzl, -, hf⟩ a hs
  replace hm := hm.pu hf
  have hF := hm.fr
  clear hm hf
  have hm := Mm.nil (fun _ => False) w1
  replace ht := ht.pu hF
  dsimp only at hzl
  rw [exL] at hzl
  have hzn := hz.len
  rw [hzl] at hzn
  have htx := fun w'' (hf : Pu w1 w'') => text_c z w'' (hz.pu hf) (by rw [← hzn]; decide) (ht.pu hf)
  have hct := fun w'' (hf : Pu w1 w'') => count_c z w'' (hz.pu hf) (by rw [← hzn]; decide) (by rw [hzl]; exact exB)
  rw [hzl, exTx] at htx
  rw [hzl, exC] at hct
  obtain ⟨A, n, c, l⟩ := z
  dsimp only at hzl hzn
  subst hzl
  obtain rfl : n = 1 := hzn.symm
  obtain ⟨b1, o1, rfl, hb1, r1⟩ := hz.rd.ro (by rw [flat_len ftV 6 ftV_len]; dsimp only; decide)
  have e1 : Ro w1 b1 o1 [.int .i64 0, .int .i64 1, .int .i64 4, .int .i64 3, .int .i64 5, .int .i64 (-1)] := r1
  unfold FS.v at *
  unfold txv exT at htx
  unfold stV at hct
  dsimp only at *
  repeat (first | ((with_reducible refine toL hm ?_); (first | refine oneV hs gw_ rfl rfl (by intro w hm; exact kvR_) ?_ | refine oneN hs rfl rfl rfl rfl rfl rfl rfl ?_ | refine oneU hs rfl rfl rfl rfl rfl rfl ?_); clear hs a; intro a hs) | ((with_reducible apply lCons); first | (refine dv hs gw_ rfl rfl da_ ?_; clear hs hm a; rintro _ w ⟨g, rfl, -, hm⟩ a hs) | (refine stn hs rfl rfl ds_ ?_; clear hs hm a; rintro - w hm a hs) ) | (with_reducible first | apply lNilThen | apply lNilBlock | apply lNil | apply wp_seq | apply wp_region_lit | apply wp_block | apply cExit | apply cRet | apply cSkip | apply gThen | apply gBlock | apply eThen | apply eBlockHit | refine eBlock rfl ?_ | apply rThen | apply rBlock) | ((with_reducible apply cCond); first | refine cTrue hs rfl bd_ ?_ | refine cFalse hs rfl bd_ ?_))
  refine toL hm (oneV hs (Wnt.some rfl rfl rfl rfl) rfl rfl (by intro w hm; exact r_eqlSt (fl := [(true, 0, 3), (true, 1, 3), (true, 2, 3), (true, 3, 3), (true, 4, 3), (true, 5, 3)]) hs rfl rfl rfl tab (by kernel_rfl) (by kernel_rfl) (by kernel_rfl) (by kernel_rfl) rfl) ?_)
  clear hs a
  intro a hs
  repeat (first | ((with_reducible refine toL hm ?_); (first | refine oneV hs gw_ rfl rfl (by intro w hm; exact kvR_) ?_ | refine oneN hs rfl rfl rfl rfl rfl rfl rfl ?_ | refine oneU hs rfl rfl rfl rfl rfl rfl ?_); clear hs a; intro a hs) | ((with_reducible apply lCons); first | (refine dv hs gw_ rfl rfl da_ ?_; clear hs hm a; rintro _ w ⟨g, rfl, -, hm⟩ a hs) | (refine stn hs rfl rfl ds_ ?_; clear hs hm a; rintro - w hm a hs) | (refine dv hs gw_ rfl rfl (d_call hs rfl rfl rfl (pl 8 rfl) (htx _ hm.fr)) ?_; clear hs a; rintro _ w ⟨rfl, hf⟩ a hs; replace hm := hm.pu hf; clear hf) | (refine dv hs gw_ rfl rfl (d_call hs rfl rfl rfl (pl 6 rfl) (hct _ hm.fr)) ?_; clear hs a; rintro _ w ⟨rfl, hf⟩ a hs; replace hm := hm.pu hf; clear hf)) | (with_reducible first | apply lNilThen | apply lNilBlock | apply lNil | apply wp_seq | apply wp_region_lit | apply wp_block | apply cExit | apply cRet | apply cSkip | apply gThen | apply gBlock | apply eThen | apply eBlockHit | refine eBlock rfl ?_ | apply rThen | apply rBlock) | ((with_reducible apply cCond); first | refine cTrue hs rfl bd_ ?_ | refine cFalse hs rfl bd_ ?_))
  simp only [beq_self_eq_true] at hs
  repeat (first | ((with_reducible refine toL hm ?_); (first | refine oneV hs gw_ rfl rfl (by intro w hm; exact kvR_) ?_ | refine oneN hs rfl rfl rfl rfl rfl rfl rfl ?_ | refine oneU hs rfl rfl rfl rfl rfl rfl ?_); clear hs a; intro a hs) | ((with_reducible apply lCons); first | (refine dv hs gw_ rfl rfl da_ ?_; clear hs hm a; rintro _ w ⟨g, rfl, -, hm⟩ a hs) | (refine stn hs rfl rfl ds_ ?_; clear hs hm a; rintro - w hm a hs) | (refine dv hs gw_ rfl rfl (d_call hs rfl rfl rfl (pl 8 rfl) (htx _ hm.fr)) ?_; clear hs a; rintro _ w ⟨rfl, hf⟩ a hs; replace hm := hm.pu hf; clear hf) | (refine dv hs gw_ rfl rfl (d_call hs rfl rfl rfl (pl 6 rfl) (hct _ hm.fr)) ?_; clear hs a; rintro _ w ⟨rfl, hf⟩ a hs; replace hm := hm.pu hf; clear hf)) | (with_reducible first | apply lNilThen | apply lNilBlock | apply lNil | apply wp_seq | apply wp_region_lit | apply wp_block | apply cExit | apply cRet | apply cSkip | apply gThen | apply gBlock | apply eThen | apply eBlockHit | refine eBlock rfl ?_ | apply rThen | apply rBlock) | ((with_reducible apply cCond); first | refine cTrue hs rfl bd_ ?_ | refine cFalse hs rfl bd_ ?_))
  exact gRet1 hs rfl rfl ⟨rfl, hF.pu hm.fr⟩
end Go.Proofs.YtlapnhpaedkgcaaDoor
