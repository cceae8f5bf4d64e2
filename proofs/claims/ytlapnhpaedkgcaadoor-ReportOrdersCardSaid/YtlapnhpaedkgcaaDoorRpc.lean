/- The report's Text. -/
import Derived.Test.YtlapnhpaedkgcaaDoorRpb
import Derived.Test.YtlapnhpaedkgcaaDoorEng16
namespace Go.Proofs.YtlapnhpaedkgcaaDoor
open Go.RowKit

/-- what became of a fault -/
structure Ft where
  f : Int
  r : Int
  k : Int
  i : Int
  d : Int
  p : Int
def ftV (x : Ft) : List Value := [.int .i64 x.f, .int .i64 x.r, .int .i64 x.k, .int .i64 x.i, .int .i64 x.d, .int .i64 x.p]
theorem ftV_len (x : Ft) : (ftV x).length = 6 := rfl
/-- lines as they lie in memory -/
structure FS where
  A : Option Addr
  n : Nat
  c : Nat
  l : List Ft
def FS.v (x : FS) : Value := .slice x.A x.n x.c
structure FS.ok (x : FS) (w : World) : Prop where
  len : x.l.length = x.n
  rd : Rd w w.heap.size x.A (x.l.flatMap ftV)
theorem FS.ok.pu {x : FS} {w w' : World} (h : x.ok w) (hf : Pu w w') : x.ok w' := ⟨h.len, hf.rd' h.rd⟩
def lineL (x : Ft) : List UInt8 :=
  ((((((((((([102, 97, 117, 108, 116, 32] ++ numL x.f) ++ [32, 114, 101, 112, 108, 105, 99, 97, 32]) ++ numL x.r) ++ [32, 107, 105, 110, 100, 32]) ++ numL x.k) ++ [32, 105, 110, 116, 114, 111, 100, 117, 99, 101, 100, 32]) ++ numL x.i) ++ [32, 102, 111, 117, 110, 100, 32]) ++ numL x.d) ++ [32, 114, 101, 112, 97, 105, 114, 101, 100, 32]) ++ numL x.p) ++ [10]
theorem lineL_len (x : Ft) : (lineL x).length ≤ 200 := by
  have h1 := numL_len x.f
  have h2 := numL_len x.r
  have h3 := numL_len x.k
  have h4 := numL_len x.i
  have h5 := numL_len x.d
  have h6 := numL_len x.p
  unfold lineL
  simp only [List.length_append, List.length_cons, List.length_nil]
  omega
def textL (l : List Ft) : List UInt8 := l.flatMap lineL
theorem textL_len (l : List Ft) : (textL l).length ≤ l.length * 200 := by
  induction l with
  | nil => simp [textL]
  | cons x t ih =>
    have h := lineL_len x
    show (lineL x ++ textL t).length ≤ _
    rw [List.length_append, List.length_cons]
    omega
theorem IsBd.pu {B b : Nat} {bs : List Value} {w w' : World} (h : IsBd B b bs w) (hf : Pu w w') : IsBd B b bs w' := by
  have key : ∀ p, BAt B b p bs w → BAt B b p bs w' := fun p h => by
    have hlt := h.lt
    obtain ⟨hB, v, hb, hown, hne⟩ := h
    exact ⟨hB, v, by rw [hf.block b hlt (fun t => t)]; exact hb, hf.own hown (fun _ _ t => t), hne⟩
  exact h.elim (fun h => .inl (key _ h)) (fun h => .inr (key _ h))
theorem txv_sz (m : List UInt8) : ByteArray.size ⟨m.toArray⟩ = m.length := by simp [ByteArray.size]
theorem Ro.pu_ {w w' : World} {b o : Nat} {vs : List Value} (h : Ro w b o vs) (hf : Pu w w') : Ro w' b o vs := fun j v hj => hf.cl (h j v hj) (fun t => t)
theorem wsR (B b : Nat) (l m : List UInt8) (w : World) (h : IsBd B b (Lib.byteCells l) w) (hlen : l.length + m.length ≤ 1000000000) (hBw : B ≤ w.heap.size) :
    Ret Tryd.prog 14 [.pointer (some ⟨b, 0, none⟩), txv m] w (fun _ w' => IsBd B b (Lib.byteCells (l ++ m)) w' ∧ Below B w w' ∧ Kept w w') :=
  ⟨Calls.mono (ws_c B b (Lib.byteCells l) ⟨m.toArray⟩ w h (by rw [Lib.byteCells_length, txv_sz]; omega) hBw) fun _ _ ⟨h1, h2, h3, h4⟩ => ⟨_, h1, .inr (by
    have e : Lib.byteCells (l ++ m) = Lib.byteCells l ++ Lib.strCells ⟨m.toArray⟩ := by simp [Lib.byteCells, Lib.strCells]
    rw [e]; exact h2), h3, h4⟩⟩
theorem bsR (B b : Nat) (l : List UInt8) (w : World) (h : IsBd B b (Lib.byteCells l) w) (hBw : B ≤ w.heap.size) :
    Ret Tryd.prog 16 [.pointer (some ⟨b, 0, none⟩)] w (fun u w' => u = txv l ∧ Below B w w') :=
  ⟨Calls.mono (Tryd.Builder_String_any B b l w h hBw) fun _ _ ⟨h1, h2⟩ => ⟨_, h1, rfl, h2⟩⟩
theorem Pu.below_ {w0 w w' : World} (hf : Pu w0 w) (hb : Below w0.heap.size w w') : Pu w0 w' := Fr.of_below (hf.below.trans hb)
theorem Mm.kept {w0 w w' : World} {M : List Hp} (hm : Mm (fun _ => False) w0 M w) (hf : Pu w0 w') (hk : Kept w w') (ht : ∀ x ∈ M, x.t ≠ 48 ∧ x.t ≠ 5) : Mm (fun _ => False) w0 M w' :=
  ⟨fun x hx => by
    have h1 := hm.me x hx
    have h2 := ht x hx
    obtain ⟨g, t, cs⟩ := x
    cases g with
    | none => exact h1
    | some g => exact hk g t cs.toArray h1 h2.1 h2.2, hf, hm.dj, hm.ow⟩
theorem cDrawP {P : Program} {Q : Exit → Act → World → Prop} {a : Act} {w w0 : World} {S : Nat → Prop} {M : List Hp} {ops : Array Oper} {n id : Nat} (M1 : List Hp) (hm : Mm S w0 M w) (hf : P.follows .mixedOrders = true) (hn : ops.size = n) (k : ∀ w', Mm S w0 M w' → Pu w w' → Drawn P ops Q (fun w' => Mm S w0 M1 w') n (Array.replicate n false) a w') : (Code.region id ops true).wp P Q a w := by
  refine wp_region_noPanic (wp_region_held (S := fun w' => Mm S w0 M1 w') hf ?_)
  rw [hn]
  exact (k _ hm.drew (Fr.refl _ w).drew).h


set_option maxHeartbeats 8000000 in
theorem text_c (x : FS) (wB : World) (hx : x.ok wB) (hn : x.n ≤ 1000) (ht : TabW wB) : Ret Tryd.prog 8 [x.v] wB (fun u w' => u = txv (textL x.l) ∧ Pu wB w') := by
  obtain ⟨A, n, c, l⟩ := x
  have hl : l.length = n := hx.len
  unfold FS.v
  dsimp only at hn ⊢
  refine enterR Tryd.func8 rfl rfl rfl fun a hs hm => ?_
  repeat (first | ((with_reducible refine toL hm ?_); (first | refine oneV hs gw_ rfl rfl (by intro w hm; (first | exact kvR_ | exact r_sadd hs rfl rfl rfl (by first | (simp only [List.length_cons, List.length_nil]; omega) | (simp only [List.length_append, List.length_cons, List.length_nil]; omega)))) ?_ | refine oneN hs rfl rfl rfl rfl rfl rfl rfl ?_ | refine oneU hs rfl rfl rfl rfl rfl rfl ?_); clear hs a; intro a hs) | ((with_reducible apply lCons); first | (refine dv hs gw_ rfl rfl da_ ?_; clear hs hm a; rintro _ w ⟨g, rfl, -, hm⟩ a hs) | (refine stn hs rfl rfl ds_ ?_; clear hs hm a; rintro - w hm a hs) ) | (with_reducible first | apply lNilThen | apply lNilBlock | apply lNil | apply wp_seq | apply wp_region_lit | apply wp_block | apply cExit | apply cRet | apply cSkip | apply gThen | apply gBlock | apply eThen | apply eBlockHit | refine eBlock rfl ?_ | apply rThen | apply rBlock) | ((with_reducible apply cCond); first | refine cTrue hs rfl bd_ ?_ | refine cFalse hs rfl bd_ ?_))
  obtain ⟨g3, en_⟩ := hs.pt 3 (by exact rfl); subst en_
  have hI : IsBd wB.heap.size g3 (Lib.byteCells (textL (l.take 0))) _ := .inl ⟨by
    rcases hm.ow _ (List.mem_cons_self ..) g3 rfl with h | h
    · exact h
    · exact h.elim, .slice none 0 0, hm.me _ (List.mem_cons_self ..), World.ownsRow_nil _ _ _ _, by simp [Value.ownBlock]⟩
  replace hm := hm.sub (List.nil_sublist _)
  refine cLoop (X := Nat) (fun k a w' => Sl Tryd.f8.ntmps [(3, .pointer (some ⟨g3, 0, none⟩)), (6, .slice A n c), (7, .int .i64 (n : Int)), (8, .int .i64 (k : Int))] a ∧ Mm (fun _ => False) wB [] w' ∧ k ≤ n ∧ IsBd wB.heap.size g3 (Lib.byteCells (textL (l.take k))) w') (fun k => n - k) 0 ⟨hs.sub (Has.all ⟨rfl, rfl, rfl, rfl, trivial⟩), hm, Nat.zero_le _, hI⟩ ?_
  clear hs hm a hI
  rintro k a w' ⟨hs, hm, hk, hI⟩
  by_cases hlt : k < n
  · obtain ⟨b1, o1, hA, hb1, r1⟩ := hx.rd.ro (by rw [flat_len ftV 6 ftV_len]; dsimp only; omega)
    dsimp only at hA r1
    subst hA
    have k1 : k < l.length := by omega
    have e1 := r1.flat ftV_len k1
    have htl : textL (l.take (k + 1)) = textL (l.take k) ++ lineL l[k] := by
      unfold textL
      rw [List.take_succ_eq_append_getElem k1, List.flatMap_append]; simp
    have htk := textL_len (l.take k)
    rw [List.length_take] at htk
    generalize l[k]'(_) = x at *
    have hll := lineL_len x
    obtain ⟨xf, xr, xk, xi, xd, xp⟩ := x
    unfold ftV at e1
    unfold lineL at htl hll
    dsimp only at e1 htl hll
    have n1 := numL_len xf
    have n2 := numL_len xr
    have n3 := numL_len xk
    have n4 := numL_len xi
    have n5 := numL_len xd
    have n6 := numL_len xp
    have hmB := hm
    replace e1 := e1.pu_ hm.fr
    clear hm
    have hm := Mm.nil (fun _ => False) w'
    repeat (first | ((with_reducible refine toL hm ?_); (first | refine oneV hs gw_ rfl rfl (by intro w hm; (first | exact kvR_ | exact r_sadd hs rfl rfl rfl (by first | (simp only [List.length_cons, List.length_nil]; omega) | (simp only [List.length_append, List.length_cons, List.length_nil]; omega)))) ?_ | refine oneN hs rfl rfl rfl rfl rfl rfl rfl ?_ | refine oneU hs rfl rfl rfl rfl rfl rfl ?_); clear hs a; intro a hs) | ((with_reducible apply lCons); first | (refine dv hs gw_ rfl rfl da_ ?_; clear hs hm a; rintro _ w ⟨g, rfl, -, hm⟩ a hs) | (refine stn hs rfl rfl ds_ ?_; clear hs hm a; rintro - w hm a hs) ) | (with_reducible first | apply lNilThen | apply lNilBlock | apply lNil | apply wp_seq | apply wp_region_lit | apply wp_block | apply cExit | apply cRet | apply cSkip | apply gThen | apply gBlock | apply eThen | apply eBlockHit | refine eBlock rfl ?_ | apply rThen | apply rBlock) | ((with_reducible apply cCond); first | refine cTrue hs rfl bd_ ?_ | refine cFalse hs rfl bd_ ?_))
    replace hI := hI.pu hm.fr
    replace hm := hmB.gain hm.fr (hm.new (List.Sublist.refl _))
    clear hmB e1
    rw [List.append_nil] at hm
    obtain ⟨g5, en_⟩ := hs.pt 5 (by exact rfl); subst en_
    refine cMid (fun a w => Sl Tryd.f8.ntmps [(3, .pointer (some ⟨g3, 0, none⟩)), (6, .slice (some ⟨b1, o1, none⟩) n c), (7, .int .i64 (n : Int)), (8, .int .i64 (k : Int))] a ∧ Mm (fun _ => False) wB [] w ∧ IsBd wB.heap.size g3 (Lib.byteCells (textL (l.take (k + 1)))) w) ?_ ?_
    · skip
      refine cDrawP (n := 31) [⟨some g5, 34, [.int .i64 xf, .int .i64 xr, .int .i64 xk, .int .i64 xi, .int .i64 xd, .int .i64 xp]⟩] hm rfl rfl ?_
      clear hm
      intro w2 hm hdr
      replace hI := hI.pu hdr
      refine hTake 0 hs rfl (by kernel_rfl) (Wnt.none rfl) rfl rfl (by intro w hm; replace hm : Mm _ _ _ w := hm; exact r_val hs tab rfl) (hm.sub sub_) ?_; clear hs a; intro a hs
      refine hTake 1 hs rfl (by kernel_rfl) (Wnt.none rfl) rfl rfl (by intro w hm; replace hm : Mm _ _ _ w := hm; exact klR_) (hm.sub sub_) ?_; clear hs a; intro a hs
      refine hTake 5 hs rfl (by kernel_rfl) (Wnt.none rfl) rfl rfl (by intro w hm; replace hm : Mm _ _ _ w := hm; exact r_val hs tab rfl) (hm.sub sub_) ?_; clear hs a; intro a hs
      refine hTake 6 hs rfl (by kernel_rfl) (Wnt.none rfl) rfl rfl (by intro w hm; replace hm : Mm _ _ _ w := hm; exact klR_) (hm.sub sub_) ?_; clear hs a; intro a hs
      refine hTake 10 hs rfl (by kernel_rfl) (Wnt.none rfl) rfl rfl (by intro w hm; replace hm : Mm _ _ _ w := hm; exact r_val hs tab rfl) (hm.sub sub_) ?_; clear hs a; intro a hs
      refine hTake 11 hs rfl (by kernel_rfl) (Wnt.none rfl) rfl rfl (by intro w hm; replace hm : Mm _ _ _ w := hm; exact klR_) (hm.sub sub_) ?_; clear hs a; intro a hs
      refine hTake 15 hs rfl (by kernel_rfl) (Wnt.none rfl) rfl rfl (by intro w hm; replace hm : Mm _ _ _ w := hm; exact r_val hs tab rfl) (hm.sub sub_) ?_; clear hs a; intro a hs
      refine hTake 16 hs rfl (by kernel_rfl) (Wnt.none rfl) rfl rfl (by intro w hm; replace hm : Mm _ _ _ w := hm; exact klR_) (hm.sub sub_) ?_; clear hs a; intro a hs
      refine hTake 20 hs rfl (by kernel_rfl) (Wnt.none rfl) rfl rfl (by intro w hm; replace hm : Mm _ _ _ w := hm; exact r_val hs tab rfl) (hm.sub sub_) ?_; clear hs a; intro a hs
      refine hTake 21 hs rfl (by kernel_rfl) (Wnt.none rfl) rfl rfl (by intro w hm; replace hm : Mm _ _ _ w := hm; exact klR_) (hm.sub sub_) ?_; clear hs a; intro a hs
      refine hTake 25 hs rfl (by kernel_rfl) (Wnt.none rfl) rfl rfl (by intro w hm; replace hm : Mm _ _ _ w := hm; exact r_val hs tab rfl) (hm.sub sub_) ?_; clear hs a; intro a hs
      refine hTake 26 hs rfl (by kernel_rfl) (Wnt.none rfl) rfl rfl (by intro w hm; replace hm : Mm _ _ _ w := hm; exact klR_) (hm.sub sub_) ?_; clear hs a; intro a hs
      refine hEach [2] (by kernel_rfl) (eDo hs rfl (Wnt.none rfl) rfl rfl (by exact d_call hs rfl rfl rfl (pl 15 rfl) ((num_c xf _ (ht.pu hm.fr)))) ?_ eNil)
      clear hs
      rintro _ w1 ⟨rfl, hf⟩ a hs
      replace hm := hm.pu hf
      replace hI := hI.pu hf
      clear hf
      refine ⟨hm.sub sub_, ?_⟩
      refine hTake 3 hs rfl (by kernel_rfl) (Wnt.none rfl) rfl rfl (by intro w hm; replace hm : Mm _ _ _ w := hm; (first | exact r_sadd hs rfl rfl rfl (by first | (simp only [List.length_cons, List.length_nil]; omega) | (simp only [List.length_append, List.length_cons, List.length_nil]; omega)) | exact r_arH hs rfl (by assumption) (by omega) | exact r_pred hs rfl rfl rfl (by omega) | exact r_ar hs rfl (by omega) | exact r_bi hs rfl)) (hm.sub sub_) ?_; clear hs a; intro a hs
      refine hTake 4 hs rfl (by kernel_rfl) (Wnt.none rfl) rfl rfl (by intro w hm; replace hm : Mm _ _ _ w := hm; (first | exact r_sadd hs rfl rfl rfl (by first | (simp only [List.length_cons, List.length_nil]; omega) | (simp only [List.length_append, List.length_cons, List.length_nil]; omega)) | exact r_arH hs rfl (by assumption) (by omega) | exact r_pred hs rfl rfl rfl (by omega) | exact r_ar hs rfl (by omega) | exact r_bi hs rfl)) (hm.sub sub_) ?_; clear hs a; intro a hs
      refine hEach [7] (by kernel_rfl) (eDo hs rfl (Wnt.none rfl) rfl rfl (by exact d_call hs rfl rfl rfl (pl 15 rfl) ((num_c xr _ (ht.pu hm.fr)))) ?_ eNil)
      clear hs
      rintro _ w1 ⟨rfl, hf⟩ a hs
      replace hm := hm.pu hf
      replace hI := hI.pu hf
      clear hf
      refine ⟨hm.sub sub_, ?_⟩
      refine hTake 8 hs rfl (by kernel_rfl) (Wnt.none rfl) rfl rfl (by intro w hm; replace hm : Mm _ _ _ w := hm; (first | exact r_sadd hs rfl rfl rfl (by first | (simp only [List.length_cons, List.length_nil]; omega) | (simp only [List.length_append, List.length_cons, List.length_nil]; omega)) | exact r_arH hs rfl (by assumption) (by omega) | exact r_pred hs rfl rfl rfl (by omega) | exact r_ar hs rfl (by omega) | exact r_bi hs rfl)) (hm.sub sub_) ?_; clear hs a; intro a hs
      refine hTake 9 hs rfl (by kernel_rfl) (Wnt.none rfl) rfl rfl (by intro w hm; replace hm : Mm _ _ _ w := hm; (first | exact r_sadd hs rfl rfl rfl (by first | (simp only [List.length_cons, List.length_nil]; omega) | (simp only [List.length_append, List.length_cons, List.length_nil]; omega)) | exact r_arH hs rfl (by assumption) (by omega) | exact r_pred hs rfl rfl rfl (by omega) | exact r_ar hs rfl (by omega) | exact r_bi hs rfl)) (hm.sub sub_) ?_; clear hs a; intro a hs
      refine hEach [12] (by kernel_rfl) (eDo hs rfl (Wnt.none rfl) rfl rfl (by exact d_call hs rfl rfl rfl (pl 15 rfl) ((num_c xk _ (ht.pu hm.fr)))) ?_ eNil)
      clear hs
      rintro _ w1 ⟨rfl, hf⟩ a hs
      replace hm := hm.pu hf
      replace hI := hI.pu hf
      clear hf
      refine ⟨hm.sub sub_, ?_⟩
      refine hTake 13 hs rfl (by kernel_rfl) (Wnt.none rfl) rfl rfl (by intro w hm; replace hm : Mm _ _ _ w := hm; (first | exact r_sadd hs rfl rfl rfl (by first | (simp only [List.length_cons, List.length_nil]; omega) | (simp only [List.length_append, List.length_cons, List.length_nil]; omega)) | exact r_arH hs rfl (by assumption) (by omega) | exact r_pred hs rfl rfl rfl (by omega) | exact r_ar hs rfl (by omega) | exact r_bi hs rfl)) (hm.sub sub_) ?_; clear hs a; intro a hs
      refine hTake 14 hs rfl (by kernel_rfl) (Wnt.none rfl) rfl rfl (by intro w hm; replace hm : Mm _ _ _ w := hm; (first | exact r_sadd hs rfl rfl rfl (by first | (simp only [List.length_cons, List.length_nil]; omega) | (simp only [List.length_append, List.length_cons, List.length_nil]; omega)) | exact r_arH hs rfl (by assumption) (by omega) | exact r_pred hs rfl rfl rfl (by omega) | exact r_ar hs rfl (by omega) | exact r_bi hs rfl)) (hm.sub sub_) ?_; clear hs a; intro a hs
      refine hEach [17] (by kernel_rfl) (eDo hs rfl (Wnt.none rfl) rfl rfl (by exact d_call hs rfl rfl rfl (pl 15 rfl) ((num_c xi _ (ht.pu hm.fr)))) ?_ eNil)
      clear hs
      rintro _ w1 ⟨rfl, hf⟩ a hs
      replace hm := hm.pu hf
      replace hI := hI.pu hf
      clear hf
      refine ⟨hm.sub sub_, ?_⟩
      refine hTake 18 hs rfl (by kernel_rfl) (Wnt.none rfl) rfl rfl (by intro w hm; replace hm : Mm _ _ _ w := hm; (first | exact r_sadd hs rfl rfl rfl (by first | (simp only [List.length_cons, List.length_nil]; omega) | (simp only [List.length_append, List.length_cons, List.length_nil]; omega)) | exact r_arH hs rfl (by assumption) (by omega) | exact r_pred hs rfl rfl rfl (by omega) | exact r_ar hs rfl (by omega) | exact r_bi hs rfl)) (hm.sub sub_) ?_; clear hs a; intro a hs
      refine hTake 19 hs rfl (by kernel_rfl) (Wnt.none rfl) rfl rfl (by intro w hm; replace hm : Mm _ _ _ w := hm; (first | exact r_sadd hs rfl rfl rfl (by first | (simp only [List.length_cons, List.length_nil]; omega) | (simp only [List.length_append, List.length_cons, List.length_nil]; omega)) | exact r_arH hs rfl (by assumption) (by omega) | exact r_pred hs rfl rfl rfl (by omega) | exact r_ar hs rfl (by omega) | exact r_bi hs rfl)) (hm.sub sub_) ?_; clear hs a; intro a hs
      refine hEach [22] (by kernel_rfl) (eDo hs rfl (Wnt.none rfl) rfl rfl (by exact d_call hs rfl rfl rfl (pl 15 rfl) ((num_c xd _ (ht.pu hm.fr)))) ?_ eNil)
      clear hs
      rintro _ w1 ⟨rfl, hf⟩ a hs
      replace hm := hm.pu hf
      replace hI := hI.pu hf
      clear hf
      refine ⟨hm.sub sub_, ?_⟩
      refine hTake 23 hs rfl (by kernel_rfl) (Wnt.none rfl) rfl rfl (by intro w hm; replace hm : Mm _ _ _ w := hm; (first | exact r_sadd hs rfl rfl rfl (by first | (simp only [List.length_cons, List.length_nil]; omega) | (simp only [List.length_append, List.length_cons, List.length_nil]; omega)) | exact r_arH hs rfl (by assumption) (by omega) | exact r_pred hs rfl rfl rfl (by omega) | exact r_ar hs rfl (by omega) | exact r_bi hs rfl)) (hm.sub sub_) ?_; clear hs a; intro a hs
      refine hTake 24 hs rfl (by kernel_rfl) (Wnt.none rfl) rfl rfl (by intro w hm; replace hm : Mm _ _ _ w := hm; (first | exact r_sadd hs rfl rfl rfl (by first | (simp only [List.length_cons, List.length_nil]; omega) | (simp only [List.length_append, List.length_cons, List.length_nil]; omega)) | exact r_arH hs rfl (by assumption) (by omega) | exact r_pred hs rfl rfl rfl (by omega) | exact r_ar hs rfl (by omega) | exact r_bi hs rfl)) (hm.sub sub_) ?_; clear hs a; intro a hs
      refine hEach [27] (by kernel_rfl) (eDo hs rfl (Wnt.none rfl) rfl rfl (by exact d_call hs rfl rfl rfl (pl 15 rfl) ((num_c xp _ (ht.pu hm.fr)))) ?_ eNil)
      clear hs
      rintro _ w1 ⟨rfl, hf⟩ a hs
      replace hm := hm.pu hf
      replace hI := hI.pu hf
      clear hf
      refine ⟨hm.sub sub_, ?_⟩
      refine hTake 28 hs rfl (by kernel_rfl) (Wnt.none rfl) rfl rfl (by intro w hm; replace hm : Mm _ _ _ w := hm; (first | exact r_sadd hs rfl rfl rfl (by first | (simp only [List.length_cons, List.length_nil]; omega) | (simp only [List.length_append, List.length_cons, List.length_nil]; omega)) | exact r_arH hs rfl (by assumption) (by omega) | exact r_pred hs rfl rfl rfl (by omega) | exact r_ar hs rfl (by omega) | exact r_bi hs rfl)) (hm.sub sub_) ?_; clear hs a; intro a hs
      refine hTake 29 hs rfl (by kernel_rfl) (Wnt.none rfl) rfl rfl (by intro w hm; replace hm : Mm _ _ _ w := hm; (first | exact r_sadd hs rfl rfl rfl (by first | (simp only [List.length_cons, List.length_nil]; omega) | (simp only [List.length_append, List.length_cons, List.length_nil]; omega)) | exact r_arH hs rfl (by assumption) (by omega) | exact r_pred hs rfl rfl rfl (by omega) | exact r_ar hs rfl (by omega) | exact r_bi hs rfl)) (hm.sub sub_) ?_; clear hs a; intro a hs
      refine hEach [30] (by kernel_rfl) (eDo hs rfl (Wnt.none rfl) rfl rfl (by exact d_call hs rfl rfl rfl (pl 14 rfl) ((wsR wB.heap.size g3 (textL (l.take k)) _ _ hI (by omega) hm.fr.size))) ?_ eNil)
      clear hs
      rintro _ w1 ⟨hI2, hf, hk2⟩ a hs
      replace hm := hm.kept (Pu.below_ hm.fr hf) hk2 (by intro x hx; rcases List.mem_singleton.1 hx with rfl; refine ⟨?_, ?_⟩ <;> (dsimp only; decide))
      clear hf hk2
      refine ⟨hm.sub sub_, ?_⟩
      refine hDone (by kernel_rfl) ?_
      rw [← htl] at hI2
      exact And.intro rfl ⟨hs.sub (Has.all ⟨rfl, rfl, rfl, rfl, trivial⟩), hm.sub (List.nil_sublist _), hI2⟩
    clear hs hm hI a
    rintro a w2 ⟨hs, hm, hI⟩
    repeat (first | ((with_reducible refine toL hm ?_); (first | refine oneV hs gw_ rfl rfl (by intro w hm; (first | exact kvR_ | exact r_sadd hs rfl rfl rfl (by first | (simp only [List.length_cons, List.length_nil]; omega) | (simp only [List.length_append, List.length_cons, List.length_nil]; omega)))) ?_ | refine oneN hs rfl rfl rfl rfl rfl rfl rfl ?_ | refine oneU hs rfl rfl rfl rfl rfl rfl ?_); clear hs a; intro a hs) | ((with_reducible apply lCons); first | (refine dv hs gw_ rfl rfl da_ ?_; clear hs hm a; rintro _ w ⟨g, rfl, -, hm⟩ a hs) | (refine stn hs rfl rfl ds_ ?_; clear hs hm a; rintro - w hm a hs) ) | (with_reducible first | apply lNilThen | apply lNilBlock | apply lNil | apply wp_seq | apply wp_region_lit | apply wp_block | apply cExit | apply cRet | apply cSkip | apply gThen | apply gBlock | apply eThen | apply eBlockHit | refine eBlock rfl ?_ | apply rThen | apply rBlock) | ((with_reducible apply cCond); first | refine cTrue hs rfl bd_ ?_ | refine cFalse hs rfl bd_ ?_))
    exact ⟨k + 1, by omega, hs.sub (Has.all ⟨rfl, rfl, rfl, rfl, trivial⟩), hm, by omega, hI⟩
  · obtain rfl : k = n := by omega
    rw [List.take_of_length_le (by omega)] at hI
    have hb := fun (hb : wB.heap.size ≤ w'.heap.size) => bsR wB.heap.size g3 (textL l) w' hI hb
    replace hb := hb hm.fr.size
    repeat (first | ((with_reducible refine toL hm ?_); (first | refine oneV hs gw_ rfl rfl (by intro w hm; (first | exact kvR_ | exact r_sadd hs rfl rfl rfl (by first | (simp only [List.length_cons, List.length_nil]; omega) | (simp only [List.length_append, List.length_cons, List.length_nil]; omega)))) ?_ | refine oneN hs rfl rfl rfl rfl rfl rfl rfl ?_ | refine oneU hs rfl rfl rfl rfl rfl rfl ?_); clear hs a; intro a hs) | ((with_reducible apply lCons); first | (refine dv hs gw_ rfl rfl da_ ?_; clear hs hm a; rintro _ w ⟨g, rfl, -, hm⟩ a hs) | (refine stn hs rfl rfl ds_ ?_; clear hs hm a; rintro - w hm a hs) ) | (with_reducible first | apply lNilThen | apply lNilBlock | apply lNil | apply wp_seq | apply wp_region_lit | apply wp_block | apply cExit | apply cRet | apply cSkip | apply gThen | apply gBlock | apply eThen | apply eBlockHit | refine eBlock rfl ?_ | apply rThen | apply rBlock) | ((with_reducible apply cCond); first | refine cTrue hs rfl bd_ ?_ | refine cFalse hs rfl bd_ ?_))
    refine st hs rfl rfl rfl (d_call hs rfl rfl rfl (pl 16 rfl) (hb)) ?_; clear hs a; rintro _ w1 ⟨rfl, hf⟩ a hs
    have hF := Pu.below_ hm.fr hf
    clear hm hf
    have hm := Mm.nil (fun _ => False) w1
    repeat (first | ((with_reducible refine toL hm ?_); (first | refine oneV hs gw_ rfl rfl (by intro w hm; (first | exact kvR_ | exact r_sadd hs rfl rfl rfl (by first | (simp only [List.length_cons, List.length_nil]; omega) | (simp only [List.length_append, List.length_cons, List.length_nil]; omega)))) ?_ | refine oneN hs rfl rfl rfl rfl rfl rfl rfl ?_ | refine oneU hs rfl rfl rfl rfl rfl rfl ?_); clear hs a; intro a hs) | ((with_reducible apply lCons); first | (refine dv hs gw_ rfl rfl da_ ?_; clear hs hm a; rintro _ w ⟨g, rfl, -, hm⟩ a hs) | (refine stn hs rfl rfl ds_ ?_; clear hs hm a; rintro - w hm a hs) ) | (with_reducible first | apply lNilThen | apply lNilBlock | apply lNil | apply wp_seq | apply wp_region_lit | apply wp_block | apply cExit | apply cRet | apply cSkip | apply gThen | apply gBlock | apply eThen | apply eBlockHit | refine eBlock rfl ?_ | apply rThen | apply rBlock) | ((with_reducible apply cCond); first | refine cTrue hs rfl bd_ ?_ | refine cFalse hs rfl bd_ ?_))
    exact gRet1 hs rfl rfl ⟨rfl, hF.pu hm.fr⟩
end Go.Proofs.YtlapnhpaedkgcaaDoor
