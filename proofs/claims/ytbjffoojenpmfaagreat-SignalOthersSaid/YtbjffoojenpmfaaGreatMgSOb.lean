/- Texts put together: Pg2, Pg3, Pg4, Pg5, Tac2, Sgi, Sgj, Sgb, Lk, Lk2, Sgd, Eng23, Eng24, Sgk, Sgc, Sgl, Lay6, Lay7, Lay8, Lay9, Lay10, Lay13, Lay11, Awk9, Open, Pro9, Lay12, Sgm, Sgn. -/
import Derived.Laws.CopyRow
import Derived.Laws.IdiomCopy
import Derived.ProofKit
import Derived.OpenShut
import Derived.ShutString
import Derived.ChangeOld
import Derived.SizedLaws
import Derived.Test.YtbjffoojenpmfaaGreatMgSOa
set_option maxRecDepth 20000
set_option maxHeartbeats 64000000
namespace Go.Proofs.YtbjffoojenpmfaaGreat
open Go.RowKit
theorem Mm.into{S:Nat→Prop}{w0 w w':World}{M M':List Hp}{h h':Hp}(hm:Mm S w0 M w)(hk:Mm (own [h]) w [h'] w')(hg:h'.g=h.g)(hR:Rep M h h' M'):Mm S w0 M' w':=by
 refine hm.turn hR ⟨hk.fr.os,hk.fr.tape,hk.fr.output,hk.fr.size,fun k hk' hne=>hk.fr.block k hk' fun⟨z,hz,e⟩=>hne ?_⟩ (hk.me _ (List.mem_singleton.2 rfl)) fun g hg'=> .inl (by rw[←hg];exact hg')
 rcases List.mem_singleton.1 hz with rfl
 exact e
theorem Apart.cross:∀{A B:List Hp},Apart (A++B)→∀x∈A,∀y∈B,∀g,x.g=some g→y.g=some g→False
 |a::t,B,h,x,hx,y,hy,g,e1,e2=>by
  rcases List.mem_cons.1 hx with rfl|hx
  ·exact h.1 y (List.mem_append_right _ hy) g e1 e2
  ·exact Apart.cross (A:=t) h.2 x hx y hy g e1 e2
theorem Mm.deck{S:Nat→Prop}{w0 w w':World}{M M' R:List Hp}{h h':Hp}(hm:Mm S w0 M w)(hk:Mm (own [h]) w (R++[h']) w')(hg:h'.g=h.g)(hR:Rep M h h' M'):Mm S w0 (R++M') w':=by
 have h1:=hm.into (hk.sub (List.sublist_append_right _ _)) hg hR
 have hfresh:∀x∈R,∀g,x.g=some g→w.heap.size≤g:=fun x hx g e=>by
  rcases hk.ow x (List.mem_append_left _ hx) g e with h2|⟨z,hz,e2⟩
  ·exact h2
  ·rcases List.mem_singleton.1 hz with rfl
   exact(Apart.cross hk.dj x hx h' (List.mem_singleton.2 rfl) g e (by rw[hg];exact e2)).elim
 obtain⟨O,o1,o2,o3⟩:=hR.others hm.dj
 have hold:∀y∈M',∀g,y.g=some g→g<w.heap.size:=fun y hy g e=>by
  rcases o1 y hy with rfl|hy
  ·exact Hp.lt (hm.me h hR.mem) (by rw[←hg];exact e)
  ·exact Hp.lt (hm.me y (o2 y hy)) e
 refine⟨fun x hx=>?_,h1.fr,(hk.dj.sub (List.sublist_append_left _ _)).append h1.dj ?_,fun x hx g e=>?_⟩
 ·rcases List.mem_append.1 hx with hx|hx
  ·exact hk.me x (List.mem_append_left _ hx)
  ·exact h1.me x hx
 ·intro x hx y hy g e1 e2
  have:=hfresh x hx g e1
  have:=hold y hy g e2
  omega
 ·rcases List.mem_append.1 hx with hx|hx
  ·exact .inl (Nat.le_trans hm.fr.size (hfresh x hx g e))
  ·exact h1.ow x hx g e
def wds(xs:List Int):List Value:=xs.map (Value.int .u16)
structure WdX where
 m:Nat
 at_:Nat
 xs:List Int
 A:Option Nat
 c:Nat
 cs:List Value
theorem wds_snoc(xs:List Int)(x:Int):wds xs++[.int .u16 x]=wds (xs++[x]):=by simp[wds]
theorem wds_c(gd:Nat)(A:Option Addr)(n c at_:Nat)(xs:List Int)(k:Nat)(wB:World)(h:Dk gd A n c at_ xs wB)(hk:k≤1000):
  Ret Tryz.prog 78 [pt gd,.int .i64 (k:Int)] wB (fun u w'=>∃(a1:Nat)(wA:Option Nat)(wc:Nat)(wcs:List Value)(ys:List Int),u=slv wA ys.length wc∧Row wA ys.length wc 1 (wds ys) wcs∧ys.length≤k∧(∀y∈ys,0≤y∧y≤65535)∧Mm (own [dk gd A n c at_]) wB [⟨wA,23,wcs⟩,dk gd A n c a1] w'):=by
 refine enterR Tryz.func78 rfl rfl rfl fun a hs hm=>?_
 clear hm
 have hm:=h.in_
 refine gsce98_ ?_;clear hs hm a;intros;rename_i a hm hs
 refine st hs rfl rfl rfl (d_call hs rfl rfl rfl (pl 21 rfl) ((nxt_c gd A n c _ xs (k+1) _ (h.now hm mem_) (by omega) (by omega)))) ?_;clear hs a;rintro _ w1 ⟨r1,rfl,b1,a1,k1,hf⟩ a hs
 replace hm:=hm.dkt rep_ k1 hf
 clear hf
 refine gsce98_ ?_;clear hs hm a;intros;rename_i a hm hs
 replace hm:=hm.zero 23
 refine cLoop (X:=WdX) (fun x a w'=>Sl Tryz.f78.ntmps [(0,pt gd),(5,slv x.A x.xs.length x.c),(6,.int .i64 (x.m:Int))] a∧Mm (own [dk gd A n c at_]) wB [⟨x.A,23,x.cs⟩,dk gd A n c x.at_] w'∧Row x.A x.xs.length x.c 1 (wds x.xs) x.cs∧x.xs.length+x.m≤k∧∀y∈x.xs,0≤y∧y≤65535) (fun x=>x.m) ⟨r1,a1,[],none,0,[]⟩ ⟨(sb_ hs),hm,(Row.empty 1:Row none 0 0 1 [] []),by dsimp only;rw[List.length_nil];omega,fun y hy=>absurd hy List.not_mem_nil⟩ ?_
 clear hs hm a
 rintro⟨m,at1,ys,wA,wc,wcs⟩ a w' ⟨hs,hm,hr,h4,hbd⟩
 dsimp only at*
 by_cases hm0:0<m
 ·obtain⟨m,rfl⟩:∃k,m=k+1:=⟨m-1,by omega⟩
  refine gsce98_ ?_;clear hs hm a;intros;rename_i a hm hs
  refine st hs rfl rfl rfl (d_call hs rfl rfl rfl (pl 58 rfl) ((wrd_c gd A n c _ xs _ (h.now hm mem_)))) ?_;clear hs a;rintro _ w1 ⟨z,rfl,hz,a2,k2,hf⟩ a hs
  replace hm:=hm.dkt rep_ k2 hf
  clear hf
  refine gsce98_ ?_;clear hs hm a;intros;rename_i a hm hs
  refine dv hs (Wnt.none rfl) rfl rfl (d_append (A:=wA) (n:=ys.length) (c:=wc) (news:=[.int .u16 z]) hs rfl rfl rfl rfl rfl tab rfl rfl rfl rfl rfl hm mem_ hr rfl (hm.ro (n:=1) mem_ (cutF_ok rfl)) rfl (by show(ys.length+1)*2≤_;omega) (by omega)) ?_
  clear hs
  rintro _ w2 ⟨A',c',cs',rfl,hr2,hM⟩ a hs
  replace hm:=hM _ rep_
  clear hM
  rw[wds_snoc]at hr2
  refine gsce98_ ?_;clear hs hm a;intros;rename_i a hm hs
  refine⟨⟨m,a2,ys++[z],A',c',cs'⟩,by dsimp only;omega,?_⟩
  dsimp only
  rw[List.length_append,List.length_singleton]
  refine⟨(sb_ hs),hm.sub sub_,hr2,by omega,fun y hy=>?_⟩
  rcases List.mem_append.1 hy with hy|hy
  ·exact hbd y hy
  ·rcases List.mem_singleton.1 hy with rfl;exact hz
 ·refine gsce98_ ?_;clear hs hm a;intros;rename_i a hm hs
  exact gRet1 hs rfl rfl ⟨at1,wA,wc,wcs,ys,rfl,hr,by omega,hbd,hm⟩
theorem gpPg30_{G H:Prop}(k:H)(s:Bx H→G:=by intro k_;(repeat(first|(refine ov701a_ ?_;(try clear hs a);intro a hs)|((with_reducible apply lCons);first|(refine dv hs gw_ rfl rfl da_ ?_;(try clear hs hm a);rintro _ w_ ⟨g_,rfl,-,hm⟩ a hs)|(refine stn hs rfl rfl ds_ ?_;(try clear hs hm a);rintro-w_ hm a hs))|refine sc_ ?_));have m_:=hm;have s_:=hs;clear hs;(try clear hm);revert m_ s_ a;(try revert w_);(repeat revert g_);exact k_.h):G:=s ⟨k⟩
theorem gcPg31_{G H:Prop}(k:H)(s:Bx H→G:=by intro k_;(repeat(first|(refine ov701a_ ?_;(try clear hs a);intro a hs)|((with_reducible apply lCons);first|(refine dv hs gw_ rfl rfl da_ ?_;(try clear hs hm a);rintro _ w_ ⟨g_,rfl,-,hm⟩ a hs)|(refine stn hs rfl rfl ds_ ?_;(try clear hs hm a);rintro-w_ hm a hs))|refine sc_ ?_|((with_reducible apply lCons);first|(refine dvc hs hm gw_ rfl rfl rfl rfl rfl (pl 68 rfl) (hjm1 _) ?_;(try clear hs hm a);intro w_ hm a hs))));(first|(have m_:=hm;have s_:=hs;clear hs;(try clear hm);revert m_ s_ a)|((first|refine rexc_ hs hm ?_|refine rexl_ hs hm ?_|refine rexg_ hs hm ?_|refine rexq_ hs hm ?_);intro a hm hs;revert hm hs a));(try revert w_);(repeat revert g_);exact k_.h):G:=s ⟨k⟩
theorem wrap_idP{v:Int}(h:-9223372036854775808≤v∧v≤9223372036854775807):IntKind.i64.wrap v=v:=by simp[IntKind.wrap,IntKind.signed,IntKind.bits];omega
theorem uses_imm{op:Int}(h:(18≤op∧op≤21)∨op=15∨op=23):(usesF op).2.2.2=true:=by
 rcases(by omega:op=18∨op=19∨op=20∨op=21∨op=15∨op=23)with rfl|rfl|rfl|rfl|rfl|rfl<;>rfl
theorem ins_c(gd:Nat)(A:Option Addr)(n c at_:Nat)(xs:List Int)(ns mo:Int)(wB:World)(h:Dk gd A n c at_ xs wB)(hns:1≤ns∧ns≤4)(hmo:1≤mo∧mo≤70):
  Ret Tryz.prog 99 [pt gd,.int .i64 ns,.int .i64 mo] wB (fun u w'=>∃i:In,u=inA i∧InV i ns∧DkR gd A n c xs wB w'):=by
 have hus:=fun w op=>uses_c op w
 have hjm:=fun w op=>jump_c op w
 refine enterR Tryz.func99 rfl rfl rfl fun a hs hm=>?_
 clear hm
 have hm:=h.in_
 refine gsc5af_ ?_;clear hs hm a;intros;rename_i a hm hs
 refine st hs rfl rfl rfl (d_call hs rfl rfl rfl (pl 21 rfl) ((nxt_c gd A n c _ xs 25 _ (h.now hm mem_) (by omega) (by omega)))) ?_;clear hs a;rintro _ w1 ⟨r1,rfl,b1,a1,k1,hf⟩ a hs
 replace hm:=hm.dkt rep_ k1 hf
 clear hf
 obtain⟨⟨u1,u2,u3,u4⟩,hu⟩:∃u,usesF (r1:Int)=u:=⟨_,rfl⟩
 have hus1:=fun w=>hus w (r1:Int)
 rw[hu]at hus1
 obtain⟨jb,hjb⟩:∃b,jumpB (r1:Int)=b:=⟨_,rfl⟩
 have hjm1:=fun w=>hjm w (r1:Int)
 rw[hjb]at hjm1
 unfold u4V at hus1
 dsimp only at hus1
 repeat(first|(refine gpPg30_ ?_;clear hs hm a;intros;rename_i a hm hs)|refine sc_ ?_|((with_reducible apply lCons);first|(refine dvc hs hm gw_ rfl rfl rfl rfl rfl (pl 97 rfl) (hus1 _) ?_;clear hs hm a;intro w hm a hs)|(refine dvc hs hm gw_ rfl rfl rfl rfl rfl (pl 68 rfl) (hjm1 _) ?_;clear hs hm a;intro w hm a hs)))
 obtain⟨g6,rfl⟩:=hs.pp 6
 obtain⟨g7,rfl⟩:=hs.pp 7
 obtain⟨g8,rfl⟩:=hs.pp 8
 refine cMid (fun a w'=>∃(va:Int)(a2:Nat),(0≤va∧va<8∧(u1=false→va=0))∧Sl Tryz.f99.ntmps [(0,pt gd),(1,.int .i64 ns),(2,.int .i64 mo),(6,pt g6),(7,pt g7),(8,pt g8)] a∧Mm (own [dk gd A n c at_]) wB [⟨some g8,186,[.bool u1,.bool u2,.bool u3,.bool u4]⟩,⟨some g7,54,[.int .i64 (r1:Int),.int .i64 va,.int .i64 0,.int .i64 0,.int .i64 0]⟩,⟨some g6,54,[.int .i64 0,.int .i64 0,.int .i64 0,.int .i64 0,.int .i64 0]⟩,dk gd A n c a2] w') ?_ ?_
 ·cases u1
  ·refine gsc5af_ ?_;clear hs hm a;intros;rename_i a hm hs
   exact And.intro rfl ⟨0,_,⟨by omega,by omega,fun _=>rfl⟩,(sb_ hs),hm⟩
  ·refine gsc5af_ ?_;clear hs hm a;intros;rename_i a hm hs
   refine st hs rfl rfl rfl (d_call hs rfl rfl rfl (pl 21 rfl) ((nxt_c gd A n c _ xs 8 _ (h.now hm mem_) (by omega) (by omega)))) ?_;clear hs a;rintro _ w1 ⟨r2,rfl,b2,a2,k2,hf⟩ a hs
   replace hm:=hm.dkt rep_ k2 hf
   clear hf
   refine gsc5af_ ?_;clear hs hm a;intros;rename_i a hm hs
   exact And.intro rfl ⟨_,_,⟨Int.natCast_nonneg _,b2,fun e=>by cases e⟩,(sb_ hs),hm⟩
 clear hs hm a
 rintro a w2 ⟨va,at0,hva,hs,hm⟩
 refine gcPg31_ ?_;clear hs hm a;intros;rename_i a hm hs
 refine cMid (fun a w'=>∃(vb:Int)(a2:Nat),(0≤vb∧vb<8∧(u2=false→vb=0))∧Sl Tryz.f99.ntmps [(0,pt gd),(1,.int .i64 ns),(2,.int .i64 mo),(6,pt g6),(7,pt g7),(8,pt g8)] a∧Mm (own [dk gd A n c at_]) wB [⟨some g8,186,[.bool u1,.bool u2,.bool u3,.bool u4]⟩,⟨some g7,54,[.int .i64 (r1:Int),.int .i64 va,.int .i64 vb,.int .i64 0,.int .i64 0]⟩,⟨some g6,54,[.int .i64 0,.int .i64 0,.int .i64 0,.int .i64 0,.int .i64 0]⟩,dk gd A n c a2] w') ?_ ?_
 ·cases u2
  ·refine gsc5af_ ?_;clear hs hm a;intros;rename_i a hm hs
   exact And.intro rfl ⟨0,_,⟨by omega,by omega,fun _=>rfl⟩,(sb_ hs),hm⟩
  ·refine gsc5af_ ?_;clear hs hm a;intros;rename_i a hm hs
   refine st hs rfl rfl rfl (d_call hs rfl rfl rfl (pl 21 rfl) ((nxt_c gd A n c _ xs 8 _ (h.now hm mem_) (by omega) (by omega)))) ?_;clear hs a;rintro _ w1 ⟨r2,rfl,b2,a2,k2,hf⟩ a hs
   replace hm:=hm.dkt rep_ k2 hf
   clear hf
   refine gsc5af_ ?_;clear hs hm a;intros;rename_i a hm hs
   exact And.intro rfl ⟨_,_,⟨Int.natCast_nonneg _,b2,fun e=>by cases e⟩,(sb_ hs),hm⟩
 clear hs hm a
 rintro a w3 ⟨vb,at1,hvb,hs,hm⟩
 refine gcPg31_ ?_;clear hs hm a;intros;rename_i a hm hs
 refine cMid (fun a w'=>∃(vc:Int)(a2:Nat),(0≤vc∧vc<8∧(u3=false→vc=0))∧Sl Tryz.f99.ntmps [(0,pt gd),(1,.int .i64 ns),(2,.int .i64 mo),(6,pt g6),(7,pt g7),(8,pt g8)] a∧Mm (own [dk gd A n c at_]) wB [⟨some g8,186,[.bool u1,.bool u2,.bool u3,.bool u4]⟩,⟨some g7,54,[.int .i64 (r1:Int),.int .i64 va,.int .i64 vb,.int .i64 vc,.int .i64 0]⟩,⟨some g6,54,[.int .i64 0,.int .i64 0,.int .i64 0,.int .i64 0,.int .i64 0]⟩,dk gd A n c a2] w') ?_ ?_
 ·cases u3
  ·refine gsc5af_ ?_;clear hs hm a;intros;rename_i a hm hs
   exact And.intro rfl ⟨0,_,⟨by omega,by omega,fun _=>rfl⟩,(sb_ hs),hm⟩
  ·refine gsc5af_ ?_;clear hs hm a;intros;rename_i a hm hs
   refine st hs rfl rfl rfl (d_call hs rfl rfl rfl (pl 21 rfl) ((nxt_c gd A n c _ xs 8 _ (h.now hm mem_) (by omega) (by omega)))) ?_;clear hs a;rintro _ w1 ⟨r2,rfl,b2,a2,k2,hf⟩ a hs
   replace hm:=hm.dkt rep_ k2 hf
   clear hf
   refine gsc5af_ ?_;clear hs hm a;intros;rename_i a hm hs
   exact And.intro rfl ⟨_,_,⟨Int.natCast_nonneg _,b2,fun e=>by cases e⟩,(sb_ hs),hm⟩
 clear hs hm a
 rintro a w4 ⟨vc,at2,hvc,hs,hm⟩
 refine gcPg31_ ?_;clear hs hm a;intros;rename_i a hm hs
 have hj4:jb=true→18≤(r1:Int)∧(r1:Int)≤21:=fun e=>by rw[e]at hjb;exact of_decide_eq_true hjb
 have hu4:(18≤(r1:Int)∧(r1:Int)≤21)∨(r1:Int)=15∨(r1:Int)=23→u4=true:=fun e=>by
  have e2:=uses_imm (op:=(r1:Int)) (by omega)
  rw[hu]at e2
  exact e2
 cases jb
 ·by_cases h15:(r1:Int)=15
  ·have e4:=hu4 (by omega)
   refine gsc5af_ ?_;clear hs hm a;intros;rename_i a hm hs
   refine st hs rfl rfl rfl (d_call hs rfl rfl rfl (pl 21 rfl) ((nxt_c gd A n c _ xs ns _ (h.now hm mem_) (by omega) (by omega)))) ?_;clear hs a;rintro _ w1 ⟨r5,rfl,b5,a5,k5,hf⟩ a hs
   replace hm:=hm.dkt rep_ k5 hf
   clear hf
   refine gsc5af_ ?_;clear hs hm a;intros;rename_i a hm hs
   exact gRetN tab hs rfl (.cons (.cells rfl rfl rfl rfl (hm.ro (k:=0) (n:=5) (g:=g6) mem_ (cutF_ok rfl))) .nil) ⟨⟨r1,va,vb,vc,(r5:Int)⟩,rfl,⟨⟨Int.natCast_nonneg _,by dsimp only;omega⟩,⟨hva.1,hva.2.1,by dsimp only;rw[hu];exact hva.2.2⟩,⟨hvb.1,hvb.2.1,by dsimp only;rw[hu];exact hvb.2.2⟩,⟨hvc.1,hvc.2.1,by dsimp only;rw[hu];exact hvc.2.2⟩,⟨Int.natCast_nonneg _,by dsimp only;omega,by dsimp only;rw[hu,e4];exact fun e=>by cases e⟩,(fun _=>b5),(fun e=>by dsimp only at e;omega)⟩,_,h.now hm mem_,Dk.out hm⟩
  by_cases h23:(r1:Int)=23
  ·have e4:=hu4 (by omega)
   refine gsc5af_ ?_;clear hs hm a;intros;rename_i a hm hs
   refine st hs rfl rfl rfl (d_call hs rfl rfl rfl (pl 21 rfl) ((nxt_c gd A n c _ xs 16 _ (h.now hm mem_) (by omega) (by omega)))) ?_;clear hs a;rintro _ w1 ⟨r5,rfl,b5,a5,k5,hf⟩ a hs
   replace hm:=hm.dkt rep_ k5 hf
   clear hf
   refine gsc5af_ ?_;clear hs hm a;intros;rename_i a hm hs
   exact gRetN tab hs rfl (.cons (.cells rfl rfl rfl rfl (hm.ro (k:=0) (n:=5) (g:=g6) mem_ (cutF_ok rfl))) .nil) ⟨⟨r1,va,vb,vc,(r5:Int)⟩,rfl,⟨⟨Int.natCast_nonneg _,by dsimp only;omega⟩,⟨hva.1,hva.2.1,by dsimp only;rw[hu];exact hva.2.2⟩,⟨hvb.1,hvb.2.1,by dsimp only;rw[hu];exact hvb.2.2⟩,⟨hvc.1,hvc.2.1,by dsimp only;rw[hu];exact hvc.2.2⟩,⟨Int.natCast_nonneg _,by dsimp only;omega,by dsimp only;rw[hu,e4];exact fun e=>by cases e⟩,(fun e=>by dsimp only at e;omega),(fun _=>by dsimp only;omega)⟩,_,h.now hm mem_,Dk.out hm⟩
  ·cases u4
   ·refine gsc5af_ ?_;clear hs hm a;intros;rename_i a hm hs
    exact gRetN tab hs rfl (.cons (.cells rfl rfl rfl rfl (hm.ro (k:=0) (n:=5) (g:=g6) mem_ (cutF_ok rfl))) .nil) ⟨⟨r1,va,vb,vc,0⟩,rfl,⟨⟨Int.natCast_nonneg _,by dsimp only;omega⟩,⟨hva.1,hva.2.1,by dsimp only;rw[hu];exact hva.2.2⟩,⟨hvb.1,hvb.2.1,by dsimp only;rw[hu];exact hvb.2.2⟩,⟨hvc.1,hvc.2.1,by dsimp only;rw[hu];exact hvc.2.2⟩,⟨by dsimp only;omega,by dsimp only;omega,fun _=>rfl⟩,(fun e=>by dsimp only at e;omega),(fun e=>by dsimp only at e;omega)⟩,_,h.now hm mem_,Dk.out hm⟩
   ·refine gsc5af_ ?_;clear hs hm a;intros;rename_i a hm hs
    refine st hs rfl rfl rfl (d_call hs rfl rfl rfl (pl 58 rfl) ((wrd_c gd A n c _ xs _ (h.now hm mem_)))) ?_;clear hs a;rintro _ w1 ⟨z,rfl,hz,a5,k5,hf⟩ a hs
    replace hm:=hm.dkt rep_ k5 hf
    clear hf
    refine gsc5af_ ?_;clear hs hm a;intros;rename_i a hm hs
    rw[wrap_idP (v:=z) (by omega)]at hm
    exact gRetN tab hs rfl (.cons (.cells rfl rfl rfl rfl (hm.ro (k:=0) (n:=5) (g:=g6) mem_ (cutF_ok rfl))) .nil) ⟨⟨r1,va,vb,vc,z⟩,rfl,⟨⟨Int.natCast_nonneg _,by dsimp only;omega⟩,⟨hva.1,hva.2.1,by dsimp only;rw[hu];exact hva.2.2⟩,⟨hvb.1,hvb.2.1,by dsimp only;rw[hu];exact hvb.2.2⟩,⟨hvc.1,hvc.2.1,by dsimp only;rw[hu];exact hvc.2.2⟩,⟨by dsimp only;omega,by dsimp only;omega,by dsimp only;rw[hu];exact fun e=>by cases e⟩,(fun e=>by dsimp only at e;omega),(fun e=>by dsimp only at e;omega)⟩,_,h.now hm mem_,Dk.out hm⟩
 ·have hj5:=hj4 rfl
  have e4:=hu4 (by omega)
  refine gsc5af_ ?_;clear hs hm a;intros;rename_i a hm hs
  refine st hs rfl rfl rfl (d_call hs rfl rfl rfl (pl 21 rfl) ((nxt_c gd A n c _ xs mo _ (h.now hm mem_) (by omega) (by omega)))) ?_;clear hs a;rintro _ w1 ⟨r5,rfl,b5,a5,k5,hf⟩ a hs
  replace hm:=hm.dkt rep_ k5 hf
  clear hf
  refine gsc5af_ ?_;clear hs hm a;intros;rename_i a hm hs
  exact gRetN tab hs rfl (.cons (.cells rfl rfl rfl rfl (hm.ro (k:=0) (n:=5) (g:=g6) mem_ (cutF_ok rfl))) .nil) ⟨⟨r1,va,vb,vc,(r5:Int)⟩,rfl,⟨⟨Int.natCast_nonneg _,by dsimp only;omega⟩,⟨hva.1,hva.2.1,by dsimp only;rw[hu];exact hva.2.2⟩,⟨hvb.1,hvb.2.1,by dsimp only;rw[hu];exact hvb.2.2⟩,⟨hvc.1,hvc.2.1,by dsimp only;rw[hu];exact hvc.2.2⟩,⟨Int.natCast_nonneg _,by dsimp only;omega,by dsimp only;rw[hu,e4];exact fun e=>by cases e⟩,(fun e=>by dsimp only at e;omega),(fun e=>by dsimp only at e;omega)⟩,_,h.now hm mem_,Dk.out hm⟩
theorem gpPg40_{G H:Prop}(k:H)(s:Bx H→G:=by intro k_;(repeat(first|(refine ov47e8_ ?_;(try clear hs a);intro a hs)|((with_reducible apply lCons);first|(refine dv hs gw_ rfl rfl da_ ?_;(try clear hs hm a);rintro _ w_ ⟨g_,rfl,-,hm⟩ a hs)|(refine stn hs rfl rfl ds_ ?_;(try clear hs hm a);rintro-w_ hm a hs))|refine sc_ ?_));have m_:=hm;have s_:=hs;clear hs;(try clear hm);revert m_ s_ a;(try revert w_);(repeat revert g_);exact k_.h):G:=s ⟨k⟩
theorem gcPg41_{G H:Prop}(k:H)(s:Bx H→G:=by intro k_;(repeat(first|(refine ov47e8_ ?_;(try clear hs a);intro a hs)|((with_reducible apply lCons);first|(refine dv hs gw_ rfl rfl da_ ?_;(try clear hs hm a);rintro _ w_ ⟨g_,rfl,-,hm⟩ a hs)|(refine stn hs rfl rfl ds_ ?_;(try clear hs hm a);rintro-w_ hm a hs))|refine sc_ ?_|((with_reducible apply lCons);first|(refine dvc hs hm gw_ rfl rfl rfl rfl rfl (pl 80 rfl) (hli _ _ _) ?_;(try clear hs hm a);intro w_ hm a hs)|(refine dvc hs hm gw_ rfl rfl rfl rfl rfl (pl 98 rfl) (hmv _ _ _) ?_;(try clear hs hm a);intro w_ hm a hs)|(refine dvc hs hm gw_ rfl rfl rfl rfl rfl (pl 81 rfl) (hsy _ _) ?_;(try clear hs hm a);intro w_ hm a hs))));(first|(have m_:=hm;have s_:=hs;clear hs;(try clear hm);revert m_ s_ a)|((first|refine rexc_ hs hm ?_|refine rexl_ hs hm ?_|refine rexg_ hs hm ?_|refine rexq_ hs hm ?_);intro a hm hs;revert hm hs a));(try revert w_);(repeat revert g_);exact k_.h):G:=s ⟨k⟩
theorem in_li{ns:Int}(r m:Int)(h1:0≤r∧r<8)(h2:0≤m∧m≤65535):InV ⟨1,r,0,0,m⟩ ns:=by
 refine⟨by dsimp only;omega,⟨by dsimp only;omega,by dsimp only;omega,fun e=>?_⟩,⟨by dsimp only;omega,by dsimp only;omega,fun e=>?_⟩,⟨by dsimp only;omega,by dsimp only;omega,fun e=>?_⟩,⟨by dsimp only;omega,by dsimp only;omega,fun e=>?_⟩,fun e=>?_,fun e=>?_⟩<;>first|rfl|(dsimp only at e;exact absurd e (by decide))|(dsimp only at e ⊢;omega)
theorem in_lea{ns:Int}(r m:Int)(h1:0≤r∧r<8)(h2:0≤m∧m<ns)(h3:ns≤4):InV ⟨15,r,0,0,m⟩ ns:=by
 refine⟨by dsimp only;omega,⟨by dsimp only;omega,by dsimp only;omega,fun e=>?_⟩,⟨by dsimp only;omega,by dsimp only;omega,fun e=>?_⟩,⟨by dsimp only;omega,by dsimp only;omega,fun e=>?_⟩,⟨by dsimp only;omega,by dsimp only;omega,fun e=>?_⟩,fun e=>?_,fun e=>?_⟩<;>first|rfl|(dsimp only at e;exact absurd e (by decide))|(dsimp only at e ⊢;omega)
theorem in_sys{ns:Int}(m:Int)(h2:0≤m∧m≤15):InV ⟨23,0,0,0,m⟩ ns:=by
 refine⟨by dsimp only;omega,⟨by dsimp only;omega,by dsimp only;omega,fun e=>?_⟩,⟨by dsimp only;omega,by dsimp only;omega,fun e=>?_⟩,⟨by dsimp only;omega,by dsimp only;omega,fun e=>?_⟩,⟨by dsimp only;omega,by dsimp only;omega,fun e=>?_⟩,fun e=>?_,fun e=>?_⟩<;>first|rfl|(dsimp only at e;exact absurd e (by decide))|(dsimp only at e ⊢;omega)
theorem in_jnz{ns:Int}(r m:Int)(h1:0≤r∧r<8)(h2:0≤m∧m≤65535):InV ⟨20,r,0,0,m⟩ ns:=by
 refine⟨by dsimp only;omega,⟨by dsimp only;omega,by dsimp only;omega,fun e=>?_⟩,⟨by dsimp only;omega,by dsimp only;omega,fun e=>?_⟩,⟨by dsimp only;omega,by dsimp only;omega,fun e=>?_⟩,⟨by dsimp only;omega,by dsimp only;omega,fun e=>?_⟩,fun e=>?_,fun e=>?_⟩<;>first|rfl|(dsimp only at e;exact absurd e (by decide))|(dsimp only at e ⊢;omega)
theorem in_mov{ns:Int}(a b:Int)(h1:0≤a∧a<8)(h2:0≤b∧b<8):InV ⟨2,a,b,0,0⟩ ns:=by
 refine⟨by dsimp only;omega,⟨by dsimp only;omega,by dsimp only;omega,fun e=>?_⟩,⟨by dsimp only;omega,by dsimp only;omega,fun e=>?_⟩,⟨by dsimp only;omega,by dsimp only;omega,fun e=>?_⟩,⟨by dsimp only;omega,by dsimp only;omega,fun e=>?_⟩,fun e=>?_,fun e=>?_⟩<;>first|rfl|(dsimp only at e;exact absurd e (by decide))|(dsimp only at e ⊢;omega)
theorem uses_alu{op:Int}(h:op=3∨op=4∨op=5∨op=9∨op=10∨op=11∨op=13∨op=14):usesF op=(true,true,true,false):=by
 rcases h with rfl|rfl|rfl|rfl|rfl|rfl|rfl|rfl<;>rfl
theorem in_alu{ns:Int}(op a b c:Int)(h:op=3∨op=4∨op=5∨op=9∨op=10∨op=11∨op=13∨op=14)(h1:0≤a∧a<8)(h2:0≤b∧b<8)(h3:0≤c∧c<8):InV ⟨op,a,b,c,0⟩ ns:=by
 have hu:=uses_alu h
 refine⟨by dsimp only;omega,⟨h1.1,h1.2,fun e=>?_⟩,⟨h2.1,h2.2,fun e=>?_⟩,⟨h3.1,h3.2,fun e=>?_⟩,⟨by dsimp only;omega,by dsimp only;omega,fun _=>rfl⟩,fun e=>?_,fun e=>?_⟩
 ·dsimp only at e;rw[hu]at e;cases e
 ·dsimp only at e;rw[hu]at e;cases e
 ·dsimp only at e;rw[hu]at e;cases e
 ·dsimp only at e;omega
 ·dsimp only at e;omega
theorem in_st{ns:Int}(a b m:Int)(h1:0≤a∧a<8)(h2:0≤b∧b<8)(h3:0≤m∧m≤65535):InV ⟨17,a,b,0,m⟩ ns:=by
 refine⟨by dsimp only;omega,⟨by dsimp only;omega,by dsimp only;omega,fun e=>?_⟩,⟨by dsimp only;omega,by dsimp only;omega,fun e=>?_⟩,⟨by dsimp only;omega,by dsimp only;omega,fun e=>?_⟩,⟨by dsimp only;omega,by dsimp only;omega,fun e=>?_⟩,fun e=>?_,fun e=>?_⟩<;>first|rfl|(dsimp only at e;exact absurd e (by decide))|(dsimp only at e ⊢;omega)
theorem in_ld{ns:Int}(a b m:Int)(h1:0≤a∧a<8)(h2:0≤b∧b<8)(h3:0≤m∧m≤65535):InV ⟨16,a,b,0,m⟩ ns:=by
 refine⟨by dsimp only;omega,⟨by dsimp only;omega,by dsimp only;omega,fun e=>?_⟩,⟨by dsimp only;omega,by dsimp only;omega,fun e=>?_⟩,⟨by dsimp only;omega,by dsimp only;omega,fun e=>?_⟩,⟨by dsimp only;omega,by dsimp only;omega,fun e=>?_⟩,fun e=>?_,fun e=>?_⟩<;>first|rfl|(dsimp only at e;exact absurd e (by decide))|(dsimp only at e ⊢;omega)
def PtR(gd:Nat)(A:Option Addr)(n c at_:Nat)(ns:Int)(wB:World)(u:Value)(w':World):Prop:=
 ∃(a1:Nat)(pA:Option Nat)(pc:Nat)(pcs:List Value)(l:List In),u=slv pA l.length pc∧Row pA l.length pc 5 (l.flatMap inV) pcs∧1≤l.length∧l.length≤6∧(∀i∈l,InV i ns)∧Mm (own [dk gd A n c at_]) wB [⟨pA,54,pcs⟩,dk gd A n c a1] w'
theorem row_lit{g k s:Nat}{cs:List Value}(h:cs.length=k*s)(hk:k≤1000):Row (some g) k k s cs cs:=
 ⟨(fun e=>by cases e),Nat.le_refl _,by unfold maxLen;omega,h,h,by rw[←h,List.take_length]⟩
theorem alucell(r:Nat)(h:r<8):∃z:Int,(z=3∨z=4∨z=5∨z=9∨z=10∨z=11∨z=13∨z=14)∧([.int .i64 3,.int .i64 4,.int .i64 5,.int .i64 10,.int .i64 13,.int .i64 14,.int .i64 11,.int .i64 9]:List Value)[r]?=some (.int .i64 z):=by
 rcases(by omega:r=0∨r=1∨r=2∨r=3∨r=4∨r=5∨r=6∨r=7)with rfl|rfl|rfl|rfl|rfl|rfl|rfl|rfl
 ·exact⟨3,by omega,rfl⟩
 ·exact⟨4,by omega,rfl⟩
 ·exact⟨5,by omega,rfl⟩
 ·exact⟨10,by omega,rfl⟩
 ·exact⟨13,by omega,rfl⟩
 ·exact⟨14,by omega,rfl⟩
 ·exact⟨11,by omega,rfl⟩
 ·exact⟨9,by omega,rfl⟩
theorem part_c(gd:Nat)(A:Option Addr)(n c at_:Nat)(xs:List Int)(b o m d:Nat)(ss:List Int)(mo at1:Int)(wB:World)(h:Dk gd A n c at_ xs wB)(hl:ss.length=m)(hr:Ro wB b o (ints ss))(hno:¬own [dk gd A n c at_] b)(hss:SzOk ss)(hmo:1≤mo∧mo≤70)(hat:0≤at1∧at1≤70):
  Ret Tryz.prog 79 [pt gd,.slice (some ⟨b,o,none⟩) m d,.int .i64 mo,.int .i64 at1] wB (fun u w'=>PtR gd A n c at_ (m:Int) wB u w'):=by
 obtain⟨s1,s4,sbd⟩:=hss
 have hli:=fun r k w=>li_c r k w
 have hmv:=fun r k w=>mov_c r k w
 have hsy:=fun k w=>sys_c k w
 refine enterR Tryz.func79 rfl rfl rfl fun a hs hm=>?_
 clear hm
 have hm:=h.in_
 refine gsb785_ ?_;clear hs hm a;intros;rename_i a hm hs
 refine st hs rfl rfl rfl (d_call hs rfl rfl rfl (pl 21 rfl) ((nxt_c gd A n c _ xs m _ (h.now hm mem_) (by omega) (by omega)))) ?_;clear hs a;rintro _ w1 ⟨r1,rfl,b1,a1,k1,hf⟩ a hs
 replace hm:=hm.dkt rep_ k1 hf
 clear hf
 have e1:=ints_some (xs:=ss) (k:=r1) (by omega)
 have hs1:=sbd ss[r1] (List.getElem_mem _)
 generalize ss[r1]'(_)=sz at*
 refine gsb785_ ?_;clear hs hm a;intros;rename_i a hm hs
 obtain⟨q,hq⟩:∃q,q=min 5 (sz+1):=⟨_,rfl⟩
 rw[←hq]at hs
 have hq2:1≤q∧q≤5:=by omega
 clear hq
 refine st hs rfl rfl rfl (d_call hs rfl rfl rfl (pl 21 rfl) ((nxt_c gd A n c _ xs q _ (h.now hm mem_) (by omega) (by omega)))) ?_;clear hs a;rintro _ w1 ⟨r2,rfl,b2,a2,k2,hf⟩ a hs
 replace hm:=hm.dkt rep_ k2 hf
 clear hf
 repeat(first|(refine gpPg40_ ?_;clear hs hm a;intros;rename_i a hm hs)|refine sc_ ?_|((with_reducible apply lCons);first|(refine dvc hs hm gw_ rfl rfl rfl rfl rfl (pl 80 rfl) (hli _ _ _) ?_;clear hs hm a;intro w hm a hs)))
 obtain⟨g11,rfl⟩:=hs.qq 11
 refine st hs rfl rfl rfl (d_call hs rfl rfl rfl (pl 21 rfl) ((nxt_c gd A n c _ xs 20 _ (h.now hm mem_) (by omega) (by omega)))) ?_;clear hs a;rintro _ w1 ⟨r3,rfl,b3,a3,k3,hf⟩ a hs
 replace hm:=hm.dkt rep_ k3 hf
 clear hf
 have hbuf:Row (some g11) 2 2 5 ([⟨15,1,0,0,(r1:Int)⟩,⟨1,2,0,0,(r2:Int)⟩].flatMap inV) [.int .i64 15,.int .i64 1,.int .i64 0,.int .i64 0,.int .i64 (r1:Int),.int .i64 1,.int .i64 2,.int .i64 0,.int .i64 0,.int .i64 (r2:Int)]:=row_lit rfl (by omega)
 replace hs:Sl Tryz.f79.ntmps [(0,pt gd),(1,.slice (some ⟨b,o,none⟩) m d),(2,.int .i64 mo),(3,.int .i64 at1),(9,.int .i64 (r1:Int)),(11,.slice (some ⟨g11,0,none⟩) 2 2),(30,.int .i64 (r3:Int))] a:=(sb_ hs)
 replace hm:Mm (own [dk gd A n c at_]) wB [⟨some g11,54,[.int .i64 15,.int .i64 1,.int .i64 0,.int .i64 0,.int .i64 (r1:Int),.int .i64 1,.int .i64 2,.int .i64 0,.int .i64 0,.int .i64 (r2:Int)]⟩,dk gd A n c a3] _:=hm
 rcases(by omega:r3=0∨r3=1∨r3=2∨r3=3∨r3=4∨r3=5∨r3=6∨r3=7∨r3=8∨r3=9∨r3=10∨r3=11∨r3=12∨r3=13∨r3=14∨r3=15∨r3=16∨r3=17∨r3=18∨r3=19)with rfl|rfl|rfl|rfl|rfl|rfl|rfl|rfl|rfl|rfl|rfl|rfl|rfl|rfl|rfl|rfl|rfl|rfl|rfl|rfl
 ·refine gsb785_ ?_;clear hs hm a;intros;rename_i a hm hs
  refine st hs rfl rfl rfl (d_call hs rfl rfl rfl (pl 21 rfl) ((nxt_c gd A n c _ xs 3 _ (h.now hm mem_) (by omega) (by omega)))) ?_;clear hs a;rintro _ w1 ⟨r4,rfl,b4,a4,k4,hf⟩ a hs
  replace hm:=hm.dkt rep_ k4 hf
  clear hf
  refine gsb785_ ?_;clear hs hm a;intros;rename_i a hm hs
  refine st hs rfl rfl rfl (d_call hs rfl rfl rfl (pl 58 rfl) ((wrd_c gd A n c _ xs _ (h.now hm mem_)))) ?_;clear hs a;rintro _ w1 ⟨z,rfl,hz,a5,k5,hf⟩ a hs
  replace hm:=hm.dkt rep_ k5 hf
  clear hf
  refine gsb785_ ?_;clear hs hm a;intros;rename_i a hm hs
  rw[wrap_idP (v:=z) (by omega)]at hs
  refine gcPg41_ ?_;clear hs hm a;intros;rename_i a hm hs
  obtain⟨g8,rfl⟩:=hs.qq 8
  refine gRet1 hs rfl rfl ⟨_,some g8,1,_,[⟨1,3+(r4:Int),0,0,z⟩],rfl,row_lit rfl (by show 1≤1000;omega),by show 1≤1;omega,by show 1≤6;omega,fun i hi=>?_,hm.sub sub_⟩
  simp only[List.mem_cons,List.not_mem_nil,or_false]at hi
  rcases hi with rfl<;>first|exact in_li _ _ (by omega) (by omega)|exact in_lea _ _ (by omega) (by omega) (by omega)|exact in_sys _ (by omega)|exact in_jnz _ _ (by omega) (by omega)|exact in_mov _ _ (by omega) (by omega)|exact in_st _ _ _ (by omega) (by omega) (by omega)|exact in_ld _ _ _ (by omega) (by omega) (by omega)|exact in_alu _ _ _ _ (by omega) (by omega) (by omega) (by omega)
 ·skip
  refine gsb785_ ?_;clear hs hm a;intros;rename_i a hm hs
  refine cMid (fun a w=>∃(g8:Nat)(l:List In)(a9:Nat)(cs:List Value),cs=l.flatMap inV∧l.length=1∧(∀i∈l,InV i (m:Int))∧Sl Tryz.f79.ntmps [(8,.slice (some ⟨g8,0,none⟩) 1 1)] a∧Mm (own [dk gd A n c at_]) wB [⟨some g8,54,cs⟩,dk gd A n c a9] w) ?_ ?_
  ·skip
   refine cDrawT (n:=17) (.s [1,5,8,11]<| .e [(0,.o 2<| .x<| .t 3<| .e [(4,.o 6<| .x<| .t 7<| .o 9<| .x<| .t 10<| .o 12<| .x<| .s [13,14]<| .o 15<| .t 16<| .d),(6,.x<| .t 7<| .e [(4,.o 9<| .x<| .t 10<| .o 12<| .x<| .s [13,14]<| .o 15<| .t 16<| .d),(9,.x<| .t 10<| .e [(4,.o 12<| .x<| .s [13,14]<| .o 15<| .t 16<| .d),(12,.x<| .t 13<| .o 4<| .t 14<| .o 15<| .t 16<| .d)])])]),(2,.x<| .e [(0,.t 3<| .e [(4,.o 6<| .x<| .t 7<| .o 9<| .x<| .t 10<| .o 12<| .x<| .s [13,14]<| .o 15<| .t 16<| .d),(6,.x<| .t 7<| .e [(4,.o 9<| .x<| .t 10<| .o 12<| .x<| .s [13,14]<| .o 15<| .t 16<| .d),(9,.x<| .t 10<| .e [(4,.o 12<| .x<| .s [13,14]<| .o 15<| .t 16<| .d),(12,.x<| .t 13<| .o 4<| .t 14<| .o 15<| .t 16<| .d)])])]),(6,.x<| .t 7<| .e [(0,.t 3<| .e [(4,.o 9<| .x<| .t 10<| .o 12<| .x<| .s [13,14]<| .o 15<| .t 16<| .d),(9,.x<| .t 10<| .e [(4,.o 12<| .x<| .s [13,14]<| .o 15<| .t 16<| .d),(12,.x<| .t 13<| .o 4<| .t 14<| .o 15<| .t 16<| .d)])]),(9,.x<| .t 10<| .e [(0,.t 3<| .e [(4,.o 12<| .x<| .s [13,14]<| .o 15<| .t 16<| .d),(12,.x<| .t 13<| .o 4<| .t 14<| .o 15<| .t 16<| .d)]),(12,.x<| .t 13<| .o 0<| .t 3<| .o 4<| .t 14<| .o 15<| .t 16<| .d)])])])]) [] hm rfl rfl ?_
   clear hm;intro t_ w1_ hm
   repeat' (first|(refine dg2c00_ ?_;clear t_ hs hm a;intros;rename_i a hm hs t_)|refine tE t_ ?_|refine tC ?_ ?_|exact tN|intro t_|(refine oDo (i:=2) hs rfl (Wnt.none rfl) rfl rfl (by exact d_call hs rfl rfl rfl (pl 21 rfl) ((nxt_c gd A n c _ xs 8 _ (h.now hm mem_) (by omega) (by omega)))) ?_;clear hs;rintro _ w1 ⟨r4,rfl,b4,a4,k4,hf⟩ a hs;(replace hm:=hm.dkt rep_ k4 hf);(clear hf);(obtain⟨z,hz,hcell⟩:=alucell r4 (by omega));replace t_:=tX t_;refine⟨(hm.sub sub_),?_⟩)|(refine oDo (i:=6) hs rfl (Wnt.none rfl) rfl rfl (by exact d_call hs rfl rfl rfl (pl 21 rfl) ((nxt_c gd A n c _ xs 3 _ (h.now hm mem_) (by omega) (by omega)))) ?_;clear hs;rintro _ w1 ⟨r5,rfl,b5,a5,k5,hf⟩ a hs;(replace hm:=hm.dkt rep_ k5 hf);(clear hf);replace t_:=tX t_;refine⟨(hm.sub sub_),?_⟩)|(refine oDo (i:=9) hs rfl (Wnt.none rfl) rfl rfl (by exact d_call hs rfl rfl rfl (pl 21 rfl) ((nxt_c gd A n c _ xs 3 _ (h.now hm mem_) (by omega) (by omega)))) ?_;clear hs;rintro _ w1 ⟨r6,rfl,b6,a6,k6,hf⟩ a hs;(replace hm:=hm.dkt rep_ k6 hf);(clear hf);replace t_:=tX t_;refine⟨(hm.sub sub_),?_⟩)|(refine oDo (i:=12) hs rfl (Wnt.none rfl) rfl rfl (by exact d_call hs rfl rfl rfl (pl 21 rfl) ((nxt_c gd A n c _ xs 3 _ (h.now hm mem_) (by omega) (by omega)))) ?_;clear hs;rintro _ w1 ⟨r7,rfl,b7,a7,k7,hf⟩ a hs;(replace hm:=hm.dkt rep_ k7 hf);(clear hf);replace t_:=tX t_;refine⟨(hm.sub sub_),?_⟩)|(refine tD t_ ?_;(obtain⟨g8,rfl⟩:=hs.qq 8);(refine And.intro rfl ⟨g8,[⟨z,3+(r5:Int),3+(r6:Int),3+(r7:Int),0⟩],_,_,rfl,rfl,fun i hi=>?_,(sb_ hs),hm.sub sub_⟩);(simp only[List.mem_cons,List.not_mem_nil,or_false]at hi);(rcases hi with rfl<;>first|exact in_lea _ _ (by omega) (by omega) (by omega)|exact in_st _ _ _ (by omega) (by omega) (by omega)|exact in_ld _ _ _ (by omega) (by omega) (by omega)|exact in_alu _ _ _ _ (by omega) (by omega) (by omega) (by omega)))|fail)
  clear hs hm a
  rintro a w ⟨g8,l,a9,cs,hcs,hln,hiv,hs,hm⟩
  refine gsb785_ ?_;clear hs hm a;intros;rename_i a hm hs
  exact gRet1 hs rfl rfl ⟨a9,some g8,1,cs,l,by rw[hln];rfl,by rw[hln,←hcs];exact row_lit (by rw[hcs,flat_len inV 5 inV_len,hln]) (by omega),by omega,by omega,hiv,hm⟩
 ·skip
  refine gcPg41_ ?_;clear hs hm a;intros;rename_i a hm hs
  obtain⟨g8,rfl⟩:=hs.qq 8
  refine gRet1 hs rfl rfl ⟨_,some g8,1,_,[⟨15,6,0,0,(r1:Int)⟩],rfl,row_lit rfl (by show 1≤1000;omega),by show 1≤1;omega,by show 1≤6;omega,fun i hi=>?_,hm.sub sub_⟩
  simp only[List.mem_cons,List.not_mem_nil,or_false]at hi
  rcases hi with rfl<;>first|exact in_li _ _ (by omega) (by omega)|exact in_lea _ _ (by omega) (by omega) (by omega)|exact in_sys _ (by omega)|exact in_jnz _ _ (by omega) (by omega)|exact in_mov _ _ (by omega) (by omega)|exact in_st _ _ _ (by omega) (by omega) (by omega)|exact in_ld _ _ _ (by omega) (by omega) (by omega)|exact in_alu _ _ _ _ (by omega) (by omega) (by omega) (by omega)
 ·skip
  refine gsb785_ ?_;clear hs hm a;intros;rename_i a hm hs
  refine cMid (fun a w=>∃(g8:Nat)(l:List In)(a9:Nat)(cs:List Value),cs=l.flatMap inV∧l.length=2∧(∀i∈l,InV i (m:Int))∧Sl Tryz.f79.ntmps [(8,.slice (some ⟨g8,0,none⟩) 2 2)] a∧Mm (own [dk gd A n c at_]) wB [⟨some g8,54,cs⟩,dk gd A n c a9] w) ?_ ?_
  ·skip
   refine cDrawT (n:=14) (.s [0,1,2,5,6,7,8,9]<| .o 3<| .x<| .t 4<| .o 10<| .x<| .t 11<| .o 12<| .t 13<| .d) [] hm rfl rfl ?_
   clear hm;intro t_ w1_ hm
   repeat' (first|(refine dg2c00_ ?_;clear t_ hs hm a;intros;rename_i a hm hs t_)|refine tE t_ ?_|refine tC ?_ ?_|exact tN|intro t_|(refine oDo (i:=3) hs rfl (Wnt.none rfl) rfl rfl (by exact d_call hs rfl rfl rfl (pl 21 rfl) ((nxt_c gd A n c _ xs 5 _ (h.now hm mem_) (by omega) (by omega)))) ?_;clear hs;rintro _ w1 ⟨r4,rfl,b4,a4,k4,hf⟩ a hs;(replace hm:=hm.dkt rep_ k4 hf);(clear hf);replace t_:=tX t_;refine⟨(hm.sub sub_),?_⟩)|(refine oDo (i:=10) hs rfl (Wnt.none rfl) rfl rfl (by exact d_call hs rfl rfl rfl (pl 21 rfl) ((nxt_c gd A n c _ xs sz _ (h.now hm mem_) (by omega) (by omega)))) ?_;clear hs;rintro _ w1 ⟨r5,rfl,b5,a5,k5,hf⟩ a hs;(replace hm:=hm.dkt rep_ k5 hf);(clear hf);replace t_:=tX t_;refine⟨(hm.sub sub_),?_⟩)|(refine tD t_ ?_;(obtain⟨g8,rfl⟩:=hs.qq 8);(refine And.intro rfl ⟨g8,[⟨15,6,0,0,(r1:Int)⟩,⟨17,6,3+(r4:Int),0,(r5:Int)⟩],_,_,rfl,rfl,fun i hi=>?_,(sb_ hs),hm.sub sub_⟩);(simp only[List.mem_cons,List.not_mem_nil,or_false]at hi);(rcases hi with rfl|rfl<;>first|exact in_lea _ _ (by omega) (by omega) (by omega)|exact in_st _ _ _ (by omega) (by omega) (by omega)|exact in_ld _ _ _ (by omega) (by omega) (by omega)|exact in_alu _ _ _ _ (by omega) (by omega) (by omega) (by omega)))|fail)
  clear hs hm a
  rintro a w ⟨g8,l,a9,cs,hcs,hln,hiv,hs,hm⟩
  refine gsb785_ ?_;clear hs hm a;intros;rename_i a hm hs
  exact zdde0_
 ·skip
  refine gsb785_ ?_;clear hs hm a;intros;rename_i a hm hs
  refine cMid (fun a w=>∃(g8:Nat)(l:List In)(a9:Nat)(cs:List Value),cs=l.flatMap inV∧l.length=2∧(∀i∈l,InV i (m:Int))∧Sl Tryz.f79.ntmps [(8,.slice (some ⟨g8,0,none⟩) 2 2)] a∧Mm (own [dk gd A n c at_]) wB [⟨some g8,54,cs⟩,dk gd A n c a9] w) ?_ ?_
  ·skip
   refine cDrawT (n:=14) (.s [0,1,2,5,6,7,8,9]<| .o 3<| .x<| .t 4<| .o 10<| .x<| .t 11<| .o 12<| .t 13<| .d) [] hm rfl rfl ?_
   clear hm;intro t_ w1_ hm
   repeat' (first|(refine dg2c00_ ?_;clear t_ hs hm a;intros;rename_i a hm hs t_)|refine tE t_ ?_|refine tC ?_ ?_|exact tN|intro t_|(refine oDo (i:=3) hs rfl (Wnt.none rfl) rfl rfl (by exact d_call hs rfl rfl rfl (pl 21 rfl) ((nxt_c gd A n c _ xs 5 _ (h.now hm mem_) (by omega) (by omega)))) ?_;clear hs;rintro _ w1 ⟨r4,rfl,b4,a4,k4,hf⟩ a hs;(replace hm:=hm.dkt rep_ k4 hf);(clear hf);replace t_:=tX t_;refine⟨(hm.sub sub_),?_⟩)|(refine oDo (i:=10) hs rfl (Wnt.none rfl) rfl rfl (by exact d_call hs rfl rfl rfl (pl 21 rfl) ((nxt_c gd A n c _ xs sz _ (h.now hm mem_) (by omega) (by omega)))) ?_;clear hs;rintro _ w1 ⟨r5,rfl,b5,a5,k5,hf⟩ a hs;(replace hm:=hm.dkt rep_ k5 hf);(clear hf);replace t_:=tX t_;refine⟨(hm.sub sub_),?_⟩)|(refine tD t_ ?_;(obtain⟨g8,rfl⟩:=hs.qq 8);(refine And.intro rfl ⟨g8,[⟨15,6,0,0,(r1:Int)⟩,⟨17,6,3+(r4:Int),0,(r5:Int)⟩],_,_,rfl,rfl,fun i hi=>?_,(sb_ hs),hm.sub sub_⟩);(simp only[List.mem_cons,List.not_mem_nil,or_false]at hi);(rcases hi with rfl|rfl<;>first|exact in_lea _ _ (by omega) (by omega) (by omega)|exact in_st _ _ _ (by omega) (by omega) (by omega)|exact in_ld _ _ _ (by omega) (by omega) (by omega)|exact in_alu _ _ _ _ (by omega) (by omega) (by omega) (by omega)))|fail)
  clear hs hm a
  rintro a w ⟨g8,l,a9,cs,hcs,hln,hiv,hs,hm⟩
  refine gsb785_ ?_;clear hs hm a;intros;rename_i a hm hs
  exact zdde0_
 ·skip
  refine gsb785_ ?_;clear hs hm a;intros;rename_i a hm hs
  refine cMid (fun a w=>∃(g8:Nat)(l:List In)(a9:Nat)(cs:List Value),cs=l.flatMap inV∧l.length=2∧(∀i∈l,InV i (m:Int))∧Sl Tryz.f79.ntmps [(8,.slice (some ⟨g8,0,none⟩) 2 2)] a∧Mm (own [dk gd A n c at_]) wB [⟨some g8,54,cs⟩,dk gd A n c a9] w) ?_ ?_
  ·skip
   refine cDrawT (n:=14) (.s [0,1,2,5,6,7,8,9]<| .o 3<| .x<| .t 4<| .o 10<| .x<| .t 11<| .o 12<| .t 13<| .d) [] hm rfl rfl ?_
   clear hm;intro t_ w1_ hm
   repeat' (first|(refine dg2c00_ ?_;clear t_ hs hm a;intros;rename_i a hm hs t_)|refine tE t_ ?_|refine tC ?_ ?_|exact tN|intro t_|(refine oDo (i:=3) hs rfl (Wnt.none rfl) rfl rfl (by exact d_call hs rfl rfl rfl (pl 21 rfl) ((nxt_c gd A n c _ xs 4 _ (h.now hm mem_) (by omega) (by omega)))) ?_;clear hs;rintro _ w1 ⟨r4,rfl,b4,a4,k4,hf⟩ a hs;(replace hm:=hm.dkt rep_ k4 hf);(clear hf);replace t_:=tX t_;refine⟨(hm.sub sub_),?_⟩)|(refine oDo (i:=10) hs rfl (Wnt.none rfl) rfl rfl (by exact d_call hs rfl rfl rfl (pl 21 rfl) ((nxt_c gd A n c _ xs sz _ (h.now hm mem_) (by omega) (by omega)))) ?_;clear hs;rintro _ w1 ⟨r5,rfl,b5,a5,k5,hf⟩ a hs;(replace hm:=hm.dkt rep_ k5 hf);(clear hf);replace t_:=tX t_;refine⟨(hm.sub sub_),?_⟩)|(refine tD t_ ?_;(obtain⟨g8,rfl⟩:=hs.qq 8);(refine And.intro rfl ⟨g8,[⟨15,6,0,0,(r1:Int)⟩,⟨16,3+(r4:Int),6,0,(r5:Int)⟩],_,_,rfl,rfl,fun i hi=>?_,(sb_ hs),hm.sub sub_⟩);(simp only[List.mem_cons,List.not_mem_nil,or_false]at hi);(rcases hi with rfl|rfl<;>first|exact in_lea _ _ (by omega) (by omega) (by omega)|exact in_st _ _ _ (by omega) (by omega) (by omega)|exact in_ld _ _ _ (by omega) (by omega) (by omega)|exact in_alu _ _ _ _ (by omega) (by omega) (by omega) (by omega)))|fail)
  clear hs hm a
  rintro a w ⟨g8,l,a9,cs,hcs,hln,hiv,hs,hm⟩
  refine gsb785_ ?_;clear hs hm a;intros;rename_i a hm hs
  exact zdde0_
 ·skip
  refine gsb785_ ?_;clear hs hm a;intros;rename_i a hm hs
  refine cMid (fun a w=>∃(g8:Nat)(l:List In)(a9:Nat)(cs:List Value),cs=l.flatMap inV∧l.length=2∧(∀i∈l,InV i (m:Int))∧Sl Tryz.f79.ntmps [(8,.slice (some ⟨g8,0,none⟩) 2 2)] a∧Mm (own [dk gd A n c at_]) wB [⟨some g8,54,cs⟩,dk gd A n c a9] w) ?_ ?_
  ·skip
   refine cDrawT (n:=14) (.s [0,1,2,5,6,7,8,9]<| .o 3<| .x<| .t 4<| .o 10<| .x<| .t 11<| .o 12<| .t 13<| .d) [] hm rfl rfl ?_
   clear hm;intro t_ w1_ hm
   repeat' (first|(refine dg2c00_ ?_;clear t_ hs hm a;intros;rename_i a hm hs t_)|refine tE t_ ?_|refine tC ?_ ?_|exact tN|intro t_|(refine oDo (i:=3) hs rfl (Wnt.none rfl) rfl rfl (by exact d_call hs rfl rfl rfl (pl 21 rfl) ((nxt_c gd A n c _ xs 4 _ (h.now hm mem_) (by omega) (by omega)))) ?_;clear hs;rintro _ w1 ⟨r4,rfl,b4,a4,k4,hf⟩ a hs;(replace hm:=hm.dkt rep_ k4 hf);(clear hf);replace t_:=tX t_;refine⟨(hm.sub sub_),?_⟩)|(refine oDo (i:=10) hs rfl (Wnt.none rfl) rfl rfl (by exact d_call hs rfl rfl rfl (pl 21 rfl) ((nxt_c gd A n c _ xs sz _ (h.now hm mem_) (by omega) (by omega)))) ?_;clear hs;rintro _ w1 ⟨r5,rfl,b5,a5,k5,hf⟩ a hs;(replace hm:=hm.dkt rep_ k5 hf);(clear hf);replace t_:=tX t_;refine⟨(hm.sub sub_),?_⟩)|(refine tD t_ ?_;(obtain⟨g8,rfl⟩:=hs.qq 8);(refine And.intro rfl ⟨g8,[⟨15,6,0,0,(r1:Int)⟩,⟨16,3+(r4:Int),6,0,(r5:Int)⟩],_,_,rfl,rfl,fun i hi=>?_,(sb_ hs),hm.sub sub_⟩);(simp only[List.mem_cons,List.not_mem_nil,or_false]at hi);(rcases hi with rfl|rfl<;>first|exact in_lea _ _ (by omega) (by omega) (by omega)|exact in_st _ _ _ (by omega) (by omega) (by omega)|exact in_ld _ _ _ (by omega) (by omega) (by omega)|exact in_alu _ _ _ _ (by omega) (by omega) (by omega) (by omega)))|fail)
  clear hs hm a
  rintro a w ⟨g8,l,a9,cs,hcs,hln,hiv,hs,hm⟩
  refine gsb785_ ?_;clear hs hm a;intros;rename_i a hm hs
  exact zdde0_
 ·skip
  refine gcPg41_ ?_;clear hs hm a;intros;rename_i a hm hs
  refine st hs rfl rfl rfl (d_call hs rfl rfl rfl (pl 21 rfl) ((nxt_c gd A n c _ xs 3 _ (h.now hm mem_) (by omega) (by omega)))) ?_;clear hs a;rintro _ w1 ⟨r4,rfl,b4,a4,k4,hf⟩ a hs
  replace hm:=hm.dkt rep_ k4 hf
  clear hf
  refine gcPg41_ ?_;clear hs hm a;intros;rename_i a hm hs
  obtain⟨g0,rfl⟩:=hs.qq 102
  refine dv hs (Wnt.none rfl) rfl rfl (d_append (A:=some g0) (n:=1) (c:=1) hs rfl rfl rfl rfl rfl tab rfl rfl rfl rfl rfl hm mem_ (row_lit rfl (by omega)) rfl (hm.ro (n:=10) mem_ (cutF_ok rfl)) rfl (by show(1+2)*40≤_;omega) (by omega)) ?_
  clear hs
  rintro _ w2 ⟨A1,c1,cs1,rfl,hr1,hM⟩ a hs
  replace hm:=hM _ rep_
  clear hM
  refine gcPg41_ ?_;clear hs hm a;intros;rename_i a hm hs
  refine dv hs (Wnt.none rfl) rfl rfl (d_append (A:=A1) (n:=1+2) (c:=c1) hs rfl rfl rfl rfl rfl tab rfl rfl rfl rfl rfl hm mem_ hr1 rfl (hm.ro (n:=5) mem_ (cutF_ok rfl)) rfl (by show(1+2+1)*40≤_;omega) (by omega)) ?_
  clear hs
  rintro _ w2 ⟨A2,c2,cs2,rfl,hr2,hM⟩ a hs
  replace hm:=hM _ rep_
  clear hM
  refine gcPg41_ ?_;clear hs hm a;intros;rename_i a hm hs
  refine gRet1 hs rfl rfl ⟨_,A2,_,_,[⟨1,0,0,0,(r4:Int)⟩,⟨15,1,0,0,(r1:Int)⟩,⟨1,2,0,0,(r2:Int)⟩,⟨23,0,0,0,13⟩],rfl,hr2,by show 1≤4;omega,by show 4≤6;omega,fun i hi=>?_,hm.sub sub_⟩
  simp only[List.mem_cons,List.not_mem_nil,or_false]at hi
  rcases hi with rfl|rfl|rfl|rfl<;>first|exact in_li _ _ (by omega) (by omega)|exact in_lea _ _ (by omega) (by omega) (by omega)|exact in_sys _ (by omega)|exact in_jnz _ _ (by omega) (by omega)|exact in_mov _ _ (by omega) (by omega)
 ·skip
  refine gcPg41_ ?_;clear hs hm a;intros;rename_i a hm hs
  refine st hs rfl rfl rfl (d_call hs rfl rfl rfl (pl 21 rfl) ((nxt_c gd A n c _ xs 3 _ (h.now hm mem_) (by omega) (by omega)))) ?_;clear hs a;rintro _ w1 ⟨r4,rfl,b4,a4,k4,hf⟩ a hs
  replace hm:=hm.dkt rep_ k4 hf
  clear hf
  refine gcPg41_ ?_;clear hs hm a;intros;rename_i a hm hs
  obtain⟨g0,rfl⟩:=hs.qq 102
  refine dv hs (Wnt.none rfl) rfl rfl (d_append (A:=some g0) (n:=1) (c:=1) hs rfl rfl rfl rfl rfl tab rfl rfl rfl rfl rfl hm mem_ (row_lit rfl (by omega)) rfl (hm.ro (n:=10) mem_ (cutF_ok rfl)) rfl (by show(1+2)*40≤_;omega) (by omega)) ?_
  clear hs
  rintro _ w2 ⟨A1,c1,cs1,rfl,hr1,hM⟩ a hs
  replace hm:=hM _ rep_
  clear hM
  refine gcPg41_ ?_;clear hs hm a;intros;rename_i a hm hs
  refine dv hs (Wnt.none rfl) rfl rfl (d_append (A:=A1) (n:=1+2) (c:=c1) hs rfl rfl rfl rfl rfl tab rfl rfl rfl rfl rfl hm mem_ hr1 rfl (hm.ro (n:=5) mem_ (cutF_ok rfl)) rfl (by show(1+2+1)*40≤_;omega) (by omega)) ?_
  clear hs
  rintro _ w2 ⟨A2,c2,cs2,rfl,hr2,hM⟩ a hs
  replace hm:=hM _ rep_
  clear hM
  refine gcPg41_ ?_;clear hs hm a;intros;rename_i a hm hs
  refine gRet1 hs rfl rfl ⟨_,A2,_,_,[⟨1,0,0,0,(r4:Int)⟩,⟨15,1,0,0,(r1:Int)⟩,⟨1,2,0,0,(r2:Int)⟩,⟨23,0,0,0,13⟩],rfl,hr2,by show 1≤4;omega,by show 4≤6;omega,fun i hi=>?_,hm.sub sub_⟩
  simp only[List.mem_cons,List.not_mem_nil,or_false]at hi
  rcases hi with rfl|rfl|rfl|rfl<;>first|exact in_li _ _ (by omega) (by omega)|exact in_lea _ _ (by omega) (by omega) (by omega)|exact in_sys _ (by omega)|exact in_jnz _ _ (by omega) (by omega)|exact in_mov _ _ (by omega) (by omega)
 ·skip
  refine gcPg41_ ?_;clear hs hm a;intros;rename_i a hm hs
  refine st hs rfl rfl rfl (d_call hs rfl rfl rfl (pl 21 rfl) ((nxt_c gd A n c _ xs 3 _ (h.now hm mem_) (by omega) (by omega)))) ?_;clear hs a;rintro _ w1 ⟨r4,rfl,b4,a4,k4,hf⟩ a hs
  replace hm:=hm.dkt rep_ k4 hf
  clear hf
  refine gcPg41_ ?_;clear hs hm a;intros;rename_i a hm hs
  obtain⟨g0,rfl⟩:=hs.qq 113
  refine dv hs (Wnt.none rfl) rfl rfl (d_append (A:=some g0) (n:=1) (c:=1) hs rfl rfl rfl rfl rfl tab rfl rfl rfl rfl rfl hm mem_ (row_lit rfl (by omega)) rfl (hm.ro (n:=10) mem_ (cutF_ok rfl)) rfl (by show(1+2)*40≤_;omega) (by omega)) ?_
  clear hs
  rintro _ w2 ⟨A1,c1,cs1,rfl,hr1,hM⟩ a hs
  replace hm:=hM _ rep_
  clear hM
  refine gcPg41_ ?_;clear hs hm a;intros;rename_i a hm hs
  refine dv hs (Wnt.none rfl) rfl rfl (d_append (A:=A1) (n:=1+2) (c:=c1) hs rfl rfl rfl rfl rfl tab rfl rfl rfl rfl rfl hm mem_ hr1 rfl (hm.ro (n:=10) mem_ (cutF_ok rfl)) rfl (by show(1+2+2)*40≤_;omega) (by omega)) ?_
  clear hs
  rintro _ w2 ⟨A2,c2,cs2,rfl,hr2,hM⟩ a hs
  replace hm:=hM _ rep_
  clear hM
  refine gcPg41_ ?_;clear hs hm a;intros;rename_i a hm hs
  refine gRet1 hs rfl rfl ⟨_,A2,_,_,[⟨1,0,0,0,(r4:Int)⟩,⟨15,1,0,0,(r1:Int)⟩,⟨1,2,0,0,(r2:Int)⟩,⟨23,0,0,0,14⟩,⟨2,3,0,0,0⟩],rfl,hr2,by show 1≤5;omega,by show 5≤6;omega,fun i hi=>?_,hm.sub sub_⟩
  simp only[List.mem_cons,List.not_mem_nil,or_false]at hi
  rcases hi with rfl|rfl|rfl|rfl|rfl<;>first|exact in_li _ _ (by omega) (by omega)|exact in_lea _ _ (by omega) (by omega) (by omega)|exact in_sys _ (by omega)|exact in_jnz _ _ (by omega) (by omega)|exact in_mov _ _ (by omega) (by omega)
 ·skip
  refine gcPg41_ ?_;clear hs hm a;intros;rename_i a hm hs
  refine st hs rfl rfl rfl (d_call hs rfl rfl rfl (pl 21 rfl) ((nxt_c gd A n c _ xs 3 _ (h.now hm mem_) (by omega) (by omega)))) ?_;clear hs a;rintro _ w1 ⟨r4,rfl,b4,a4,k4,hf⟩ a hs
  replace hm:=hm.dkt rep_ k4 hf
  clear hf
  refine gcPg41_ ?_;clear hs hm a;intros;rename_i a hm hs
  refine st hs rfl rfl rfl (d_call hs rfl rfl rfl (pl 21 rfl) ((nxt_c gd A n c _ xs 4 _ (h.now hm mem_) (by omega) (by omega)))) ?_;clear hs a;rintro _ w1 ⟨r5,rfl,b5,a5,k5,hf⟩ a hs
  replace hm:=hm.dkt rep_ k5 hf
  clear hf
  refine gcPg41_ ?_;clear hs hm a;intros;rename_i a hm hs
  obtain⟨g8,rfl⟩:=hs.qq 8
  refine gRet1 hs rfl rfl ⟨_,some g8,4,_,[⟨1,0,0,0,(r4:Int)⟩,⟨1,1,0,0,(r5:Int)⟩,⟨23,0,0,0,3⟩,⟨2,7,0,0,0⟩],rfl,row_lit rfl (by show 4≤1000;omega),by show 1≤4;omega,by show 4≤6;omega,fun i hi=>?_,hm.sub sub_⟩
  simp only[List.mem_cons,List.not_mem_nil,or_false]at hi
  rcases hi with rfl|rfl|rfl|rfl<;>first|exact in_li _ _ (by omega) (by omega)|exact in_lea _ _ (by omega) (by omega) (by omega)|exact in_sys _ (by omega)|exact in_jnz _ _ (by omega) (by omega)|exact in_mov _ _ (by omega) (by omega)|exact in_st _ _ _ (by omega) (by omega) (by omega)|exact in_ld _ _ _ (by omega) (by omega) (by omega)|exact in_alu _ _ _ _ (by omega) (by omega) (by omega) (by omega)
 ·skip
  refine gcPg41_ ?_;clear hs hm a;intros;rename_i a hm hs
  obtain⟨g0,rfl⟩:=hs.qq 134
  refine dv hs (Wnt.none rfl) rfl rfl (d_append (A:=some g0) (n:=1) (c:=1) hs rfl rfl rfl rfl rfl tab rfl rfl rfl rfl rfl hm mem_ (row_lit rfl (by omega)) rfl (hm.ro (n:=10) mem_ (cutF_ok rfl)) rfl (by show(1+2)*40≤_;omega) (by omega)) ?_
  clear hs
  rintro _ w2 ⟨A1,c1,cs1,rfl,hr1,hM⟩ a hs
  replace hm:=hM _ rep_
  clear hM
  refine gcPg41_ ?_;clear hs hm a;intros;rename_i a hm hs
  refine st hs rfl rfl rfl (d_call hs rfl rfl rfl (pl 21 rfl) ((nxt_c gd A n c _ xs 2 _ (h.now hm mem_) (by omega) (by omega)))) ?_;clear hs a;rintro _ w1 ⟨r4,rfl,b4,a4,k4,hf⟩ a hs
  replace hm:=hm.dkt rep_ k4 hf
  clear hf
  rcases(by omega:r4=0∨r4=1)with rfl|rfl
  ·skip
   refine gcPg41_ ?_;clear hs hm a;intros;rename_i a hm hs
   refine dv hs (Wnt.none rfl) rfl rfl (d_append (A:=A1) (n:=1+2) (c:=c1) hs rfl rfl rfl rfl rfl tab rfl rfl rfl rfl rfl hm mem_ hr1 rfl (hm.ro (n:=5) mem_ (cutF_ok rfl)) rfl (by show(1+2+1)*40≤_;omega) (by omega)) ?_
   clear hs
   rintro _ w2 ⟨A2,c2,cs2,rfl,hr2,hM⟩ a hs
   replace hm:=hM _ rep_
   clear hM
   refine gcPg41_ ?_;clear hs hm a;intros;rename_i a hm hs
   refine gRet1 hs rfl rfl ⟨_,A2,_,_,[⟨2,0,7,0,0⟩,⟨15,1,0,0,(r1:Int)⟩,⟨1,2,0,0,(r2:Int)⟩,⟨23,0,0,0,1⟩],rfl,hr2,by show 1≤4;omega,by show 4≤6;omega,fun i hi=>?_,hm.sub sub_⟩
   simp only[List.mem_cons,List.not_mem_nil,or_false]at hi
   rcases hi with rfl|rfl|rfl|rfl<;>first|exact in_li _ _ (by omega) (by omega)|exact in_lea _ _ (by omega) (by omega) (by omega)|exact in_sys _ (by omega)|exact in_jnz _ _ (by omega) (by omega)|exact in_mov _ _ (by omega) (by omega)
  ·skip
   refine gcPg41_ ?_;clear hs hm a;intros;rename_i a hm hs
   refine dv hs (Wnt.none rfl) rfl rfl (d_append (A:=A1) (n:=1+2) (c:=c1) hs rfl rfl rfl rfl rfl tab rfl rfl rfl rfl rfl hm mem_ hr1 rfl (hm.ro (n:=5) mem_ (cutF_ok rfl)) rfl (by show(1+2+1)*40≤_;omega) (by omega)) ?_
   clear hs
   rintro _ w2 ⟨A2,c2,cs2,rfl,hr2,hM⟩ a hs
   replace hm:=hM _ rep_
   clear hM
   refine gcPg41_ ?_;clear hs hm a;intros;rename_i a hm hs
   refine gRet1 hs rfl rfl ⟨_,A2,_,_,[⟨2,0,7,0,0⟩,⟨15,1,0,0,(r1:Int)⟩,⟨1,2,0,0,(r2:Int)⟩,⟨23,0,0,0,2⟩],rfl,hr2,by show 1≤4;omega,by show 4≤6;omega,fun i hi=>?_,hm.sub sub_⟩
   simp only[List.mem_cons,List.not_mem_nil,or_false]at hi
   rcases hi with rfl|rfl|rfl|rfl<;>first|exact in_li _ _ (by omega) (by omega)|exact in_lea _ _ (by omega) (by omega) (by omega)|exact in_sys _ (by omega)|exact in_jnz _ _ (by omega) (by omega)|exact in_mov _ _ (by omega) (by omega)
 ·skip
  refine gcPg41_ ?_;clear hs hm a;intros;rename_i a hm hs
  refine st hs rfl rfl rfl (d_call hs rfl rfl rfl (pl 21 rfl) ((nxt_c gd A n c _ xs 4 _ (h.now hm mem_) (by omega) (by omega)))) ?_;clear hs a;rintro _ w1 ⟨r4,rfl,b4,a4,k4,hf⟩ a hs
  replace hm:=hm.dkt rep_ k4 hf
  clear hf
  refine gcPg41_ ?_;clear hs hm a;intros;rename_i a hm hs
  refine st hs rfl rfl rfl (d_call hs rfl rfl rfl (pl 21 rfl) ((nxt_c gd A n c _ xs 2 _ (h.now hm mem_) (by omega) (by omega)))) ?_;clear hs a;rintro _ w1 ⟨r5,rfl,b5,a5,k5,hf⟩ a hs
  replace hm:=hm.dkt rep_ k5 hf
  clear hf
  rcases(by omega:r5=0∨r5=1)with rfl|rfl
  ·skip
   refine gcPg41_ ?_;clear hs hm a;intros;rename_i a hm hs
   obtain⟨g8,rfl⟩:=hs.qq 8
   refine gRet1 hs rfl rfl ⟨_,some g8,2,_,[⟨2,0,7,0,0⟩,⟨23,0,0,0,4⟩],rfl,row_lit rfl (by show 2≤1000;omega),by show 1≤2;omega,by show 2≤6;omega,fun i hi=>?_,hm.sub sub_⟩
   simp only[List.mem_cons,List.not_mem_nil,or_false]at hi
   rcases hi with rfl|rfl<;>first|exact in_li _ _ (by omega) (by omega)|exact in_lea _ _ (by omega) (by omega) (by omega)|exact in_sys _ (by omega)|exact in_jnz _ _ (by omega) (by omega)|exact in_mov _ _ (by omega) (by omega)|exact in_st _ _ _ (by omega) (by omega) (by omega)|exact in_ld _ _ _ (by omega) (by omega) (by omega)|exact in_alu _ _ _ _ (by omega) (by omega) (by omega) (by omega)
  ·skip
   refine gcPg41_ ?_;clear hs hm a;intros;rename_i a hm hs
   obtain⟨g8,rfl⟩:=hs.qq 8
   refine gRet1 hs rfl rfl ⟨_,some g8,3,_,[⟨2,0,7,0,0⟩,⟨1,1,0,0,(r4:Int)⟩,⟨23,0,0,0,5⟩],rfl,row_lit rfl (by show 3≤1000;omega),by show 1≤3;omega,by show 3≤6;omega,fun i hi=>?_,hm.sub sub_⟩
   simp only[List.mem_cons,List.not_mem_nil,or_false]at hi
   rcases hi with rfl|rfl|rfl<;>first|exact in_li _ _ (by omega) (by omega)|exact in_lea _ _ (by omega) (by omega) (by omega)|exact in_sys _ (by omega)|exact in_jnz _ _ (by omega) (by omega)|exact in_mov _ _ (by omega) (by omega)|exact in_st _ _ _ (by omega) (by omega) (by omega)|exact in_ld _ _ _ (by omega) (by omega) (by omega)|exact in_alu _ _ _ _ (by omega) (by omega) (by omega) (by omega)
 ·skip
  refine gcPg41_ ?_;clear hs hm a;intros;rename_i a hm hs
  refine st hs rfl rfl rfl (d_call hs rfl rfl rfl (pl 21 rfl) ((nxt_c gd A n c _ xs 3 _ (h.now hm mem_) (by omega) (by omega)))) ?_;clear hs a;rintro _ w1 ⟨r4,rfl,b4,a4,k4,hf⟩ a hs
  replace hm:=hm.dkt rep_ k4 hf
  clear hf
  rcases(by omega:r4=0∨r4=1∨r4=2)with rfl|rfl|rfl
  ·skip
   refine gcPg41_ ?_;clear hs hm a;intros;rename_i a hm hs
   refine st hs rfl rfl rfl (d_call hs rfl rfl rfl (pl 21 rfl) ((nxt_c gd A n c _ xs 3 _ (h.now hm mem_) (by omega) (by omega)))) ?_;clear hs a;rintro _ w1 ⟨r5,rfl,b5,a5,k5,hf⟩ a hs
   replace hm:=hm.dkt rep_ k5 hf
   clear hf
   refine gcPg41_ ?_;clear hs hm a;intros;rename_i a hm hs
   obtain⟨g8,rfl⟩:=hs.qq 8
   refine gRet1 hs rfl rfl ⟨_,some g8,2,_,[⟨23,0,0,0,6⟩,⟨2,3+(r5:Int),0,0,0⟩],rfl,row_lit rfl (by show 2≤1000;omega),by show 1≤2;omega,by show 2≤6;omega,fun i hi=>?_,hm.sub sub_⟩
   simp only[List.mem_cons,List.not_mem_nil,or_false]at hi
   rcases hi with rfl|rfl<;>first|exact in_li _ _ (by omega) (by omega)|exact in_lea _ _ (by omega) (by omega) (by omega)|exact in_sys _ (by omega)|exact in_jnz _ _ (by omega) (by omega)|exact in_mov _ _ (by omega) (by omega)|exact in_st _ _ _ (by omega) (by omega) (by omega)|exact in_ld _ _ _ (by omega) (by omega) (by omega)|exact in_alu _ _ _ _ (by omega) (by omega) (by omega) (by omega)
  ·skip
   refine gcPg41_ ?_;clear hs hm a;intros;rename_i a hm hs
   refine st hs rfl rfl rfl (d_call hs rfl rfl rfl (pl 21 rfl) ((nxt_c gd A n c _ xs 3 _ (h.now hm mem_) (by omega) (by omega)))) ?_;clear hs a;rintro _ w1 ⟨r5,rfl,b5,a5,k5,hf⟩ a hs
   replace hm:=hm.dkt rep_ k5 hf
   clear hf
   refine gcPg41_ ?_;clear hs hm a;intros;rename_i a hm hs
   obtain⟨g8,rfl⟩:=hs.qq 8
   refine gRet1 hs rfl rfl ⟨_,some g8,2,_,[⟨23,0,0,0,7⟩,⟨2,3+(r5:Int),0,0,0⟩],rfl,row_lit rfl (by show 2≤1000;omega),by show 1≤2;omega,by show 2≤6;omega,fun i hi=>?_,hm.sub sub_⟩
   simp only[List.mem_cons,List.not_mem_nil,or_false]at hi
   rcases hi with rfl|rfl<;>first|exact in_li _ _ (by omega) (by omega)|exact in_lea _ _ (by omega) (by omega) (by omega)|exact in_sys _ (by omega)|exact in_jnz _ _ (by omega) (by omega)|exact in_mov _ _ (by omega) (by omega)|exact in_st _ _ _ (by omega) (by omega) (by omega)|exact in_ld _ _ _ (by omega) (by omega) (by omega)|exact in_alu _ _ _ _ (by omega) (by omega) (by omega) (by omega)
  ·skip
   refine gcPg41_ ?_;clear hs hm a;intros;rename_i a hm hs
   refine st hs rfl rfl rfl (d_call hs rfl rfl rfl (pl 21 rfl) ((nxt_c gd A n c _ xs 3 _ (h.now hm mem_) (by omega) (by omega)))) ?_;clear hs a;rintro _ w1 ⟨r5,rfl,b5,a5,k5,hf⟩ a hs
   replace hm:=hm.dkt rep_ k5 hf
   clear hf
   refine gcPg41_ ?_;clear hs hm a;intros;rename_i a hm hs
   obtain⟨g8,rfl⟩:=hs.qq 8
   refine gRet1 hs rfl rfl ⟨_,some g8,2,_,[⟨23,0,0,0,15⟩,⟨2,3+(r5:Int),0,0,0⟩],rfl,row_lit rfl (by show 2≤1000;omega),by show 1≤2;omega,by show 2≤6;omega,fun i hi=>?_,hm.sub sub_⟩
   simp only[List.mem_cons,List.not_mem_nil,or_false]at hi
   rcases hi with rfl|rfl<;>first|exact in_li _ _ (by omega) (by omega)|exact in_lea _ _ (by omega) (by omega) (by omega)|exact in_sys _ (by omega)|exact in_jnz _ _ (by omega) (by omega)|exact in_mov _ _ (by omega) (by omega)|exact in_st _ _ _ (by omega) (by omega) (by omega)|exact in_ld _ _ _ (by omega) (by omega) (by omega)|exact in_alu _ _ _ _ (by omega) (by omega) (by omega) (by omega)
 ·skip
  refine gcPg41_ ?_;clear hs hm a;intros;rename_i a hm hs
  refine st hs rfl rfl rfl (d_call hs rfl rfl rfl (pl 21 rfl) ((nxt_c gd A n c _ xs 3 _ (h.now hm mem_) (by omega) (by omega)))) ?_;clear hs a;rintro _ w1 ⟨r4,rfl,b4,a4,k4,hf⟩ a hs
  replace hm:=hm.dkt rep_ k4 hf
  clear hf
  refine gcPg41_ ?_;clear hs hm a;intros;rename_i a hm hs
  refine st hs rfl rfl rfl (d_call hs rfl rfl rfl (pl 21 rfl) ((nxt_c gd A n c _ xs 2 _ (h.now hm mem_) (by omega) (by omega)))) ?_;clear hs a;rintro _ w1 ⟨r5,rfl,b5,a5,k5,hf⟩ a hs
  replace hm:=hm.dkt rep_ k5 hf
  clear hf
  rcases(by omega:r5=0∨r5=1)with rfl|rfl
  ·skip
   refine gcPg41_ ?_;clear hs hm a;intros;rename_i a hm hs
   obtain⟨g8,rfl⟩:=hs.qq 8
   refine gRet1 hs rfl rfl ⟨_,some g8,2,_,[⟨1,0,0,0,(r4:Int)⟩,⟨23,0,0,0,8⟩],rfl,row_lit rfl (by show 2≤1000;omega),by show 1≤2;omega,by show 2≤6;omega,fun i hi=>?_,hm.sub sub_⟩
   simp only[List.mem_cons,List.not_mem_nil,or_false]at hi
   rcases hi with rfl|rfl<;>first|exact in_li _ _ (by omega) (by omega)|exact in_lea _ _ (by omega) (by omega) (by omega)|exact in_sys _ (by omega)|exact in_jnz _ _ (by omega) (by omega)|exact in_mov _ _ (by omega) (by omega)|exact in_st _ _ _ (by omega) (by omega) (by omega)|exact in_ld _ _ _ (by omega) (by omega) (by omega)|exact in_alu _ _ _ _ (by omega) (by omega) (by omega) (by omega)
  ·skip
   refine gcPg41_ ?_;clear hs hm a;intros;rename_i a hm hs
   obtain⟨g8,rfl⟩:=hs.qq 8
   refine gRet1 hs rfl rfl ⟨_,some g8,2,_,[⟨1,0,0,0,(r4:Int)⟩,⟨23,0,0,0,9⟩],rfl,row_lit rfl (by show 2≤1000;omega),by show 1≤2;omega,by show 2≤6;omega,fun i hi=>?_,hm.sub sub_⟩
   simp only[List.mem_cons,List.not_mem_nil,or_false]at hi
   rcases hi with rfl|rfl<;>first|exact in_li _ _ (by omega) (by omega)|exact in_lea _ _ (by omega) (by omega) (by omega)|exact in_sys _ (by omega)|exact in_jnz _ _ (by omega) (by omega)|exact in_mov _ _ (by omega) (by omega)|exact in_st _ _ _ (by omega) (by omega) (by omega)|exact in_ld _ _ _ (by omega) (by omega) (by omega)|exact in_alu _ _ _ _ (by omega) (by omega) (by omega) (by omega)
 ·skip
  refine gcPg41_ ?_;clear hs hm a;intros;rename_i a hm hs
  refine st hs rfl rfl rfl (d_call hs rfl rfl rfl (pl 21 rfl) ((nxt_c gd A n c _ xs 3 _ (h.now hm mem_) (by omega) (by omega)))) ?_;clear hs a;rintro _ w1 ⟨r4,rfl,b4,a4,k4,hf⟩ a hs
  replace hm:=hm.dkt rep_ k4 hf
  clear hf
  refine gcPg41_ ?_;clear hs hm a;intros;rename_i a hm hs
  refine st hs rfl rfl rfl (d_call hs rfl rfl rfl (pl 21 rfl) ((nxt_c gd A n c _ xs 2 _ (h.now hm mem_) (by omega) (by omega)))) ?_;clear hs a;rintro _ w1 ⟨r5,rfl,b5,a5,k5,hf⟩ a hs
  replace hm:=hm.dkt rep_ k5 hf
  clear hf
  rcases(by omega:r5=0∨r5=1)with rfl|rfl
  ·skip
   refine gcPg41_ ?_;clear hs hm a;intros;rename_i a hm hs
   obtain⟨g8,rfl⟩:=hs.qq 8
   refine gRet1 hs rfl rfl ⟨_,some g8,2,_,[⟨1,0,0,0,(r4:Int)⟩,⟨23,0,0,0,8⟩],rfl,row_lit rfl (by show 2≤1000;omega),by show 1≤2;omega,by show 2≤6;omega,fun i hi=>?_,hm.sub sub_⟩
   simp only[List.mem_cons,List.not_mem_nil,or_false]at hi
   rcases hi with rfl|rfl<;>first|exact in_li _ _ (by omega) (by omega)|exact in_lea _ _ (by omega) (by omega) (by omega)|exact in_sys _ (by omega)|exact in_jnz _ _ (by omega) (by omega)|exact in_mov _ _ (by omega) (by omega)|exact in_st _ _ _ (by omega) (by omega) (by omega)|exact in_ld _ _ _ (by omega) (by omega) (by omega)|exact in_alu _ _ _ _ (by omega) (by omega) (by omega) (by omega)
  ·skip
   refine gcPg41_ ?_;clear hs hm a;intros;rename_i a hm hs
   obtain⟨g8,rfl⟩:=hs.qq 8
   refine gRet1 hs rfl rfl ⟨_,some g8,2,_,[⟨1,0,0,0,(r4:Int)⟩,⟨23,0,0,0,9⟩],rfl,row_lit rfl (by show 2≤1000;omega),by show 1≤2;omega,by show 2≤6;omega,fun i hi=>?_,hm.sub sub_⟩
   simp only[List.mem_cons,List.not_mem_nil,or_false]at hi
   rcases hi with rfl|rfl<;>first|exact in_li _ _ (by omega) (by omega)|exact in_lea _ _ (by omega) (by omega) (by omega)|exact in_sys _ (by omega)|exact in_jnz _ _ (by omega) (by omega)|exact in_mov _ _ (by omega) (by omega)|exact in_st _ _ _ (by omega) (by omega) (by omega)|exact in_ld _ _ _ (by omega) (by omega) (by omega)|exact in_alu _ _ _ _ (by omega) (by omega) (by omega) (by omega)
 ·skip
  refine gcPg41_ ?_;clear hs hm a;intros;rename_i a hm hs
  refine st hs rfl rfl rfl (d_call hs rfl rfl rfl (pl 21 rfl) ((nxt_c gd A n c _ xs mo _ (h.now hm mem_) (by omega) (by omega)))) ?_;clear hs a;rintro _ w1 ⟨r4,rfl,b4,a4,k4,hf⟩ a hs
  replace hm:=hm.dkt rep_ k4 hf
  clear hf
  refine gcPg41_ ?_;clear hs hm a;intros;rename_i a hm hs
  obtain⟨g8,rfl⟩:=hs.qq 8
  refine gRet1 hs rfl rfl ⟨_,some g8,3,_,[⟨1,0,0,0,(r4:Int)⟩,⟨2,1,3,0,0⟩,⟨23,0,0,0,10⟩],rfl,row_lit rfl (by show 3≤1000;omega),by show 1≤3;omega,by show 3≤6;omega,fun i hi=>?_,hm.sub sub_⟩
  simp only[List.mem_cons,List.not_mem_nil,or_false]at hi
  rcases hi with rfl|rfl|rfl<;>first|exact in_li _ _ (by omega) (by omega)|exact in_lea _ _ (by omega) (by omega) (by omega)|exact in_sys _ (by omega)|exact in_jnz _ _ (by omega) (by omega)|exact in_mov _ _ (by omega) (by omega)|exact in_st _ _ _ (by omega) (by omega) (by omega)|exact in_ld _ _ _ (by omega) (by omega) (by omega)|exact in_alu _ _ _ _ (by omega) (by omega) (by omega) (by omega)
 ·skip
  refine gcPg41_ ?_;clear hs hm a;intros;rename_i a hm hs
  refine st hs rfl rfl rfl (d_call hs rfl rfl rfl (pl 21 rfl) ((nxt_c gd A n c _ xs 2 _ (h.now hm mem_) (by omega) (by omega)))) ?_;clear hs a;rintro _ w1 ⟨r4,rfl,b4,a4,k4,hf⟩ a hs
  replace hm:=hm.dkt rep_ k4 hf
  clear hf
  rcases(by omega:r4=0∨r4=1)with rfl|rfl
  ·skip
   refine gcPg41_ ?_;clear hs hm a;intros;rename_i a hm hs
   refine st hs rfl rfl rfl (d_call hs rfl rfl rfl (pl 21 rfl) ((nxt_c gd A n c _ xs mo _ (h.now hm mem_) (by omega) (by omega)))) ?_;clear hs a;rintro _ w1 ⟨r5,rfl,b5,a5,k5,hf⟩ a hs
   replace hm:=hm.dkt rep_ k5 hf
   clear hf
   refine gcPg41_ ?_;clear hs hm a;intros;rename_i a hm hs
   refine st hs rfl rfl rfl (d_call hs rfl rfl rfl (pl 21 rfl) ((nxt_c gd A n c _ xs 2 _ (h.now hm mem_) (by omega) (by omega)))) ?_;clear hs a;rintro _ w1 ⟨r6,rfl,b6,a6,k6,hf⟩ a hs
   replace hm:=hm.dkt rep_ k6 hf
   clear hf
   rcases(by omega:r6=0∨r6=1)with rfl|rfl
   ·skip
    refine gcPg41_ ?_;clear hs hm a;intros;rename_i a hm hs
    obtain⟨g8,rfl⟩:=hs.qq 8
    refine gRet1 hs rfl rfl ⟨_,some g8,2,_,[⟨1,0,0,0,(r5:Int)⟩,⟨23,0,0,0,12⟩],rfl,row_lit rfl (by show 2≤1000;omega),by show 1≤2;omega,by show 2≤6;omega,fun i hi=>?_,hm.sub sub_⟩
    simp only[List.mem_cons,List.not_mem_nil,or_false]at hi
    rcases hi with rfl|rfl<;>first|exact in_li _ _ (by omega) (by omega)|exact in_lea _ _ (by omega) (by omega) (by omega)|exact in_sys _ (by omega)|exact in_jnz _ _ (by omega) (by omega)|exact in_mov _ _ (by omega) (by omega)|exact in_st _ _ _ (by omega) (by omega) (by omega)|exact in_ld _ _ _ (by omega) (by omega) (by omega)|exact in_alu _ _ _ _ (by omega) (by omega) (by omega) (by omega)
   ·skip
    refine gcPg41_ ?_;clear hs hm a;intros;rename_i a hm hs
    obtain⟨g8,rfl⟩:=hs.qq 8
    refine gRet1 hs rfl rfl ⟨_,some g8,2,_,[⟨1,0,0,0,(r5:Int)⟩,⟨23,0,0,0,11⟩],rfl,row_lit rfl (by show 2≤1000;omega),by show 1≤2;omega,by show 2≤6;omega,fun i hi=>?_,hm.sub sub_⟩
    simp only[List.mem_cons,List.not_mem_nil,or_false]at hi
    rcases hi with rfl|rfl<;>first|exact in_li _ _ (by omega) (by omega)|exact in_lea _ _ (by omega) (by omega) (by omega)|exact in_sys _ (by omega)|exact in_jnz _ _ (by omega) (by omega)|exact in_mov _ _ (by omega) (by omega)|exact in_st _ _ _ (by omega) (by omega) (by omega)|exact in_ld _ _ _ (by omega) (by omega) (by omega)|exact in_alu _ _ _ _ (by omega) (by omega) (by omega) (by omega)
  ·skip
   refine gcPg41_ ?_;clear hs hm a;intros;rename_i a hm hs
   refine st hs rfl rfl rfl (d_call hs rfl rfl rfl (pl 21 rfl) ((nxt_c gd A n c _ xs 5 _ (h.now hm mem_) (by omega) (by omega)))) ?_;clear hs a;rintro _ w1 ⟨r5,rfl,b5,a5,k5,hf⟩ a hs
   replace hm:=hm.dkt rep_ k5 hf
   clear hf
   refine gcPg41_ ?_;clear hs hm a;intros;rename_i a hm hs
   refine st hs rfl rfl rfl (d_call hs rfl rfl rfl (pl 21 rfl) ((nxt_c gd A n c _ xs 2 _ (h.now hm mem_) (by omega) (by omega)))) ?_;clear hs a;rintro _ w1 ⟨r6,rfl,b6,a6,k6,hf⟩ a hs
   replace hm:=hm.dkt rep_ k6 hf
   clear hf
   rcases(by omega:r6=0∨r6=1)with rfl|rfl
   ·skip
    refine gcPg41_ ?_;clear hs hm a;intros;rename_i a hm hs
    obtain⟨g8,rfl⟩:=hs.qq 8
    refine gRet1 hs rfl rfl ⟨_,some g8,2,_,[⟨1,0,0,0,(r5:Int)⟩,⟨23,0,0,0,12⟩],rfl,row_lit rfl (by show 2≤1000;omega),by show 1≤2;omega,by show 2≤6;omega,fun i hi=>?_,hm.sub sub_⟩
    simp only[List.mem_cons,List.not_mem_nil,or_false]at hi
    rcases hi with rfl|rfl<;>first|exact in_li _ _ (by omega) (by omega)|exact in_lea _ _ (by omega) (by omega) (by omega)|exact in_sys _ (by omega)|exact in_jnz _ _ (by omega) (by omega)|exact in_mov _ _ (by omega) (by omega)|exact in_st _ _ _ (by omega) (by omega) (by omega)|exact in_ld _ _ _ (by omega) (by omega) (by omega)|exact in_alu _ _ _ _ (by omega) (by omega) (by omega) (by omega)
   ·skip
    refine gcPg41_ ?_;clear hs hm a;intros;rename_i a hm hs
    obtain⟨g8,rfl⟩:=hs.qq 8
    refine gRet1 hs rfl rfl ⟨_,some g8,2,_,[⟨1,0,0,0,(r5:Int)⟩,⟨23,0,0,0,11⟩],rfl,row_lit rfl (by show 2≤1000;omega),by show 1≤2;omega,by show 2≤6;omega,fun i hi=>?_,hm.sub sub_⟩
    simp only[List.mem_cons,List.not_mem_nil,or_false]at hi
    rcases hi with rfl|rfl<;>first|exact in_li _ _ (by omega) (by omega)|exact in_lea _ _ (by omega) (by omega) (by omega)|exact in_sys _ (by omega)|exact in_jnz _ _ (by omega) (by omega)|exact in_mov _ _ (by omega) (by omega)|exact in_st _ _ _ (by omega) (by omega) (by omega)|exact in_ld _ _ _ (by omega) (by omega) (by omega)|exact in_alu _ _ _ _ (by omega) (by omega) (by omega) (by omega)
 ·skip
  refine gcPg41_ ?_;clear hs hm a;intros;rename_i a hm hs
  refine st hs rfl rfl rfl (d_call hs rfl rfl rfl (pl 21 rfl) ((nxt_c gd A n c _ xs 4 _ (h.now hm mem_) (by omega) (by omega)))) ?_;clear hs a;rintro _ w1 ⟨r4,rfl,b4,a4,k4,hf⟩ a hs
  replace hm:=hm.dkt rep_ k4 hf
  clear hf
  refine gcPg41_ ?_;clear hs hm a;intros;rename_i a hm hs
  obtain⟨g8,rfl⟩:=hs.qq 8
  refine gRet1 hs rfl rfl ⟨_,some g8,4,_,[⟨1,5,0,0,1+(r4:Int)⟩,⟨1,4,0,0,1⟩,⟨4,5,5,4,0⟩,⟨20,5,0,0,at1+2⟩],rfl,row_lit rfl (by show 4≤1000;omega),by show 1≤4;omega,by show 4≤6;omega,fun i hi=>?_,hm.sub sub_⟩
  simp only[List.mem_cons,List.not_mem_nil,or_false]at hi
  rcases hi with rfl|rfl|rfl|rfl<;>first|exact in_li _ _ (by omega) (by omega)|exact in_lea _ _ (by omega) (by omega) (by omega)|exact in_sys _ (by omega)|exact in_jnz _ _ (by omega) (by omega)|exact in_mov _ _ (by omega) (by omega)|exact in_st _ _ _ (by omega) (by omega) (by omega)|exact in_ld _ _ _ (by omega) (by omega) (by omega)|exact in_alu _ _ _ _ (by omega) (by omega) (by omega) (by omega)
 ·skip
  refine gcPg41_ ?_;clear hs hm a;intros;rename_i a hm hs
  refine st hs rfl rfl rfl (d_call hs rfl rfl rfl (pl 99 rfl) ((ins_c gd A n c _ xs (m:Int) mo _ (h.now hm mem_) (by omega) hmo))) ?_;clear hs a;rintro _ w1 ⟨iz,rfl,hiz,a4,k4,hf⟩ a hs
  replace hm:=hm.dkt rep_ k4 hf
  clear hf
  obtain⟨iop,ia,ib,ic,im⟩:=iz
  unfold inA at hs
  dsimp only at hs
  refine gcPg41_ ?_;clear hs hm a;intros;rename_i a hm hs
  obtain⟨g8,rfl⟩:=hs.qq 8
  refine gRet1 hs rfl rfl ⟨_,some g8,1,_,[⟨iop,ia,ib,ic,im⟩],rfl,row_lit rfl (by show 1≤1000;omega),by show 1≤1;omega,by show 1≤6;omega,fun i hi=>?_,hm.sub sub_⟩
  rcases List.mem_singleton.1 hi with rfl
  exact hiz
structure WS where
 A:Option Nat
 c:Nat
 cs:List Value
 xs:List Int
def WS.v(r:WS):Value:=slv r.A r.xs.length r.c
def WS.hp(r:WS):Hp:=⟨r.A,23,r.cs⟩
def WS.ok(r:WS):Prop:=Row r.A r.xs.length r.c 1 (wds r.xs) r.cs
theorem ws_perm{S:Nat→Prop}{w0 w:World}{L:List Hp}{rs:List WS}{r:WS}(hm:Mm S w0 (r.hp::(L++rs.map WS.hp)) w):Mm S w0 (L++(rs++[r]).map WS.hp) w:=by
 refine hm.perm ?_
 rw[List.map_append,←List.append_assoc]
 exact List.perm_append_comm (l₁:=L++rs.map WS.hp) (l₂:=[r.hp])
def FitW(ws:List WS)(ss:List Int):Prop:=∀k (h1:k<ws.length) (h2:k<ss.length),((ws[k]).xs.length:Int)≤ss[k]
structure PgX where
 code:List In
 cA:Nat
 cc:Nat
 ss:List Int
 gs:Nat
 sc:Nat
 ws:List WS
 dA:Option Nat
 dc:Nat
def PgX.v(p:PgX):Value:= .agg #[slv (some p.cA) p.code.length p.cc,.slice (some ⟨p.gs,0,none⟩) p.ss.length p.sc,slv p.dA p.ws.length p.dc]
def PgX.rows(p:PgX):List (Option Nat × List Value):=(some p.cA,p.code.flatMap inV)::(some p.gs,ints p.ss)::(p.dA,p.ws.map WS.v)::p.ws.map fun r=>(r.A,wds r.xs)
structure PgV(p:PgX):Prop where
 sz:SzOk p.ss
 wl:p.ws.length=p.ss.length
 bd:∀r∈p.ws,∀y∈r.xs,0≤y∧y≤65535
 fit:FitW p.ws p.ss
 c1:1≤p.code.length
 c2:p.code.length≤64
 inv:∀i∈p.code,InV i (p.ss.length:Int)
 ju:∀i∈p.code,jumpB i.op=true→i.m<(p.code.length:Int)
 dle:p.ws.length≤p.dc
def RwsOk(rs:List (Option Nat × List Value))(w:World):Prop:=∀r∈rs,Rd w w.heap.size (r.1.map fun g=>⟨g,0,none⟩) r.2
def RwsGe(rs:List (Option Nat × List Value))(b:Nat):Prop:=∀r∈rs,∀g,r.1=some g→b≤g
theorem Mm.newer{h0 h1:Hp}{M:List Hp}{w0 w:World}(hm:Mm (own [h0]) w0 (h1::M) w)(hg:h1.g=h0.g):∀x∈M,∀g,x.g=some g→w0.heap.size≤g:=fun x hx g e=>by
 rcases hm.ow x (List.mem_cons_of_mem _ hx) g e with h1|⟨z,hz,e2⟩
 ·exact h1
 ·rcases List.mem_singleton.1 hz with rfl
  exact(hm.dj.1 x hx g (hg.trans e2) e).elim
theorem in_zero{i:In}{ns:Int}(h:InV i ns)(hj:jumpB i.op=true):InV ⟨i.op,i.a,i.b,i.c,0⟩ ns:=by
 have h1:18≤i.op∧i.op≤21:=of_decide_eq_true hj
 exact⟨h.op,h.a,h.b,h.c,⟨by dsimp only;omega,by dsimp only;omega,fun _=>rfl⟩,fun e=>by dsimp only at e;omega,fun e=>by dsimp only at e;omega⟩
theorem ju_set{l:List In}{k N:Nat}{x y:In}(hN:(1:Int)≤(N:Int))(hx:l[k]?=some x) (hy:y.m=0) (hju:∀j i,j<k→l[j]?=some i→jumpB i.op=true→i.m<(N:Int)):∀j i,j<k+1→(l.set k y)[j]?=some i→jumpB i.op=true→i.m<(N:Int):=fun j i hj hi hb=>by
 by_cases e:j=k
 ·subst e
  have hlt:j<l.length:=by
   rcases Nat.lt_or_ge j l.length with h|h
   ·exact h
   ·rw[List.getElem?_eq_none h]at hx;cases hx
  rw[List.getElem?_set_self hlt]at hi
  cases hi
  omega
 ·rw[List.getElem?_set_ne (fun h=>e h.symm)]at hi
  exact hju j i (by omega) hi hb
theorem ju_next{l:List In}{k N:Nat}{x:In}(hx:l[k]?=some x) (hm:jumpB x.op=true→x.m<(N:Int)) (hju:∀j i,j<k→l[j]?=some i→jumpB i.op=true→i.m<(N:Int)):∀j i,j<k+1→l[j]?=some i→jumpB i.op=true→i.m<(N:Int):=fun j i hj hi hb=>by
 by_cases e:j=k
 ·subst e
  rw[hx]at hi
  cases hi
  exact hm hb
 ·exact hju j i (by omega) hi hb
theorem in_jmp{ns:Int}(m:Int)(h2:0≤m∧m≤65535):InV ⟨18,0,0,0,m⟩ ns:=by
 refine⟨by dsimp only;omega,⟨by dsimp only;omega,by dsimp only;omega,fun _=>rfl⟩,⟨by dsimp only;omega,by dsimp only;omega,fun _=>rfl⟩,⟨by dsimp only;omega,by dsimp only;omega,fun _=>rfl⟩,⟨by dsimp only;omega,by dsimp only;omega,fun e=>?_⟩,fun e=>?_,fun e=>?_⟩
 ·dsimp only at e;exact absurd e (by decide)
 ·dsimp only at e;omega
 ·dsimp only at e;omega
theorem in_rti{ns:Int}:InV ⟨24,0,0,0,0⟩ ns:=by
 refine⟨by dsimp only;omega,⟨by dsimp only;omega,by dsimp only;omega,fun _=>rfl⟩,⟨by dsimp only;omega,by dsimp only;omega,fun _=>rfl⟩,⟨by dsimp only;omega,by dsimp only;omega,fun _=>rfl⟩,⟨by dsimp only;omega,by dsimp only;omega,fun _=>rfl⟩,fun e=>?_,fun e=>?_⟩
 ·dsimp only at e;omega
 ·dsimp only at e;omega
theorem inV_one(l:List In):(l.flatMap inV).all (·.oneCell')=true:=by
 rw[List.all_eq_true]
 intro v hv
 obtain⟨x,_,hx⟩:=List.mem_flatMap.1 hv
 unfold inV at hx
 simp only[List.mem_cons,List.not_mem_nil,or_false]at hx
 rcases hx with rfl|rfl|rfl|rfl|rfl<;>rfl
theorem in_tail(l:List In)(r:Int):l.flatMap inV++[.int .i64 1,.int .i64 0,.int .i64 0,.int .i64 0,.int .i64 r,.int .i64 23,.int .i64 0,.int .i64 0,.int .i64 0,.int .i64 0]=(l++([⟨1,0,0,0,r⟩,⟨23,0,0,0,0⟩]:List In)).flatMap inV:=by
 rw[List.flatMap_append];rfl
theorem Row.cut{A:Option Nat}{n c:Nat}{l:List In}{cs:List Value}(h:Row A n c 5 (l.flatMap inV) cs){m:Nat}(hm:m≤n)(hl:l.length=n)(hA:A≠none):Row A m c 5 ((l.take m).flatMap inV) cs:=by
 have h1:((l.take m).flatMap inV)=(l.flatMap inV).take (m*5):=by
  have:=List.take_append_drop m l
  have h2:l.flatMap inV=(l.take m).flatMap inV++(l.drop m).flatMap inV:=by rw[←List.flatMap_append,this]
  rw[h2,List.take_left' (by rw[flat_len inV 5 inV_len,List.length_take];congr 1;omega)]
 refine⟨fun e=>(hA e).elim,by have:=h.le;omega,h.cm,h.len,by rw[flat_len inV 5 inV_len,List.length_take,hl];congr 1;omega,?_⟩
 rw[h1,←h.pre,List.take_take]
 congr 1;omega
structure JuX where
 k:Nat
 l:List In
 ccs:List Value
structure DaX where
 at_:Nat
 ws:List WS
 dA:Option Nat
 dc:Nat
 dcs:List Value
structure CoX where
 m:Nat
 at_:Nat
 is:List In
 cA:Option Nat
 cc:Nat
 ccs:List Value
theorem prg_c(gd:Nat)(A:Option Addr)(n c at_:Nat)(xs:List Int)(wB:World)(h:Dk gd A n c at_ xs wB):
  Ret Tryz.prog 48 [pt gd] wB (fun u w'=>∃p:PgX,u=p.v∧PgV p∧RwsOk p.rows w'∧RwsGe p.rows wB.heap.size∧DkR gd A n c xs wB w'):=by
 refine enterR Tryz.func48 rfl rfl rfl fun a hs hm=>?_
 clear hm
 have hm:=h.in_
 refine gs6b74_ ?_;clear hs hm a;intros;rename_i a hm hs
 obtain⟨g2,rfl⟩:=hs.pp 2
 have hszB:=hm.fr.size
 refine st hs rfl rfl rfl (d_call hs rfl rfl rfl (pl 77 rfl) ((siz_c gd A n c at_ xs _ (h.now hm mem_)))) ?_;clear hs a;rintro _ wS ⟨gs,m,sc,ss,rfl,hsl,hss,hsr,hsg,a1,k1,hf⟩ a hs
 have hg2:g2<gs:=Nat.lt_of_lt_of_le (Hp.lt (hm.me _ (List.mem_cons_self ..)) rfl) hsg
 have hgd:gd<gs:=Nat.lt_of_lt_of_le (Hp.lt (h.now hm mem_).sat rfl) hsg
 replace hm:=hm.dkt rep_ k1 hf
 clear hf
 have hmB:=hm
 clear hm
 have hm:=hmB.rebase
 obtain⟨b1,o1,he1,hb1,r1⟩:=hsr.ro (by rw[ints_len];have:=hss.one;omega)
 cases he1
 have hno:¬own [⟨some g2,38,[nS,nS,nS]⟩,dk gd A n c a1] gs:=by
  rintro⟨z,hz,e⟩
  rcases List.mem_cons.1 hz with rfl|hz
  ·cases e;omega
  ·rcases List.mem_singleton.1 hz with rfl;cases e;omega
 refine gs6b74_ ?_;clear hs hm a;intros;rename_i w a hm hs
 obtain⟨g3,rfl⟩:=hs.pp 3
 have hg3:∀(z:Nat),True:=fun _=>trivial
 clear hg3
 obtain⟨Lb,hLb⟩:∃Lb:List Hp,Lb=[⟨some g2,38,[nS,nS,nS]⟩,dk gd A n c a1]:=⟨_,rfl⟩
 change Mm (own [⟨some g2,38,[.slice none 0 0,.slice none 0 0,.slice none 0 0]⟩,dk gd A n c a1]) wS [⟨some g3,38,[.slice none 0 0,.slice (some ⟨gs,0,none⟩) m sc,.slice none 0 0]⟩,⟨some g2,38,[.slice none 0 0,.slice none 0 0,.slice none 0 0]⟩,dk gd A n c a1] _ at hm
 change Mm (own [dk gd A n c at_]) wB [⟨some g2,38,[.slice none 0 0,.slice none 0 0,.slice none 0 0]⟩,dk gd A n c a1] wS at hmB
 rw[←hLb]at hmB hno
 replace hm:Mm (own Lb) wS [⟨some g3,38,[nS,.slice (some ⟨gs,0,none⟩) m sc,nS]⟩,⟨some g2,38,[nS,nS,nS]⟩,dk gd A n c a1] w:=by rw[hLb];exact hm
 have hg32:g3≠gs:=fun e=>by
  rcases hm.ow _ (List.mem_cons_self ..) g3 rfl with h1|h1
  ·omega
  ·rw[e]at h1;exact hno h1
 replace hm:=hm.zero 74
 have hsm:=hss.four
 rw[hsl]at hsm
 refine cLoop (X:=DaX) (fun X a w'=>Sl Tryz.f48.ntmps [(0,pt gd),(2,pt g2),(3,pt g3),(13,.slice (some ⟨gs,0,none⟩) m sc),(14,.int .i64 (m:Int)),(15,.int .i64 (X.ws.length:Int))] a∧Mm (own Lb) wS ([⟨some g3,38,[nS,.slice (some ⟨gs,0,none⟩) m sc,slv X.dA X.ws.length X.dc]⟩,⟨X.dA,74,X.dcs⟩,⟨some g2,38,[nS,nS,nS]⟩,dk gd A n c X.at_]++X.ws.map WS.hp) w'∧X.ws.length≤m∧Row X.dA X.ws.length X.dc 1 (X.ws.map WS.v) X.dcs∧(∀r∈X.ws,r.ok∧∀y∈r.xs,0≤y∧y≤65535)∧FitW X.ws ss) (fun X=>m-X.ws.length) ⟨a1,[],none,0,[]⟩ ⟨(sb_ hs),hm.sel [1,0,2,3] (by decide) rfl,Nat.zero_le _,(Row.empty 1:Row none 0 0 1 [] []),fun r hr=>absurd hr List.not_mem_nil,fun k h1=>absurd h1 (Nat.not_lt_zero _)⟩ ?_
 clear hs hm a
 rintro⟨at1,ws,dA,dc,dcs⟩ a w' ⟨hs,hm,hwm,hrow,hws,hfit⟩
 dsimp only at*
 by_cases hlt:ws.length<m
 ·have e1:=ints_some (xs:=ss) (k:=ws.length) (by omega)
  have hb2:=hss.bd ss[ws.length] (List.getElem_mem _)
  obtain⟨kk,hkk⟩:∃kk:Nat,(kk:Int)=ss[ws.length]:=⟨ss[ws.length].toNat,by omega⟩
  rw[←hkk]at e1 hb2
  refine gs6b74_ ?_;clear hs hm a;intros;rename_i a hm hs
  refine cMid (fun a w=>∃(r:WS)(a2:Nat)(dA2:Option Nat)(dc2:Nat)(dcs2:List Value),r.ok∧r.xs.length≤kk∧(∀y∈r.xs,0≤y∧y≤65535)∧Row dA2 (ws.length+1) dc2 1 (ws.map WS.v++[r.v]) dcs2∧Sl Tryz.f48.ntmps [(0,pt gd),(2,pt g2),(3,pt g3),(13,.slice (some ⟨gs,0,none⟩) m sc),(14,.int .i64 (m:Int)),(15,.int .i64 (ws.length:Int))] a∧Mm (own Lb) wS (r.hp::([⟨some g3,38,[nS,.slice (some ⟨gs,0,none⟩) m sc,slv dA2 (ws.length+1) dc2]⟩,⟨dA2,74,dcs2⟩,⟨some g2,38,[nS,nS,nS]⟩,dk gd A n c a2]++ws.map WS.hp)) w) ?_ ?_
  ·skip
   refine cDrawT (n:=9) (.s [0,2,3]<| .e [(1,.o 4<| .x<| .o 5<| .o 6<| .x<| .t 7<| .o 8<| .d),(4,.x<| .e [(1,.o 5<| .o 6<| .x<| .t 7<| .o 8<| .d),(5,.o 1<| .o 6<| .x<| .t 7<| .o 8<| .d)])]) [] hm rfl rfl ?_
   clear hm;intro t_ w1_ hm
   repeat' (first|(refine dg6d05_ ?_;clear t_ hs hm a;intros;rename_i a hm hs t_)|refine tE t_ ?_|refine tC ?_ ?_|exact tN|intro t_|(refine oDo (i:=4) hs rfl (Wnt.none rfl) rfl rfl (by exact d_call hs rfl rfl rfl (pl 78 rfl) ((wds_c gd A n c _ xs kk _ (h.now (hmB.trans hm) (by repeat(first|exact mH|apply mT))) (by omega)))) ?_;clear hs;rintro _ w1 ⟨a2,wA,wc,wcs,ys,rfl,hwr,hwl,hwb,hk2⟩ a hs;(replace hm:=hm.deck (R:=[⟨wA,23,wcs⟩]) hk2 rfl rep_);(clear hk2);replace t_:=tX t_;refine⟨(hm.sub sub_),?_⟩)|(refine oDo (i:=6) hs rfl (Wnt.none rfl) rfl rfl (by exact d_append (A:=dA) (n:=ws.length) (c:=dc) (news:=[slv wA ys.length wc]) hs rfl rfl rfl rfl rfl tab rfl rfl rfl rfl rfl hm mem_ hrow rfl (hm.ro (n:=1) mem_ (cutF_ok rfl)) rfl (by show(ws.length+1)*24≤_;omega) (by omega)) ?_;clear hs;rintro _ w1 ⟨dA2,dc2,dcs2,rfl,hrr,hM⟩ a hs;(replace hm:=hM _ rep_);(clear hM);replace t_:=tX t_;refine⟨(hm.sub sub_),?_⟩)|(refine tD t_ ?_;(exact And.intro rfl ⟨⟨wA,wc,wcs,ys⟩,a2,dA2,dc2,dcs2,hwr,hwl,hwb,hrr,(sb_ hs),hm.sub sub_⟩))|fail)
  clear hs hm a hrow
  rintro a w2 ⟨r,a2,dA2,dc2,dcs2,hro,hrl,hrb,hrow,hs,hm⟩
  replace hm:=ws_perm hm
  refine gs6b74_ ?_;clear hs hm a;intros;rename_i a hm hs
  refine⟨⟨a2,ws++[r],dA2,dc2,dcs2⟩,by dsimp only;rw[List.length_append,List.length_singleton];omega,?_⟩
  dsimp only
  rw[List.length_append,List.length_singleton]
  refine⟨(sb_ hs),hm,by omega,by rw[List.map_append];exact hrow,fun z hz=>?_,fun k h1 h2=>?_⟩
  ·rcases List.mem_append.1 hz with hz|hz
   ·exact hws z hz
   ·rcases List.mem_singleton.1 hz with rfl;exact⟨hro,hrb⟩
  ·by_cases hk:k<ws.length
   ·rw[List.getElem_append_left hk];exact hfit k hk h2
   ·have hkw:k=ws.length:=by rw[List.length_append,List.length_singleton]at h1;omega
    subst hkw
    rw[List.getElem_append_right (Nat.le_refl _)]
    simp only[Nat.sub_self,List.getElem_cons_zero]
    rw[←hkk]
    omega
 ·have hwl:ws.length=m:=by omega
  have hn2:¬own [dk gd A n c at1] gs:=by
   rintro⟨z,hz,e⟩
   rcases List.mem_singleton.1 hz with rfl
   cases e;omega
  replace hm:=hm.perm (M':=⟨some g3,38,[nS,.slice (some ⟨gs,0,none⟩) m sc,slv dA ws.length dc]⟩::dk gd A n c at1::(⟨dA,74,dcs⟩::⟨some g2,38,[nS,nS,nS]⟩::ws.map WS.hp)) (List.Perm.cons _ (List.perm_middle (l₁:=([⟨dA,74,dcs⟩,⟨some g2,38,[nS,nS,nS]⟩]:List Hp))).symm)
  obtain⟨R,hR⟩:∃R:List Hp,R=⟨dA,74,dcs⟩::⟨some g2,38,[nS,nS,nS]⟩::ws.map WS.hp:=⟨_,rfl⟩
  obtain⟨dV,hdV⟩:∃dV:Value,dV=slv dA ws.length dc:=⟨_,rfl⟩
  rw[←hR,←hdV]at hm
  refine gs6b74_ ?_;clear hs hm a;intros;rename_i a hm hs
  refine st hs rfl rfl rfl (d_call hs rfl rfl rfl (pl 21 rfl) ((nxt_c gd A n c _ xs 12 _ (h.now (hmB.trans hm) mem_) (by omega) (by omega)))) ?_;clear hs a;rintro _ w1 ⟨r3,rfl,b3,a3,k3,hf⟩ a hs
  replace hm:=hm.dkt rep_ k3 hf
  clear hf
  refine gs6b74_ ?_;clear hs hm a;intros;rename_i a hm hs
  replace hm:=hm.zero 54
  refine cLoop (X:=CoX) (fun X a w'=>Sl Tryz.f48.ntmps [(0,pt gd),(2,pt g2),(3,pt g3),(6,.int .i64 (X.m:Int))] a∧Mm (own Lb) wS (⟨X.cA,54,X.ccs⟩::⟨some g3,38,[slv X.cA X.is.length X.cc,.slice (some ⟨gs,0,none⟩) m sc,dV]⟩::dk gd A n c X.at_::R) w'∧Row X.cA X.is.length X.cc 5 (X.is.flatMap inV) X.ccs∧X.is.length≤62∧(∀i∈X.is,InV i (m:Int))∧X.m≤12) (fun X=>X.m) ⟨1+r3,a3,[],none,0,[]⟩ ⟨hs.sub (Has.all ⟨rfl,rfl,rfl,by dsimp only;rw[Int.natCast_add];rfl,trivial⟩),hm,(Row.empty 5:Row none 0 0 5 [] []),by dsimp only;rw[List.length_nil];omega,fun i hi=>absurd hi List.not_mem_nil,by dsimp only;omega⟩ ?_
  clear hs hm a
  rintro⟨mm,at2,is,cA,cc,ccs⟩ a w' ⟨hs,hm,hrw,h62,hiv,hmm⟩
  dsimp only at*
  by_cases hm0:0<mm
  ·obtain⟨mm,rfl⟩:∃k,mm=k+1:=⟨mm-1,by omega⟩
   have hn3:¬own [dk gd A n c at2] gs:=by
    rintro⟨z,hz,e⟩
    rcases List.mem_singleton.1 hz with rfl
    cases e;omega
   refine gs6b74_ ?_;clear hs hm a;intros;rename_i a hm hs
   refine st hs rfl rfl rfl (d_call hs rfl rfl rfl (pl 79 rfl) ((part_c gd A n c _ xs gs 0 m sc ss _ _ _ (h.now (hmB.trans hm) mem_) hsl (r1.ro hm hno) hn3 hss (by omega) (by omega)))) ?_;clear hs a;rintro _ w2 ⟨a4,pA,pc,pcs,l,rfl,hpr,hl1,hl6,hli,hk2⟩ a hs
   replace hm:=hm.deck (R:=[⟨pA,54,pcs⟩]) hk2 rfl rep_
   clear hk2
   obtain⟨gp,rfl⟩:=hpr.some_ (by omega)
   by_cases hle:is.length+l.length≤62
   ·refine gs6b74_ ?_;clear hs hm a;intros;rename_i a hm hs
    have hpo:Ro w2 gp 0 (l.flatMap inV):=by
     obtain⟨b9,o9,e9,_,r9⟩:=(hm.rd_row (A:=some gp) mem_ hpr).ro (by rw[flat_len inV 5 inV_len];omega)
     cases e9
     exact r9
    refine dv hs (Wnt.none rfl) rfl rfl (d_append (A:=cA) (n:=is.length) (c:=cc) (news:=l.flatMap inV) (m:=l.length) hs rfl rfl rfl rfl rfl tab rfl rfl rfl rfl rfl hm mem_ hrw (by rw[flat_len inV 5 inV_len]) hpo (inV_one l) (by show(is.length+l.length)*40≤_;omega) (by omega)) ?_
    clear hs
    rintro _ w3 ⟨cA2,cc2,ccs2,rfl,hr2,hM⟩ a hs
    replace hm:=hM _ rep_
    clear hM
    refine gs6b74_ ?_;clear hs hm a;intros;rename_i a hm hs
    refine⟨⟨mm,a4,is++l,cA2,cc2,ccs2⟩,by dsimp only;omega,?_⟩
    dsimp only
    rw[List.length_append,List.flatMap_append]
    refine⟨(sb_ hs),hm.sub (List.sublist_cons_self _ _),hr2,hle,fun z hz=>?_,by omega⟩
    rcases List.mem_append.1 hz with hz|hz
    ·exact hiv z hz
    ·exact hli z hz
   ·refine gs6b74_ ?_;clear hs hm a;intros;rename_i a hm hs
    exact⟨⟨mm,a4,is,cA,cc,ccs⟩,by dsimp only;omega,(sb_ hs),hm.sub (List.sublist_cons_self _ _),hrw,h62,hiv,by dsimp only;omega⟩
  ·refine gs6b74_ ?_;clear hs hm a;intros;rename_i a hm hs
   refine st hs rfl rfl rfl (d_call hs rfl rfl rfl (pl 21 rfl) ((nxt_c gd A n c _ xs 4 _ (h.now (hmB.trans hm) mem_) (by omega) (by omega)))) ?_;clear hs a;rintro _ w1 ⟨r4,rfl,b4,a4,k4,hf⟩ a hs
   replace hm:=hm.dkt rep_ k4 hf
   clear hf
   refine cMid (fun a w=>∃(at4:Nat)(is2:List In)(cA2:Option Nat)(cc2:Nat)(ccs2:List Value),Row cA2 is2.length cc2 5 (is2.flatMap inV) ccs2∧is2.length≤63∧(∀i∈is2,InV i (m:Int))∧Sl Tryz.f48.ntmps [(0,pt gd),(2,pt g2),(3,pt g3)] a∧Mm (own Lb) wS (⟨cA2,54,ccs2⟩::⟨some g3,38,[slv cA2 is2.length cc2,.slice (some ⟨gs,0,none⟩) m sc,dV]⟩::dk gd A n c at4::R) w) ?_ ?_
   ·by_cases q0:(r4:Int)=0
    ·refine gs6b74_ ?_;clear hs hm a;intros;rename_i a hm hs
     refine cMid (fun a w=>∃(r5 at5:Nat)(cA2:Option Nat)(cc2:Nat)(ccs2:List Value),(r5:Int)≤70∧Row cA2 (is.length+1) cc2 5 (is.flatMap inV++[.int .i64 18,.int .i64 0,.int .i64 0,.int .i64 0,.int .i64 (r5:Int)]) ccs2∧Sl Tryz.f48.ntmps [(0,pt gd),(2,pt g2),(3,pt g3)] a∧Mm (own Lb) wS (⟨cA2,54,ccs2⟩::⟨some g3,38,[slv cA2 (is.length+1) cc2,.slice (some ⟨gs,0,none⟩) m sc,dV]⟩::dk gd A n c at5::R) w) ?_ ?_
     ·skip
      refine cDrawT (n:=13) (.s [0,2,3]<| .e [(1,.o 4<| .s [5,6]<| .o 7<| .x<| .t 8<| .o 9<| .o 10<| .x<| .t 11<| .o 12<| .d),(4,.s [5,6]<| .e [(1,.o 7<| .x<| .t 8<| .o 9<| .o 10<| .x<| .t 11<| .o 12<| .d),(7,.x<| .t 8<| .e [(1,.o 9<| .o 10<| .x<| .t 11<| .o 12<| .d),(9,.o 1<| .o 10<| .x<| .t 11<| .o 12<| .d)])])]) [] hm rfl rfl ?_
      clear hm;intro t_ w1_ hm
      repeat' (first|(refine dg6d05_ ?_;clear t_ hs hm a;intros;rename_i a hm hs t_)|refine tE t_ ?_|refine tC ?_ ?_|exact tN|intro t_|(refine oDo (i:=7) hs rfl (Wnt.none rfl) rfl rfl (by exact d_call hs rfl rfl rfl (pl 21 rfl) ((nxt_c gd A n c _ xs ((is.length:Int)+1) _ (h.now (hmB.trans hm) (by repeat(first|exact mH|apply mT))) (by omega) (by omega)))) ?_;clear hs;rintro _ w1 ⟨r5,rfl,b5,a5,k5,hf⟩ a hs;(replace hm:=hm.dkt rep_ k5 hf);(clear hf);replace t_:=tX t_;refine⟨(hm.sub sub_),?_⟩)|(refine oDo (i:=10) hs rfl (Wnt.none rfl) rfl rfl (by exact d_append (A:=cA) (n:=is.length) (c:=cc) hs rfl rfl rfl rfl rfl tab rfl rfl rfl rfl rfl hm mem_ hrw rfl (hm.ro (n:=5) mem_ (cutF_ok rfl)) rfl (by show(is.length+1)*40≤_;omega) (by omega)) ?_;clear hs;rintro _ w1 ⟨cA2,cc2,ccs2,rfl,hrr,hM⟩ a hs;(replace hm:=hM _ rep_);(clear hM);replace t_:=tX t_;refine⟨(hm.sub sub_),?_⟩)|(refine tD t_ ?_;(exact And.intro rfl ⟨r5,a5,cA2,cc2,ccs2,by omega,hrr,(sb_ hs),hm.sub (List.sublist_cons_self _ _)⟩))|fail)
     clear hs hm a
     rintro a w5 ⟨r5,at5,cA2,cc2,ccs2,h70,hrr,hs,hm⟩
     refine gs6b74_ ?_;clear hs hm a;intros;rename_i a hm hs
     refine And.intro rfl ⟨at5,is++[⟨18,0,0,0,(r5:Int)⟩],cA2,cc2,ccs2,?_⟩
     rw[List.length_append,List.length_singleton,List.flatMap_append]
     refine⟨hrr,by omega,fun z hz=>?_,(sb_ hs),hm⟩
     rcases List.mem_append.1 hz with hz|hz
     ·exact hiv z hz
     ·rcases List.mem_singleton.1 hz with rfl;exact in_jmp _ (by omega)
    by_cases q1:(r4:Int)=1
    ·refine gs6b74_ ?_;clear hs hm a;intros;rename_i a hm hs
     refine dv hs (Wnt.none rfl) rfl rfl (d_append (A:=cA) (n:=is.length) (c:=cc) hs rfl rfl rfl rfl rfl tab rfl rfl rfl rfl rfl hm mem_ hrw rfl (hm.ro (n:=5) mem_ (cutF_ok rfl)) rfl (by show(is.length+1)*40≤_;omega) (by omega)) ?_
     clear hs
     rintro _ w3 ⟨cA2,cc2,ccs2,rfl,hrr,hM⟩ a hs
     replace hm:=hM _ rep_
     clear hM
     refine gs6b74_ ?_;clear hs hm a;intros;rename_i a hm hs
     refine And.intro rfl ⟨a4,is++[⟨24,0,0,0,0⟩],cA2,cc2,ccs2,?_⟩
     rw[List.length_append,List.length_singleton,List.flatMap_append]
     refine⟨hrr,by omega,fun z hz=>?_,(sb_ hs),hm.sub (List.sublist_cons_self _ _)⟩
     rcases List.mem_append.1 hz with hz|hz
     ·exact hiv z hz
     ·rcases List.mem_singleton.1 hz with rfl;exact in_rti
    ·refine gs6b74_ ?_;clear hs hm a;intros;rename_i a hm hs
     exact And.intro rfl ⟨a4,is,cA,cc,ccs,hrw,by omega,hiv,(sb_ hs),hm⟩
   clear hs hm a
   rintro a w4 ⟨at4,is2,cA2,cc2,ccs2,hrw2,h63,hiv2,hs,hm⟩
   refine gs6b74_ ?_;clear hs hm a;intros;rename_i a hm hs
   refine cMid (fun a w=>∃(r6 at5:Nat)(cA3:Option Nat)(cc3:Nat)(ccs3:List Value),(r6:Int)<9∧Row cA3 (is2.length+2) cc3 5 (is2.flatMap inV++[.int .i64 1,.int .i64 0,.int .i64 0,.int .i64 0,.int .i64 (r6:Int),.int .i64 23,.int .i64 0,.int .i64 0,.int .i64 0,.int .i64 0]) ccs3∧Sl Tryz.f48.ntmps [(0,pt gd),(2,pt g2),(3,pt g3)] a∧Mm (own Lb) wS (⟨cA3,54,ccs3⟩::⟨some g3,38,[slv cA3 (is2.length+2) cc3,.slice (some ⟨gs,0,none⟩) m sc,dV]⟩::dk gd A n c at5::R) w) ?_ ?_
   ·skip
    refine cDrawT (n:=10) (.s [0,2]<| .e [(1,.o 3<| .x<| .o 4<| .x<| .o 5<| .x<| .o 6<| .o 7<| .x<| .t 8<| .o 9<| .d),(3,.x<| .e [(1,.o 4<| .x<| .o 5<| .x<| .o 6<| .o 7<| .x<| .t 8<| .o 9<| .d),(4,.x<| .e [(1,.o 5<| .x<| .o 6<| .o 7<| .x<| .t 8<| .o 9<| .d),(5,.x<| .e [(1,.o 6<| .o 7<| .x<| .t 8<| .o 9<| .d),(6,.o 1<| .o 7<| .x<| .t 8<| .o 9<| .d)])])])]) [] hm rfl rfl ?_
    clear hm;intro t_ w1_ hm
    repeat' (first|(refine dg6d05_ ?_;clear t_ hs hm a;intros;rename_i a hm hs t_)|refine tE t_ ?_|refine tC ?_ ?_|exact tN|intro t_|(refine oDo (i:=3) hs rfl (Wnt.none rfl) rfl rfl (by exact d_call hs rfl rfl rfl (pl 21 rfl) ((nxt_c gd A n c _ xs 9 _ (h.now (hmB.trans hm) (by repeat(first|exact mH|apply mT))) (by omega) (by omega)))) ?_;clear hs;rintro _ w1 ⟨r6,rfl,b6,a6,k6,hf⟩ a hs;(replace hm:=hm.dkt rep_ k6 hf);(clear hf);replace t_:=tX t_;refine⟨(hm.sub sub_),?_⟩)|(refine oDo (i:=4) hs rfl (Wnt.none rfl) rfl rfl (by exact d_call hs rfl rfl rfl (pl 80 rfl) ((li_c 0 (r6:Int) _))) ?_;clear hs;rintro _ w1 ⟨rfl,hf⟩ a hs;(replace hm:=hm.pu hf);(clear hf);replace t_:=tX t_;refine⟨(hm.sub sub_),?_⟩)|(refine oDo (i:=5) hs rfl (Wnt.none rfl) rfl rfl (by exact d_call hs rfl rfl rfl (pl 81 rfl) ((sys_c 0 _))) ?_;clear hs;rintro _ w1 ⟨rfl,hf⟩ a hs;(replace hm:=hm.pu hf);(clear hf);replace t_:=tX t_;refine⟨(hm.sub sub_),?_⟩)|(refine oDo (i:=7) hs rfl (Wnt.none rfl) rfl rfl (by exact d_append (A:=cA2) (n:=is2.length) (c:=cc2) hs rfl rfl rfl rfl rfl tab rfl rfl rfl rfl rfl hm mem_ hrw2 rfl (hm.ro (n:=10) mem_ (cutF_ok rfl)) rfl (by show(is2.length+2)*40≤_;omega) (by omega)) ?_;clear hs;rintro _ w1 ⟨cA3,cc3,ccs3,rfl,hrr,hM⟩ a hs;(replace hm:=hM _ rep_);(clear hM);replace t_:=tX t_;refine⟨(hm.sub sub_),?_⟩)|(refine tD t_ ?_;(exact And.intro rfl ⟨r6,a6,cA3,cc3,ccs3,by omega,hrr,(sb_ hs),hm.sub (List.sublist_cons_self _ _)⟩))|fail)
   clear hs hm a hrw2
   rintro a w5 ⟨r6,at5,cA3,cc3,ccs3,h69,hrw2,hs,hm⟩
   rw[in_tail]at hrw2
   obtain⟨gc,rfl⟩:=hrw2.some_ (by omega)
   have hiv3:∀i∈is2++([⟨1,0,0,0,(r6:Int)⟩,⟨23,0,0,0,0⟩]:List In),InV i (m:Int):=fun z hz=>by
    rcases List.mem_append.1 hz with hz|hz
    ·exact hiv2 z hz
    ·simp only[List.mem_cons,List.not_mem_nil,or_false]at hz
     rcases hz with rfl|rfl
     ·exact in_li _ _ (by omega) (by omega)
     ·exact in_sys _ (by omega)
   have hl3:(is2++([⟨1,0,0,0,(r6:Int)⟩,⟨23,0,0,0,0⟩]:List In)).length=is2.length+2:=by rw[List.length_append];rfl
   rw[←hl3]at hrw2 hm
   obtain⟨l3,hl3e⟩:∃l3,l3=is2++([⟨1,0,0,0,(r6:Int)⟩,⟨23,0,0,0,0⟩]:List In):=⟨_,rfl⟩
   rw[←hl3e]at hrw2 hm hl3 hiv3
   refine gs6b74_ ?_;clear hs hm a;intros;rename_i a hm hs
   refine cMid (fun a w=>∃l4:List In,1≤l4.length∧l4.length≤64∧(∀i∈l4,InV i (m:Int))∧Row (some gc) l4.length cc3 5 (l4.flatMap inV) ccs3∧Sl Tryz.f48.ntmps [(0,pt gd),(2,pt g2),(3,pt g3)] a∧Mm (own Lb) wS (⟨some gc,54,ccs3⟩::⟨some g3,38,[slv (some gc) l4.length cc3,.slice (some ⟨gs,0,none⟩) m sc,dV]⟩::dk gd A n c at5::R) w) ?_ ?_
   ·by_cases q64:64<l3.length
    ·refine gs6b74_ ?_;clear hs hm a;intros;rename_i a hm hs
     refine toL hm (oneV hs (Wnt.none rfl) rfl rfl (by intro w hm;exact r_sliceTo hs rfl rfl rfl tab rfl rfl rfl (by omega) (by have:=hrw2.le;omega)) ?_)
     clear hs a
     intro a hs
     refine gs6b74_ ?_;clear hs hm a;intros;rename_i a hm hs
     have h64:(l3.take 64).length=64:=by rw[List.length_take];omega
     refine And.intro rfl ⟨l3.take 64,by omega,by omega,fun i hi=>hiv3 i (List.mem_of_mem_take hi),?_⟩
     rw[h64]
     exact⟨hrw2.cut (by omega) rfl (fun e=>by cases e),(sb_ hs),hm⟩
    ·refine gs6b74_ ?_;clear hs hm a;intros;rename_i a hm hs
     exact And.intro rfl ⟨l3,by omega,by omega,hiv3,hrw2,(sb_ hs),hm⟩
   clear hs hm a hrw2 hiv3
   rintro a w6 ⟨l4,h41,h464,hiv4,hrw4,hs,hm⟩
   obtain⟨N,hN⟩:∃N,N=l4.length:=⟨_,rfl⟩
   rw[←hN]at hm hrw4 h41 h464
   refine gs6b74_ ?_;clear hs hm a;intros;rename_i a hm hs
   refine cLoop (X:=JuX) (fun X a w'=>Sl Tryz.f48.ntmps [(0,pt gd),(2,pt g2),(3,pt g3),(101,.int .i64 (N:Int)),(102,.int .i64 (X.k:Int))] a∧Mm (own Lb) wS (⟨some gc,54,X.ccs⟩::⟨some g3,38,[slv (some gc) N cc3,.slice (some ⟨gs,0,none⟩) m sc,dV]⟩::dk gd A n c at5::R) w'∧X.k≤N∧X.l.length=N∧Row (some gc) N cc3 5 (X.l.flatMap inV) X.ccs∧(∀i∈X.l,InV i (m:Int))∧(∀j i,j<X.k→X.l[j]?=some i→jumpB i.op=true→i.m<(N:Int))) (fun X=>N-X.k) ⟨0,l4,ccs3⟩ ⟨(sb_ hs),hm,Nat.zero_le _,hN.symm,hrw4,hiv4,fun j i hj=>absurd hj (Nat.not_lt_zero _)⟩ ?_
   clear hs hm a hrw4 hiv4
   rintro⟨k,l,ccs5⟩ a w7 ⟨hs,hm,hkN,hlN,hrw,hiv,hju⟩
   dsimp only at*
   by_cases hlt:k<N
   ·obtain⟨x,hx⟩:∃x,l[k]?=some x:=⟨l[k],List.getElem?_eq_getElem (by omega)⟩
    have hxk:l[k]=x:=by rw[List.getElem?_eq_getElem (by omega)]at hx;exact Option.some.inj hx
    have hcl:∀j,j<5→∀v,(inV x)[j]?=some v→ccs5[k*5+j]?=some v:=fun j hj v hv=>hrw.get (by rw[flat_get inV 5 inV_len l k j (by omega) hj,hxk];exact hv)
    have hc0:=hcl 0 (by omega) _ rfl
    have hc4:=hcl 4 (by omega) _ rfl
    have hix:=hiv x (List.mem_of_getElem? hx)
    have hjm:=fun w=>jump_c x.op w
    obtain⟨jb,hjb⟩:∃b,jumpB x.op=b:=⟨_,rfl⟩
    rw[hjb]at hjm
    have hio:=hix.op
    have him:=hix.m
    have hrl:=hrw.len
    have hrc:=hrw.le
    obtain⟨bb,hbb⟩:∃bb,bb=(jb&&decide ((N:Int)≤x.m)):=⟨_,rfl⟩
    refine gs6b74_ ?_;clear hs hm a;intros;rename_i a hm hs
    refine cMid (fun a w=>Sl Tryz.f48.ntmps [(0,pt gd),(2,pt g2),(3,pt g3),(101,.int .i64 (N:Int)),(102,.int .i64 (k:Int)),(8,.int .i64 (k:Int)),(123,.bool bb)] a∧Mm (own Lb) wS (⟨some gc,54,ccs5⟩::⟨some g3,38,[slv (some gc) N cc3,.slice (some ⟨gs,0,none⟩) m sc,dV]⟩::dk gd A n c at5::R) w) ?_ ?_
    ·cases jb
     ·have e:bb=false:=hbb
      rw[e]
      clear hbb
      refine cDrawT (n:=19) (.s [0,1,2,3,4,5]<| .o 6<| .x<| .s [7,8,9,10,11,12,13,14,15,16,17,18]<| .d) [⟨some gc,54,ccs5⟩,⟨some g3,38,[slv (some gc) N cc3,.slice (some ⟨gs,0,none⟩) m sc,dV]⟩] hm rfl rfl ?_
      clear hm;intro t_ w1_ hm
      repeat' (first|(refine dg6d05_ ?_;clear t_ hs hm a;intros;rename_i a hm hs t_)|refine tE t_ ?_|refine tC ?_ ?_|exact tN|intro t_|(refine oDo (i:=6) hs rfl (Wnt.none rfl) rfl rfl (by exact d_call hs rfl rfl rfl (pl 68 rfl) ((hjm _))) ?_;clear hs;rintro _ w1 ⟨rfl,hf⟩ a hs;(replace hm:=hm.pu hf);(clear hf);replace t_:=tX t_;refine⟨(hm.sub sub_),?_⟩)|(refine tD t_ ?_;(exact And.intro rfl ⟨(sb_ hs),hm⟩))|fail)
     by_cases hge:(N:Int)≤x.m
     ·have e:bb=true:=by rw[hbb,decide_eq_true hge];rfl
      rw[e]
      clear hbb
      refine cDrawT (n:=19) (.s [0,1,2,3,4,5]<| .o 6<| .x<| .s [7,8,9,10,11,12,13,14,15,16,17,18]<| .d) [⟨some gc,54,ccs5⟩,⟨some g3,38,[slv (some gc) N cc3,.slice (some ⟨gs,0,none⟩) m sc,dV]⟩] hm rfl rfl ?_
      clear hm;intro t_ w1_ hm
      repeat' (first|(refine dg6d05_ ?_;clear t_ hs hm a;intros;rename_i a hm hs t_)|refine tE t_ ?_|refine tC ?_ ?_|exact tN|intro t_|(refine oDo (i:=6) hs rfl (Wnt.none rfl) rfl rfl (by exact d_call hs rfl rfl rfl (pl 68 rfl) ((hjm _))) ?_;clear hs;rintro _ w1 ⟨rfl,hf⟩ a hs;(replace hm:=hm.pu hf);(clear hf);replace t_:=tX t_;refine⟨(hm.sub sub_),?_⟩)|(refine tD t_ ?_;(exact And.intro rfl ⟨(sb_ hs),hm⟩))|fail)
     ·have e:bb=false:=by rw[hbb,decide_eq_false hge];rfl
      rw[e]
      clear hbb
      refine cDrawT (n:=19) (.s [0,1,2,3,4,5]<| .o 6<| .x<| .s [7,8,9,10,11,12,13,14,15,16,17,18]<| .d) [⟨some gc,54,ccs5⟩,⟨some g3,38,[slv (some gc) N cc3,.slice (some ⟨gs,0,none⟩) m sc,dV]⟩] hm rfl rfl ?_
      clear hm;intro t_ w1_ hm
      repeat' (first|(refine dg6d05_ ?_;clear t_ hs hm a;intros;rename_i a hm hs t_)|refine tE t_ ?_|refine tC ?_ ?_|exact tN|intro t_|(refine oDo (i:=6) hs rfl (Wnt.none rfl) rfl rfl (by exact d_call hs rfl rfl rfl (pl 68 rfl) ((hjm _))) ?_;clear hs;rintro _ w1 ⟨rfl,hf⟩ a hs;(replace hm:=hm.pu hf);(clear hf);replace t_:=tX t_;refine⟨(hm.sub sub_),?_⟩)|(refine tD t_ ?_;(exact And.intro rfl ⟨(sb_ hs),hm⟩))|fail)
    clear hs hm a
    rintro a w8 ⟨hs,hm⟩
    cases bb
    ·refine gs6b74_ ?_;clear hs hm a;intros;rename_i a hm hs
     refine⟨⟨k+1,l,ccs5⟩,by dsimp only;omega,?_⟩
     refine⟨(sb_ hs),hm,hlt,hlN,hrw,hiv,ju_next hx (fun e=>?_) hju⟩
     rw[hjb]at e
     rw[e]at hbb
     have:=of_decide_eq_false hbb.symm
     omega
    ·have hbj:jumpB x.op=true∧(N:Int)≤x.m:=by
      cases jb
      ·cases hbb
      ·exact⟨hjb,of_decide_eq_true hbb.symm⟩
     refine gs6b74_ ?_;clear hs hm a;intros;rename_i a hm hs
     refine⟨⟨k+1,l.set k ⟨x.op,x.a,x.b,x.c,0⟩,ccs5.set (k*5+4) (.int .i64 0)⟩,by dsimp only;omega,?_⟩
     refine⟨(sb_ hs),hm,hlt,by rw[List.length_set];exact hlN,?_,fun i hi=>?_,ju_set (by omega) hx rfl hju⟩
     ·rw[←flat_set inV 5 inV_len l k 4 x (.int .i64 0) hx (by omega) ⟨x.op,x.a,x.b,x.c,0⟩ rfl]
      exact hrw.set _ _
     ·rcases List.mem_or_eq_of_mem_set hi with hi|rfl
      ·exact hiv i hi
      ·exact in_zero hix hbj.1
   ·have hkN2:k=N:=by omega
    subst hkN2
    rw[hR,hdV]at hm
    refine gs6b74_ ?_;clear hs hm a;intros;rename_i a hm hs
    have hmT:=hmB.trans hm
    refine gRetN tab hs rfl (.cons (.cells rfl rfl rfl rfl (hm.ro (k:=0) (n:=3) (g:=g2) mem_ (cutF_ok rfl))) .nil) ⟨⟨l,gc,cc3,ss,gs,sc,ws,dA,dc⟩,?_,⟨hss,by rw[hwl];exact hsl.symm,fun r hr=>(hws r hr).2,hfit,by dsimp only;omega,by dsimp only;omega,by dsimp only;rw[hsl];exact hiv,fun i hi hb=>?_,hrow.le⟩,?_,?_,?_⟩
    ·show _=Value.agg #[slv (some gc) l.length cc3,.slice (some ⟨gs,0,none⟩) ss.length sc,slv dA ws.length dc]
     rw[hsl,hlN]
     rfl
    ·obtain⟨j,hj,e⟩:=List.getElem_of_mem hi
     dsimp only at hj
     have h1:=hju j i (by omega) (by rw[List.getElem?_eq_getElem hj,e]) hb
     dsimp only
     rw[hlN]
     exact h1
    ·intro r hr
     change r∈(some gc,l.flatMap inV)::(some gs,ints ss)::(dA,ws.map WS.v)::ws.map (fun r=>(r.A,wds r.xs))at hr
     rcases List.mem_cons.1 hr with rfl|hr
     ·exact hm.rd_row mem_ hrw
     rcases List.mem_cons.1 hr with rfl|hr
     ·exact rdD hm.fr hsr (fun g o e=>by cases e;exact hno)
     rcases List.mem_cons.1 hr with rfl|hr
     ·exact hm.rd_row mem_ hrow
     obtain⟨r0,h0,rfl⟩:=List.mem_map.1 hr
     exact hm.rd_row (t:=23) (List.mem_cons_of_mem _ (List.mem_cons_of_mem _ (List.mem_cons_of_mem _ (List.mem_cons_of_mem _ (List.mem_cons_of_mem _ (List.mem_map_of_mem h0)))))) (hws r0 h0).1
    ·have hmU:=hmT.perm (List.perm_middle (l₁:=([⟨some gc,54,ccs5⟩,⟨some g3,38,[slv (some gc) k cc3,.slice (some ⟨gs,0,none⟩) m sc,slv dA ws.length dc]⟩]:List Hp))).symm
     have key:=Mm.newer hmU rfl
     intro r hr g e
     change r∈(some gc,l.flatMap inV)::(some gs,ints ss)::(dA,ws.map WS.v)::ws.map (fun r=>(r.A,wds r.xs))at hr
     rcases List.mem_cons.1 hr with rfl|hr
     ·exact key ⟨some gc,54,ccs5⟩ mem_ g e
     rcases List.mem_cons.1 hr with rfl|hr
     ·cases e;omega
     rcases List.mem_cons.1 hr with rfl|hr
     ·exact key ⟨dA,74,dcs⟩ mem_ g e
     obtain⟨r0,h0,rfl⟩:=List.mem_map.1 hr
     exact key r0.hp (List.mem_cons_of_mem _ (List.mem_cons_of_mem _ (List.mem_cons_of_mem _ (List.mem_cons_of_mem _ (List.mem_map_of_mem h0))))) g e
    ·exact⟨_,h.now hmT mem_,Dk.out hmT⟩
theorem gpSgi0_{G H:Prop}(k:H)(s:Bx H→G:=by intro k_;(repeat(first|(refine ovR_ ?_;(try clear hs a);intro a hs)|((with_reducible apply lCons);first|(refine dv hs gw_ rfl rfl da_ ?_;(try clear hs hm a);rintro _ w_ ⟨g_,rfl,-,hm⟩ a hs)|(refine stn hs rfl rfl ds_ ?_;(try clear hs hm a);rintro-w_ hm a hs))|refine sc_ ?_));have m_:=hm;have s_:=hs;clear hs;(try clear hm);revert m_ s_ a;(try revert w_);(repeat revert g_);exact k_.h):G:=s ⟨k⟩
theorem gcSgi1_{G H:Prop}(k:H)(s:Bx H→G:=by intro k_;(repeat(first|(refine ovR_ ?_;(try clear hs a);intro a hs)|((with_reducible apply lCons);first|(refine dv hs gw_ rfl rfl da_ ?_;(try clear hs hm a);rintro _ w_ ⟨g_,rfl,-,hm⟩ a hs)|(refine stn hs rfl rfl ds_ ?_;(try clear hs hm a);rintro-w_ hm a hs))|refine sc_ ?_|((with_reducible apply lCons);first|(refine dvc hs hm gw_ rfl rfl rfl rfl rfl (pl 68 rfl) (hjm _) ?_;(try clear hs hm a);intro w_ hm a hs))));(first|(have m_:=hm;have s_:=hs;clear hs;(try clear hm);revert m_ s_ a)|((first|refine rexc_ hs hm ?_|refine rexl_ hs hm ?_|refine rexg_ hs hm ?_|refine rexq_ hs hm ?_);intro a hm hs;revert hm hs a));(try revert w_);(repeat revert g_);exact k_.h):G:=s ⟨k⟩
theorem gpSgi2_{G H:Prop}(k:H)(s:Bx H→G:=by intro k_;(repeat(first|(refine ov6fb2_ ?_;(try clear hs a);intro a hs)|((with_reducible apply lCons);first|(refine dv hs gw_ rfl rfl da_ ?_;(try clear hs hm a);rintro _ w_ ⟨g_,rfl,-,hm⟩ a hs)|(refine stn hs rfl rfl ds_ ?_;(try clear hs hm a);rintro-w_ hm a hs))|refine sc_ ?_));have m_:=hm;have s_:=hs;clear hs;(try clear hm);revert m_ s_ a;(try revert w_);(repeat revert g_);exact k_.h):G:=s ⟨k⟩
theorem gcSgi3_{G H:Prop}(k:H)(s:Bx H→G:=by intro k_;(repeat(first|(refine ovR_ ?_;(try clear hs a);intro a hs)|((with_reducible apply lCons);first|(refine dv hs gw_ rfl rfl da_ ?_;(try clear hs hm a);rintro _ w_ ⟨g_,rfl,-,hm⟩ a hs)|(refine stn hs rfl rfl ds_ ?_;(try clear hs hm a);rintro-w_ hm a hs))|refine sc_ ?_|((with_reducible apply lCons);first|(refine dvc hs hm gw_ rfl rfl rfl rfl rfl (pl 68 rfl) (hv _) ?_;(try clear hs hm a);intro w_ hm a hs))));(first|(have m_:=hm;have s_:=hs;clear hs;(try clear hm);revert m_ s_ a)|((first|refine rexc_ hs hm ?_|refine rexl_ hs hm ?_|refine rexg_ hs hm ?_|refine rexq_ hs hm ?_);intro a hm hs;revert hm hs a));(try revert w_);(repeat revert g_);exact k_.h):G:=s ⟨k⟩
def CV.val(c:CV):Prop:=(c.t=0∨c.t=1∨c.t=2)∧0≤c.v∧c.v≤65535
theorem wval_c(c:CV)(wB:World)(h:c.val):Ret Tryz.prog 70 [.agg #[.int .u8 c.t,.int .u16 c.v]] wB (fun u w'=>u= .bool true∧Pu wB w'):=by
 obtain⟨t,v⟩:=c
 obtain⟨h1,h2⟩:=h
 dsimp only at*
 refine enterR Tryz.func70 rfl rfl rfl fun a hs hm=>?_
 refine gsce98_ ?_;clear hs hm a;intros;rename_i a hm hs
 exact gRet1 hs rfl rfl ⟨rfl,hm.fr⟩
theorem all_c(A:Option Addr)(c:Nat)(l:List CV)(wB:World)(hr:Rd wB wB.heap.size A (cvs l))(h:∀x∈l,x.val)(hn:l.length≤1000000):Ret Tryz.prog 69 [.slice A l.length c] wB (fun u w'=>u= .bool true∧Pu wB w'):=by
 refine enterR Tryz.func69 rfl rfl rfl fun a hs hm=>?_
 refine gsce98_ ?_;clear hs hm a;intros;rename_i a hm hs
 refine cLoop (X:=Nat) (fun k a w'=>Sl Tryz.f69.ntmps [(5,.slice A l.length c),(6,.int .i64 (l.length:Int)),(7,.int .i64 (k:Int))] a∧Mm (fun _=>False) wB [] w'∧k≤l.length) (fun k=>l.length-k) 0 ⟨(sb_ hs),hm,Nat.zero_le _⟩ ?_
 clear hs hm a
 rintro k a w' ⟨hs,hm,hk⟩
 by_cases hlt:k<l.length
 ·obtain⟨b1,o1,hA1,hb1,r1⟩:=hr.ro (by rw[cvs_len];omega)
  subst hA1
  have q1:=r1.flat CV.cs_len hlt
  have hv:=fun w=>wval_c l[k] w (h _ (List.getElem_mem hlt))
  generalize l[k]'(_)=x at*
  obtain⟨t,v⟩:=x
  unfold CV.cs at q1
  dsimp only at*
  repeat(first|(refine gpSgi0_ ?_;clear hs hm a;intros;rename_i a hm hs)|refine sc_ ?_|((with_reducible apply lCons);first|(refine dvc hs hm gw_ rfl rfl rfl rfl rfl (pl 70 rfl) (hv _) ?_;clear hs hm a;intro w hm a hs)))
  exact ze382_
 ·refine gsce98_ ?_;clear hs hm a;intros;rename_i a hm hs
  exact gRet1 hs rfl rfl ⟨rfl,hm.fr⟩
theorem iv_c(i:In)(wB:World)(h:InV i 4)(hj:jumpB i.op=true→i.m<64):Ret Tryz.prog 67 [inA i] wB (fun u w'=>u= .bool true∧Pu wB w'):=by
 have hus:=fun w=>uses_c i.op w
 have hjm:=fun w=>jump_c i.op w
 obtain⟨⟨u1,u2,u3,u4⟩,hu⟩:∃u,usesF i.op=u:=⟨_,rfl⟩
 obtain⟨jb,hjb⟩:∃b,jumpB i.op=b:=⟨_,rfl⟩
 obtain⟨hop,ha,hb,hc,hm',hlea,hsys⟩:=h
 rw[hu]at hus ha hb hc hm'
 rw[hjb]at hj hjm
 unfold u4V at hus
 clear hu hjb
 obtain⟨op,a0,b0,c0,m0⟩:=i
 unfold inA
 dsimp only at*
 refine enterR Tryz.func67 rfl rfl rfl fun a hs hm=>?_
 repeat(first|(refine gpSgi0_ ?_;clear hs hm a;intros;rename_i a hm hs)|refine sc_ ?_|((with_reducible apply lCons);first|(refine dvc hs hm gw_ rfl rfl rfl rfl rfl (pl 97 rfl) (hus _) ?_;clear hs hm a;intro w hm a hs)))
 obtain⟨g1,rfl⟩:=hs.pp 1
 obtain⟨g3,rfl⟩:=hs.pp 3
 obtain⟨g23,rfl⟩:=hs.qq 23
 refine cLoop (X:=Nat) (fun k a w'=>Sl Tryz.f67.ntmps [(1,pt g1),(3,pt g3),(23,.slice (some ⟨g23,0,none⟩) 3 3),(24,.int .i64 3),(25,.int .i64 (k:Int))] a∧Mm (fun _=>False) wB [⟨some g23,3,[.int .i64 a0,.int .i64 b0,.int .i64 c0]⟩,⟨some g3,186,[.bool u1,.bool u2,.bool u3,.bool u4]⟩,⟨some g1,54,[.int .i64 op,.int .i64 a0,.int .i64 b0,.int .i64 c0,.int .i64 m0]⟩] w'∧k≤3) (fun k=>3-k) 0 ⟨(sb_ hs),hm,Nat.zero_le _⟩ ?_
 clear hs hm a
 rintro k a w' ⟨hs,hm,hk⟩
 by_cases hlt:k<3
 ·skip
  by_cases e0:k=0
  ·subst e0
   cases u1
   ·obtain rfl:a0=0:=ha.2.2 rfl
    refine gsce98_ ?_;clear hs hm a;intros;rename_i a hm hs
    exact⟨0+1,by omega,(sb_ hs),hm,by omega⟩
   ·refine gsce98_ ?_;clear hs hm a;intros;rename_i a hm hs
    exact⟨0+1,by omega,(sb_ hs),hm,by omega⟩
  by_cases e1:k=1
  ·subst e1
   cases u2
   ·obtain rfl:b0=0:=hb.2.2 rfl
    refine gsce98_ ?_;clear hs hm a;intros;rename_i a hm hs
    exact⟨1+1,by omega,(sb_ hs),hm,by omega⟩
   ·refine gsce98_ ?_;clear hs hm a;intros;rename_i a hm hs
    exact⟨1+1,by omega,(sb_ hs),hm,by omega⟩
  by_cases e2:k=2
  ·subst e2
   cases u3
   ·obtain rfl:c0=0:=hc.2.2 rfl
    refine gsce98_ ?_;clear hs hm a;intros;rename_i a hm hs
    exact⟨2+1,by omega,(sb_ hs),hm,by omega⟩
   ·refine gsce98_ ?_;clear hs hm a;intros;rename_i a hm hs
    exact⟨2+1,by omega,(sb_ hs),hm,by omega⟩
  omega
 ·obtain rfl:k=3:=by omega
  have fin:(u4=false→m0=0):=hm'.2.2
  cases u4
  ·obtain rfl:m0=0:=fin rfl
   cases jb
   ·by_cases h15:op=15
    ·subst h15
     refine gcSgi1_ ?_;clear hs hm a;intros;rename_i a hm hs
     exact gRet1 hs rfl rfl ⟨rfl,hm.fr⟩
    ·by_cases h23:op=23
     ·subst h23
      refine gcSgi1_ ?_;clear hs hm a;intros;rename_i a hm hs
      exact gRet1 hs rfl rfl ⟨rfl,hm.fr⟩
     ·refine gcSgi1_ ?_;clear hs hm a;intros;rename_i a hm hs
      exact gRet1 hs rfl rfl ⟨rfl,hm.fr⟩
   ·refine gcSgi1_ ?_;clear hs hm a;intros;rename_i a hm hs
    exact gRet1 hs rfl rfl ⟨rfl,hm.fr⟩
  ·cases jb
   ·by_cases h15:op=15
    ·subst h15
     have:=hlea rfl
     refine gcSgi1_ ?_;clear hs hm a;intros;rename_i a hm hs
     exact gRet1 hs rfl rfl ⟨rfl,hm.fr⟩
    ·by_cases h23:op=23
     ·subst h23
      have:=hsys rfl
      refine gcSgi1_ ?_;clear hs hm a;intros;rename_i a hm hs
      exact gRet1 hs rfl rfl ⟨rfl,hm.fr⟩
     ·refine gcSgi1_ ?_;clear hs hm a;intros;rename_i a hm hs
      exact gRet1 hs rfl rfl ⟨rfl,hm.fr⟩
   ·have:=hj rfl
    refine gcSgi1_ ?_;clear hs hm a;intros;rename_i a hm hs
    exact gRet1 hs rfl rfl ⟨rfl,hm.fr⟩
theorem lv_c(A:Option Addr)(n c:Nat)(bs:List Int)(key:Int)(B:Option Addr)(d:Nat)(ss:List Int)(wB:World)(hl:ss.length=n)(hnc:n≤c)(hA:Rd wB wB.heap.size A (ints bs))(hB:Rd wB wB.heap.size B (ints ss))(ho:SzOk ss)(h:LGap bs ss):Ret Tryz.prog 39 [.agg #[.slice A n c,.int .u16 key],.slice B n d] wB (fun u w'=>u= .bool true∧Pu wB w'):=by
 have hvl:=fun w'' (hf:Pu wB w'')=>vld_c B n d ss w'' hl (hf.rd' hB) ho
 obtain⟨o1,o4,obd⟩:=ho
 obtain⟨g1,g2,g3⟩:=h
 rw[hl]at g1
 obtain⟨b1,o1',rfl,hb1,r1⟩:=hA.ro (by rw[ints_len];omega)
 obtain⟨b2,o2',rfl,hb2,r2⟩:=hB.ro (by rw[ints_len];omega)
 have hget:∀j,j<n→∃v s:Int,(ints bs)[j]?=some (.int .i64 v)∧(ints ss)[j]?=some (.int .i64 s)∧bs.getD j 0=v∧ss.getD j 0=s∧0≤v∧v+s≤512∧1≤s∧s≤32:=fun j hj=>by
  have h1:=g2 j (by omega)
  have h2:=obd ss[j] (List.getElem_mem (by omega))
  rw[getI (l:=bs) (by omega),getI (l:=ss) (by omega)]at h1
  exact⟨bs[j],ss[j],ints_some (by omega),ints_some (by omega),getI (by omega),getI (by omega),h1.1,h1.2,h2.1,h2.2⟩
 refine enterR Tryz.func39 rfl rfl rfl fun a hs hm=>?_
 repeat(first|(refine gpSgi2_ ?_;clear hs hm a;intros;rename_i a hm hs)|refine sc_ ?_|((with_reducible apply lCons);first|(refine dvc hs hm gw_ rfl rfl rfl rfl rfl (pl 66 rfl) (hvl _ hm.fr) ?_;clear hs hm a;intro w hm a hs)))
 obtain⟨g2,rfl⟩:=hs.pp 2
 refine cLoop (X:=Nat) (fun k a w'=>Sl Tryz.f39.ntmps [(1,.slice (some ⟨b2,o2',none⟩) n d),(2,pt g2),(21,.slice (some ⟨b1,o1',none⟩) n c),(22,.int .i64 (n:Int)),(23,.int .i64 (k:Int))] a∧Mm (fun _=>False) wB [⟨some g2,25,[.slice (some ⟨b1,o1',none⟩) n c,.int .u16 key]⟩] w'∧k≤n) (fun k=>n-k) 0 ⟨(sb_ hs),hm,Nat.zero_le _⟩ ?_
 clear hs hm a
 rintro k a w' ⟨hs,hm,hk⟩
 by_cases hlt:k<n
 ·obtain⟨v,s,e1,e2,f1,f2,h1,h2,h3,h4⟩:=hget k hlt
  refine gs6b74_ ?_;clear hs hm a;intros;rename_i a hm hs
  refine cLoop (X:=Nat) (fun j a w'=>Sl Tryz.f39.ntmps [(1,.slice (some ⟨b2,o2',none⟩) n d),(2,pt g2),(5,.int .i64 (k:Int)),(6,.int .i64 v),(21,.slice (some ⟨b1,o1',none⟩) n c),(22,.int .i64 (n:Int)),(23,.int .i64 (k:Int)),(42,.slice (some ⟨b1,o1',none⟩) k c),(43,.int .i64 (k:Int)),(44,.int .i64 (j:Int))] a∧Mm (fun _=>False) wB [⟨some g2,25,[.slice (some ⟨b1,o1',none⟩) n c,.int .u16 key]⟩] w'∧j≤k) (fun j=>k-j) 0 ⟨(sb_ hs),hm,Nat.zero_le _⟩ ?_
  clear hs hm a
  rintro j a w2 ⟨hs,hm,hj⟩
  by_cases hjt:j<k
  ·obtain⟨v2,s2,e3,e4,f3,f4,i1,i2,i3,i4⟩:=hget j (by omega)
   have hap:=g3 k j (by omega) (by omega) (by omega)
   rw[f1,f2,f3,f4]at hap
   rcases hap with hap|hap
   ·refine gs6b74_ ?_;clear hs hm a;intros;rename_i a hm hs
    exact⟨j+1,by omega,(sb_ hs),hm,by omega⟩
   ·refine gs6b74_ ?_;clear hs hm a;intros;rename_i a hm hs
    exact⟨j+1,by omega,(sb_ hs),hm,by omega⟩
  ·refine gs6b74_ ?_;clear hs hm a;intros;rename_i a hm hs
   exact z0359_
 ·refine gs6b74_ ?_;clear hs hm a;intros;rename_i a hm hs
  exact gRet1 hs rfl rfl ⟨rfl,hm.fr⟩
structure WV where
 A:Option Addr
 c:Nat
 xs:List Int
def WV.v(r:WV):Value:= .slice r.A r.xs.length r.c
structure PV where
 cA:Option Addr
 cc:Nat
 code:List In
 sA:Option Addr
 sc:Nat
 ss:List Int
 dA:Option Addr
 dc:Nat
 ws:List WV
def PV.v(p:PV):Value:= .agg #[.slice p.cA p.code.length p.cc,.slice p.sA p.ss.length p.sc,.slice p.dA p.ws.length p.dc]
abbrev PV.cl(p:PV)(t:List Value):List Value:= .slice p.cA p.code.length p.cc:: .slice p.sA p.ss.length p.sc:: .slice p.dA p.ws.length p.dc::t
structure PV.ok(p:PV)(w:World):Prop where
 c:Rd w w.heap.size p.cA (p.code.flatMap inV)
 s:Rd w w.heap.size p.sA (ints p.ss)
 d:Rd w w.heap.size p.dA (p.ws.map WV.v)
 dd:∀r∈p.ws,Rd w w.heap.size r.A (wds r.xs)
theorem PV.ok.pu{x:PV}{w w':World}(h:x.ok w)(hf:Pu w w'):x.ok w':=
 ⟨hf.rd' h.c,hf.rd' h.s,hf.rd' h.d,fun y hy=>hf.rd' (h.dd y hy)⟩
class HB where
 h:Int
 ge:0≤h
 le:h≤255
set_option linter.unusedSectionVars false
structure PV.val [HB](p:PV):Prop where
 sz:SzOk p.ss
 wl:p.ws.length=p.ss.length
 fit:∀k (h1:k<p.ws.length) (h2:k<p.ss.length),((p.ws[k]).xs.length:Int)≤p.ss[k]
 bd:∀r∈p.ws,∀y∈r.xs,0≤y∧y≤65535
 c1:1≤p.code.length
 c2:p.code.length≤64
 inv:∀i∈p.code,InV i (p.ss.length:Int)
 ju:∀i∈p.code,jumpB i.op=true→i.m<(p.code.length:Int)
 hb:(p.code.length:Int)≤HB.h+1
theorem chk_c [HB](p:PV)(wB:World)(hx:p.ok wB)(h:p.val):Ret Tryz.prog 38 [p.v] wB (fun u w'=>u= .int .i64 0∧Pu wB w'):=by
 obtain⟨cA,cc,code,sA,sc,ss,dA,dc,ws⟩:=p
 obtain⟨x1,x2,x3,x4⟩:=hx
 obtain⟨sz,wl,fit,bd,c1,c2,inv,ju⟩:=h
 unfold PV.v
 dsimp only at*
 have hvl:=fun w'' (hf:Pu wB w'')=>vld_c sA ss.length sc ss w'' rfl (hf.rd' x2) sz
 obtain⟨s1,s4,sbd⟩:=sz
 obtain⟨b1,o1,rfl,hb1,r1⟩:=x1.ro (by rw[flat_len inV 5 inV_len];omega)
 obtain⟨b2,o2,rfl,hb2,r2⟩:=x2.ro (by rw[ints_len];omega)
 obtain⟨b3,o3,rfl,hb3,r3⟩:=x3.ro (by rw[List.length_map];omega)
 rw[wl]
 refine enterR Tryz.func38 rfl rfl rfl fun a hs hm=>?_
 repeat(first|(refine gpSgi0_ ?_;clear hs hm a;intros;rename_i a hm hs)|refine sc_ ?_|((with_reducible apply lCons);first|(refine dvc hs hm gw_ rfl rfl rfl rfl rfl (pl 66 rfl) (hvl _ hm.fr) ?_;clear hs hm a;intro w hm a hs)))
 obtain⟨g1,rfl⟩:=hs.pp 1
 refine cLoop (X:=Nat) (fun k a w'=>Sl Tryz.f38.ntmps [(1,pt g1),(23,.slice (some ⟨b3,o3,none⟩) ss.length dc),(24,.int .i64 (ss.length:Int)),(25,.int .i64 (k:Int))] a∧Mm (fun _=>False) wB [⟨some g1,38,[.slice (some ⟨b1,o1,none⟩) code.length cc,.slice (some ⟨b2,o2,none⟩) ss.length sc,.slice (some ⟨b3,o3,none⟩) ss.length dc]⟩] w'∧k≤ss.length) (fun k=>ss.length-k) 0 ⟨(sb_ hs),hm,Nat.zero_le _⟩ ?_
 clear hs hm a
 rintro k a w' ⟨hs,hm,hk⟩
 by_cases hlt:k<ss.length
 ·have e1:=ints_some (xs:=ss) (k:=k) (by omega)
  have e2:(ws.map WV.v)[k]?=some (ws[k]'(by omega)).v:=by rw[List.getElem?_map,List.getElem?_eq_getElem (by omega)];rfl
  have e3:=fit k (by omega) hlt
  generalize ss[k]'(_)=sk at*
  generalize ws[k]'(_)=wk at*
  obtain⟨A4,c4,xs4⟩:=wk
  unfold WV.v at e2
  dsimp only at*
  refine gsce98_ ?_;clear hs hm a;intros;rename_i a hm hs
  exact z0359_
 obtain rfl:k=ss.length:=by omega
 refine gsce98_ ?_;clear hs hm a;intros;rename_i a hm hs
 refine cLoop (X:=Nat) (fun k a w'=>Sl Tryz.f38.ntmps [(1,pt g1),(50,.slice (some ⟨b1,o1,none⟩) code.length cc),(51,.int .i64 (code.length:Int)),(52,.int .i64 (k:Int))] a∧Mm (fun _=>False) wB [⟨some g1,38,[.slice (some ⟨b1,o1,none⟩) code.length cc,.slice (some ⟨b2,o2,none⟩) ss.length sc,.slice (some ⟨b3,o3,none⟩) ss.length dc]⟩] w'∧k≤code.length) (fun k=>code.length-k) 0 ⟨(sb_ hs),hm,Nat.zero_le _⟩ ?_
 clear hs hm a
 rintro k a w' ⟨hs,hm,hk⟩
 by_cases hlt:k<code.length
 ·have q1:=r1.flat inV_len hlt
  have hi:InV (code[k]) 4:=by
   have h4:=inv code[k] (List.getElem_mem hlt)
   exact⟨h4.op,h4.a,h4.b,h4.c,h4.m,fun e=>by have:=h4.lea e;omega,h4.sys⟩
  have hv:=fun w=>iv_c code[k] w hi (fun e=>by have:=ju code[k] (List.getElem_mem hlt) e;omega)
  generalize code[k]'(_)=i at*
  obtain⟨op,a0,b0,c0,m0⟩:=i
  unfold inV at q1
  unfold inA at hv
  dsimp only at*
  repeat(first|(refine gpSgi0_ ?_;clear hs hm a;intros;rename_i a hm hs)|refine sc_ ?_|((with_reducible apply lCons);first|(refine dvc hs hm gw_ rfl rfl rfl rfl rfl (pl 67 rfl) (hv _) ?_;clear hs hm a;intro w hm a hs)))
  exact zd36a_
 obtain rfl:k=code.length:=by omega
 refine gsce98_ ?_;clear hs hm a;intros;rename_i a hm hs
 refine cLoop (X:=Nat) (fun k a w'=>Sl Tryz.f38.ntmps [(1,pt g1),(61,.slice (some ⟨b1,o1,none⟩) code.length cc),(62,.int .i64 (code.length:Int)),(63,.int .i64 (k:Int))] a∧Mm (fun _=>False) wB [⟨some g1,38,[.slice (some ⟨b1,o1,none⟩) code.length cc,.slice (some ⟨b2,o2,none⟩) ss.length sc,.slice (some ⟨b3,o3,none⟩) ss.length dc]⟩] w'∧k≤code.length) (fun k=>code.length-k) 0 ⟨(sb_ hs),hm,Nat.zero_le _⟩ ?_
 clear hs hm a
 rintro k a w' ⟨hs,hm,hk⟩
 by_cases hlt:k<code.length
 ·have q1:=r1.flat inV_len hlt
  have h4:=inv code[k] (List.getElem_mem hlt)
  have hj:=ju code[k] (List.getElem_mem hlt)
  have hv:=fun w=>jump_c code[k].op w
  generalize code[k]'(_)=i at*
  obtain⟨op,a0,b0,c0,m0⟩:=i
  unfold inV at q1
  have hlea:=h4.lea
  dsimp only at*
  generalize jumpB op=jb at*
  cases jb
  ·by_cases h15:op=15
   ·subst h15
    have:=hlea rfl
    refine gcSgi3_ ?_;clear hs hm a;intros;rename_i a hm hs
    exact zd36a_
   ·refine gcSgi3_ ?_;clear hs hm a;intros;rename_i a hm hs
    exact zd36a_
  ·have:=hj rfl
   by_cases h15:op=15
   ·subst h15
    have:=hlea rfl
    refine gcSgi3_ ?_;clear hs hm a;intros;rename_i a hm hs
    exact zd36a_
   ·refine gcSgi3_ ?_;clear hs hm a;intros;rename_i a hm hs
    exact zd36a_
 obtain rfl:k=code.length:=by omega
 refine gsce98_ ?_;clear hs hm a;intros;rename_i a hm hs
 exact gRet1 hs rfl rfl ⟨rfl,hm.fr⟩
theorem gpSgj0_{G H:Prop}(k:H)(s:Bx H→G:=by intro k_;(repeat(first|(refine oqde87_ ?_;(try clear hs a);intro a hs)|((with_reducible apply lCons);first|(refine dv hs gw_ rfl rfl da_ ?_;(try clear hs hm a);rintro _ w_ ⟨g_,rfl,-,hm⟩ a hs)|(refine stn hs rfl rfl ds_ ?_;(try clear hs hm a);rintro-w_ hm a hs))|((with_reducible apply qNil);(try clear hm);intro w_ hm)|refine cQ_ ?_|refine sc_ ?_));have m_:=hm;have s_:=hs;clear hs;(try clear hm);revert m_ s_ a;(try revert w_);(repeat revert g_);exact k_.h):G:=s ⟨k⟩
theorem gpSgj1_{G H:Prop}(k:H)(s:Bx H→G:=by intro k_;(repeat(first|(refine ovR_ ?_;(try clear hs a);intro a hs)|((with_reducible apply lCons);first|(refine dv hs gw_ rfl rfl da_ ?_;(try clear hs hm a);rintro _ w_ ⟨g_,rfl,-,hm⟩ a hs)|(refine stn hs rfl rfl ds_ ?_;(try clear hs hm a);rintro-w_ hm a hs))|refine sc_ ?_));have m_:=hm;have s_:=hs;clear hs;(try clear hm);revert m_ s_ a;(try revert w_);(repeat revert g_);exact k_.h):G:=s ⟨k⟩
theorem gpSgj2_{G H:Prop}(k:H)(s:Bx H→G:=by intro k_;(repeat(first|(refine oqR_ ?_;(try clear hs a);intro a hs)|((with_reducible apply lCons);first|(refine dv hs gw_ rfl rfl da_ ?_;(try clear hs hm a);rintro _ w_ ⟨g_,rfl,-,hm⟩ a hs)|(refine stn hs rfl rfl ds_ ?_;(try clear hs hm a);rintro-w_ hm a hs))|((with_reducible apply qNil);(try clear hm);intro w_ hm)|refine cQ_ ?_|refine sc_ ?_));have m_:=hm;have s_:=hs;clear hs;(try clear hm);revert m_ s_ a;(try revert w_);(repeat revert g_);exact k_.h):G:=s ⟨k⟩
structure LnD.val(y:LnD)(i:Nat):Prop where
 free:y.tag=-1→y.d=false∧y.xs=[]
 at_:y.tag≠-1→0≤y.tag∧y.tag<128∧y.tag%4=(i:Int)∧y.xs.length=4
 cv:∀c∈y.xs,c.val
structure ThD.val [HB](y:ThD)(B:Int):Prop where
 st:0≤y.st∧y.st≤4
 n:y.xs.length=8
 pc:0≤y.pc∧y.pc≤255
 cnt:0≤y.cnt∧y.cnt≤B
 han:-1≤y.han∧y.han≤HB.h
 sav:-1≤y.sav∧y.sav≤255
 trp:0≤y.trp∧y.trp≤6
 cod:0≤y.cod∧y.cod≤65535
 cv:∀c∈y.xs,c.val
structure MD.val [HB](m:MD)(ss:List Int)(B:Int):Prop where
 gap:LGap m.bs ss
 key:0≤m.key∧m.key≤65535
 n:m.xs.length=512
 l:m.ls.length=4
 t:m.ts.length=4
 cv:∀c∈m.xs,c.val
 ll:∀i (h:i<m.ls.length),(m.ls[i]).val i
 tt:∀y∈m.ts,y.val B
theorem MD.val.sm [HB]{m:MD}{ss:List Int}{B:Int}(h:m.val ss B)(ho:SzOk ss):m.sm:=by
 refine⟨by have:=h.gap.len;have:=ho.four;omega,by rw[h.n];omega,by rw[h.l];omega,by rw[h.t];omega,fun y hy=>?_,fun y hy=>by rw[(h.tt y hy).n];omega⟩
 obtain⟨i,hi,rfl⟩:=List.mem_iff_getElem.1 hy
 have h1:=h.ll i hi
 by_cases e:m.ls[i].tag=-1
 ·rw[(h1.free e).2];simp
 ·rw[(h1.at_ e).2.2.2];omega
theorem mval_c(A:Option Addr)(c:Nat)(xs:List CV)(L:Option Addr)(d:Nat)(ls:List LnV)(wB:World)(hA:Rd wB wB.heap.size A (cvs xs))(hL:Rd wB wB.heap.size L (ls.flatMap LnV.v))(hll:∀y∈ls,Rd wB wB.heap.size y.A (cvs y.d.xs))(h1:xs.length=512)(h2:ls.length=4)(h3:∀z∈xs,z.val)(h4:∀i (h:i<ls.length),(ls[i]).d.val i):Ret Tryz.prog 40 [.agg #[.slice A xs.length c,.slice L ls.length d]] wB (fun u w'=>u= .bool true∧Pu wB w'):=by
 have k1:=fun w'' (hf:Pu wB w'')=>all_c A c xs w'' (hf.rd' hA) h3 (by omega)
 rw[h1]at k1
 rw[h1,h2]
 obtain⟨b1,o1,rfl,hb1,r1⟩:=hL.ro (by rw[flat_len LnV.v 3 LnV.len];omega)
 refine enterR Tryz.func40 rfl rfl rfl fun a hs hm=>?_
 repeat(first|(refine gpSgj0_ ?_;clear hs hm a;intros;rename_i a hm hs)|refine sc_ ?_|((with_reducible apply lCons);first|(refine dvc hs hm gw_ rfl rfl rfl rfl rfl (pl 69 rfl) (k1 _ hm.fr) ?_;clear hs hm a;intro w hm a hs))|((with_reducible apply qCons);first|(refine qwc hs gw_ rfl rfl rfl rfl rfl (pl 69 rfl) (fun w hm=>k1 _ hm.fr) ?_;clear hs a;intro a hs)))
 obtain⟨g1,rfl⟩:=hs.pp 1
 refine cLoop (X:=Nat) (fun k a w'=>Sl Tryz.f40.ntmps [(1,pt g1),(22,.slice (some ⟨b1,o1,none⟩) 4 d),(23,.int .i64 4),(24,.int .i64 (k:Int))] a∧Mm (fun _=>False) wB [] w'∧k≤4) (fun k=>4-k) 0 ⟨(sb_ hs),hm.sub (List.nil_sublist _),Nat.zero_le _⟩ ?_
 clear hs hm a
 rintro k a w' ⟨hs,hm,hk⟩
 by_cases hlt:k<4
 ·have q1:=r1.flat LnV.len (show k<ls.length by omega)
  have hv:=h4 k (by omega)
  have hr:=hll (ls[k]'(by omega)) (List.getElem_mem _)
  generalize ls[k]'(_)=y at*
  obtain⟨A2,c2,tag,dt,ys⟩:=y
  obtain⟨f1,f2,f3⟩:=hv
  unfold LnV.v at q1
  dsimp only at*
  by_cases e:tag=-1
  ·subst e
   obtain⟨rfl,rfl⟩:=f1 rfl
   refine gsac6a_ ?_;clear hs hm a;intros;rename_i a hm hs
   exact ze382_
  ·obtain⟨t1,t2,t3,t4⟩:=f2 e
   have k2:=fun w'' (hf:Pu wB w'')=>all_c A2 c2 ys w'' (hf.rd' hr) f3 (by omega)
   rw[t4]at k2 q1
   repeat(first|(refine gpSgj0_ ?_;clear hs hm a;intros;rename_i a hm hs)|refine sc_ ?_|((with_reducible apply lCons);first|(refine dvc hs hm gw_ rfl rfl rfl rfl rfl (pl 69 rfl) (k2 _ hm.fr) ?_;clear hs hm a;intro w hm a hs))|((with_reducible apply qCons);first|(refine qwc hs gw_ rfl rfl rfl rfl rfl (pl 69 rfl) (fun w hm=>k2 _ hm.fr) ?_;clear hs a;intro a hs)))
   exact ze382_
 ·refine gsac6a_ ?_;clear hs hm a;intros;rename_i a hm hs
  exact gRet1 hs rfl rfl ⟨rfl,hm.fr⟩
theorem tval_c [HB](A:Option Addr)(c:Nat)(t:ThD)(B:Int)(wB:World)(hA:Rd wB wB.heap.size A (cvs t.xs))(h:t.val B)(hB:B≤1099511627776):Ret Tryz.prog 41 [.agg (ThV.v ⟨A,c,t⟩).toArray] wB (fun u w'=>u= .bool true∧Pu wB w'):=by
 have hbl:=HB.le
 obtain⟨st,xs,pc,cnt,han,sav,trp,cod⟩:=t
 obtain⟨h1,h2,h3,h4,h5,h6,h7,h9,h8⟩:=h
 unfold ThV.v
 dsimp only at*
 obtain⟨b1,o1,rfl,hb1,r1⟩:=hA.ro (by rw[cvs_len];omega)
 rw[h2]
 refine enterR Tryz.func41 rfl rfl rfl fun a hs hm=>?_
 refine gsce98_ ?_;clear hs hm a;intros;rename_i a hm hs
 obtain⟨g1,rfl⟩:=hs.pp 1
 refine cLoop (X:=Nat) (fun k a w'=>Sl Tryz.f41.ntmps [(1,pt g1),(6,.slice (some ⟨b1,o1,none⟩) 8 c),(7,.int .i64 8),(8,.int .i64 (k:Int))] a∧Mm (fun _=>False) wB [⟨some g1,52,[.int .i64 st,.slice (some ⟨b1,o1,none⟩) 8 c,.int .i64 pc,.int .i64 cnt,.int .i64 han,.int .i64 sav,.int .i64 trp,.int .u16 cod]⟩] w'∧k≤8) (fun k=>8-k) 0 ⟨(sb_ hs),hm,Nat.zero_le _⟩ ?_
 clear hs hm a
 rintro k a w' ⟨hs,hm,hk⟩
 by_cases hlt:k<8
 ·have q1:=r1.flat CV.cs_len (show k<xs.length by omega)
  have hv:=fun w=>wval_c (xs[k]'(by omega)) w (h8 _ (List.getElem_mem _))
  generalize xs[k]'(_)=x at*
  obtain⟨t,v⟩:=x
  unfold CV.cs at q1
  dsimp only at*
  repeat(first|(refine gpSgj1_ ?_;clear hs hm a;intros;rename_i a hm hs)|refine sc_ ?_|((with_reducible apply lCons);first|(refine dvc hs hm gw_ rfl rfl rfl rfl rfl (pl 70 rfl) (hv _) ?_;clear hs hm a;intro w hm a hs)))
  exact zd36a_
 ·refine gsce98_ ?_;clear hs hm a;intros;rename_i a hm hs
  simp only[List.append_eq,List.cons_append,List.nil_append]
  refine gsce98_ ?_;clear hs hm a;intros;rename_i a hm hs
  exact gRet1 hs rfl rfl ⟨rfl,hm.fr⟩
theorem xval_c [HB](p:PV)(x:MV)(B:Int)(wB:World)(hp:p.ok wB)(hpv:p.val)(hx:x.ok wB)(h:x.d.val p.ss B)(hcap:x.bs.length≤x.bc)(hB:B≤1099511627776):Ret Tryz.prog 27 [p.v,x.v] wB (fun u w'=>u= .bool true∧Pu wB w'):=by
 have hb:=h.gap.len
 have ht:x.ts.length=4:=by have:=h.t;unfold MV.d at this;dsimp only at this;rwa[List.length_map]at this
 have hl4:x.ls.length=4:=by have:=h.l;unfold MV.d at this;dsimp only at this;rwa[List.length_map]at this
 have k1:=fun w'' (hf:Pu wB w'')=>chk_c p w'' (hp.pu hf) hpv
 have k2:=fun w'' (hf:Pu wB w'')=>lv_c x.bA x.bs.length x.bc x.bs x.key p.sA p.sc p.ss w'' h.gap.len.symm hcap (hf.rd' hx.b) (hf.rd' hp.s) hpv.sz h.gap
 have k3:=fun w'' (hf:Pu wB w'')=>mval_c x.cA x.cc x.xs x.lA x.lc x.ls w'' (hf.rd' hx.c) (hf.rd' hx.l) (fun y hy=>hf.rd' (hx.ll y hy)) h.n hl4 h.cv (fun i hi=>by
  have:=h.ll i (by unfold MV.d;dsimp only;rw[List.length_map];exact hi)
  unfold MV.d at this
  dsimp only at this
  rwa[List.getElem_map]at this)
 have hbl:x.bs.length=p.ss.length:=hb
 rw[hbl]at k2
 unfold MV.v
 rw[hbl,ht]
 unfold PV.v at*
 obtain⟨b1,o1,hA1,hb1,r1⟩:=hx.t.ro (by rw[flat_len ThV.v 8 ThV.len];omega)
 rw[hA1]
 refine enterR Tryz.func27 rfl rfl rfl fun a hs hm=>?_
 repeat(first|(refine gpSgj2_ ?_;clear hs hm a;intros;rename_i a hm hs)|refine sc_ ?_|((with_reducible apply lCons);first|(refine dvc hs hm gw_ rfl rfl rfl rfl rfl (pl 38 rfl) (k1 _ hm.fr) ?_;clear hs hm a;intro w hm a hs)|(refine dvc hs hm gw_ rfl rfl rfl rfl rfl (pl 39 rfl) (k2 _ hm.fr) ?_;clear hs hm a;intro w hm a hs)|(refine dvc hs hm gw_ rfl rfl rfl rfl rfl (pl 40 rfl) (k3 _ hm.fr) ?_;clear hs hm a;intro w hm a hs))|((with_reducible apply qCons);first|(refine qwc hs gw_ rfl rfl rfl rfl rfl (pl 38 rfl) (fun w hm=>k1 _ hm.fr) ?_;clear hs a;intro a hs)|(refine qwc hs gw_ rfl rfl rfl rfl rfl (pl 39 rfl) (fun w hm=>k2 _ hm.fr) ?_;clear hs a;intro a hs)|(refine qwc hs gw_ rfl rfl rfl rfl rfl (pl 40 rfl) (fun w hm=>k3 _ hm.fr) ?_;clear hs a;intro a hs)))
 refine cLoop (X:=Nat) (fun k a w'=>Sl Tryz.f27.ntmps [(31,.slice (some ⟨b1,o1,none⟩) 4 x.tc),(32,.int .i64 4),(33,.int .i64 (k:Int))] a∧Mm (fun _=>False) wB [] w'∧k≤4) (fun k=>4-k) 0 ⟨(sb_ hs),hm.sub (List.nil_sublist _),Nat.zero_le _⟩ ?_
 clear hs hm a
 rintro k a w' ⟨hs,hm,hk⟩
 by_cases hlt:k<4
 ·have q1:=r1.flat ThV.len (show k<x.ts.length by omega)
  have hv:((x.ts[k]'(by omega)).d).val B:=h.tt _ (List.mem_map.2 ⟨_,List.getElem_mem _,rfl⟩)
  have hr:=hx.tt (x.ts[k]'(by omega)) (List.getElem_mem _)
  generalize x.ts[k]'(_)=y at*
  have k4:=fun w'' (hf:Pu wB w'')=>tval_c y.A y.c y.d B w'' (hf.rd' hr) hv hB
  obtain⟨A2,c2,st,ys,pc,cnt,han,sav,trp,cod⟩:=y
  unfold ThV.v at q1 k4
  dsimp only at*
  repeat(first|(refine gpSgj1_ ?_;clear hs hm a;intros;rename_i a hm hs)|refine sc_ ?_|((with_reducible apply lCons);first|(refine dvc hs hm gw_ rfl rfl rfl rfl rfl (pl 41 rfl) (k4 _ hm.fr) ?_;clear hs hm a;intro w hm a hs)))
  exact ze382_
 ·refine gsce98_ ?_;clear hs hm a;intros;rename_i a hm hs
  exact gRet1 hs rfl rfl ⟨rfl,hm.fr⟩
structure MqX where
 rs:List LnO
 lA:Option Nat
 lc:Nat
 lcs:List Value
theorem ln_perm{S:Nat→Prop}{w0 w:World}{L:List Hp}{rs:List LnO}{r:LnO}(hm:Mm S w0 (r.hp::(L++rs.map LnO.hp)) w):Mm S w0 (L++(rs++[r]).map LnO.hp) w:=by
 refine hm.perm ?_
 rw[List.map_append,←List.append_assoc]
 exact List.perm_append_comm (l₁:=L++rs.map LnO.hp) (l₂:=[r.hp])
theorem ln_snoc(rs:List LnO)(r:LnO):rs.flatMap LnO.v++r.v=(rs++[r]).flatMap LnO.v:=by rw[List.flatMap_append,List.flatMap_singleton]
theorem ln_take{rs:List LnO}{ls:List LnV}{r:LnO}(h:rs.map LnO.d=(ls.take rs.length).map LnV.d)(hl:rs.length<ls.length)(hr:r.d=(ls[rs.length]).d):(rs++[r]).map LnO.d=(ls.take (rs++[r]).length).map LnV.d:=by
 rw[List.map_append,h,List.length_append,List.length_singleton,List.take_succ_eq_append_getElem hl,List.map_append]
 simp[hr]
theorem mcp_c(x:MV)(wB:World)(hx:x.ok wB)(hsm:x.d.sm):Ret Tryz.prog 29 [x.me] wB (fun u w'=>∃y:MeO,u=y.v∧y.ok∧y.d=(x.xs,x.ls.map LnV.d)∧New wB w' y.hps∧Pu wB w'):=by
 have hc1:x.xs.length≤1000:=hsm.c
 have hl1:x.ls.length≤1000:=by have:=hsm.l;unfold MV.d at this;dsimp only at this;rwa[List.length_map]at this
 unfold MV.me
 refine enterR Tryz.func29 rfl rfl rfl fun a hs hm=>?_
 refine gsc5af_ ?_;clear hs hm a;intros;rename_i a hm hs
 obtain⟨g1,rfl⟩:=hs.pp 1
 obtain⟨g2,rfl⟩:=hs.pp 2
 refine dv hs (Wnt.none rfl) rfl rfl (d_appendS (A:=none) (n:=0) (c:=0) (xs:=[]) (news:=cvs x.xs) hs rfl rfl rfl rfl tab rfl rfl rfl rfl rfl (hm.zero 103) mem_ (Row.empty 2) (cvs_len _) (hm.fr.rd' hx.c) (cvs_one _) (by show(0+x.xs.length)*4≤_;omega) (by omega)) ?_
 clear hs
 rintro _ w2 ⟨cA,cc,ccs,rfl,hcr,hM⟩ a hs
 replace hm:=hM _ rep_
 clear hM
 rw[Nat.zero_add,List.nil_append]at hcr
 rw[Nat.zero_add]at hs
 refine gsc5af_ ?_;clear hs hm a;intros;rename_i a hm hs
 obtain⟨g3,rfl⟩:=hs.pp 3
 replace hm:=(hm.zero 61).sel (M':=[⟨some g3,29,[slv cA x.xs.length cc,nS]⟩,⟨cA,103,ccs⟩,⟨none,61,[]⟩,⟨some g2,29,[nS,nS]⟩]) [1,2,0,3] (by decide) rfl
 refine cLoop (X:=MqX) (fun X a w'=>X.rs.length≤x.ls.length∧Sl Tryz.f29.ntmps [(2,pt g2),(3,pt g3),(11,.slice x.lA x.ls.length x.lc),(12,.int .i64 (x.ls.length:Int)),(13,.int .i64 (X.rs.length:Int))] a∧Mm (fun _=>False) wB ([⟨some g3,29,[slv cA x.xs.length cc,slv X.lA X.rs.length X.lc]⟩,⟨cA,103,ccs⟩,⟨X.lA,61,X.lcs⟩,⟨some g2,29,[nS,nS]⟩]++X.rs.map LnO.hp) w'∧Row X.lA X.rs.length X.lc 3 (X.rs.flatMap LnO.v) X.lcs∧X.rs.map LnO.d=(x.ls.take X.rs.length).map LnV.d∧∀r∈X.rs,r.ok) (fun X=>x.ls.length-X.rs.length) ⟨[],none,0,[]⟩ ⟨Nat.zero_le _,(sb_ hs),hm,Row.empty 3,rfl,fun r hr=>by cases hr⟩ ?_
 clear hs hm a
 rintro⟨rs,lA,lc,lcs⟩ a w' ⟨hlen,hs,hm,hlr,hab,hok⟩
 dsimp only at hlen hs hm hlr hab hok
 by_cases hlt:rs.length<x.ls.length
 ·obtain⟨b1,o1,hA,hb1,r1⟩:=hx.l.ro (by rw[flat_len LnV.v 3 LnV.len];omega)
  obtain⟨q,hq⟩:∃q,x.ls[rs.length]=q:=⟨_,rfl⟩
  have hqm:q∈x.ls:=by rw[←hq];exact List.getElem_mem hlt
  have r2:=r1.flat LnV.len hlt
  rw[hq]at r2
  unfold LnV.v at r2
  have hqr:=hx.ll q hqm
  have hqn:q.d.xs.length≤1000:=hsm.ll q.d (List.mem_map.2 ⟨q,hqm,rfl⟩)
  rw[hA]at hs
  refine gsc5af_ ?_;clear hs hm a;intros;rename_i a hm hs
  obtain⟨g5,rfl⟩:=hs.pp 5
  refine dv hs (Wnt.none rfl) rfl rfl (d_appendS (A:=none) (n:=0) (c:=0) (xs:=[]) (news:=cvs q.d.xs) hs rfl rfl rfl rfl tab rfl rfl rfl rfl rfl (hm.zero 103) mem_ (Row.empty 2) (cvs_len _) (hm.fr.rd' hqr) (cvs_one _) (by show(0+q.d.xs.length)*4≤_;omega) (by omega)) ?_
  clear hs
  rintro _ w3 ⟨rA,rc,rcs,rfl,hrr,hM⟩ a hs
  replace hm:=hM _ rep_
  clear hM
  rw[Nat.zero_add,List.nil_append]at hrr
  rw[Nat.zero_add]at hs
  obtain⟨r,hr⟩:∃r:LnO,r=⟨rA,rc,rcs,q.d⟩:=⟨_,rfl⟩
  have hrv:r.v=[.int .i64 q.d.tag,.bool q.d.d,slv rA q.d.xs.length rc]:=by rw[hr];rfl
  have hro:r.ok:=by rw[hr];exact hrr
  have hrd:r.d=q.d:=by rw[hr]
  have hrh:r.hp=⟨rA,103,rcs⟩:=by rw[hr];rfl
  refine gsc5af_ ?_;clear hs hm a;intros;rename_i a hm hs
  refine dv hs (Wnt.none rfl) rfl rfl (d_append (A:=lA) (n:=rs.length) (c:=lc) (news:=[.int .i64 q.d.tag,.bool q.d.d,slv rA q.d.xs.length rc]) hs rfl rfl rfl rfl rfl tab rfl rfl rfl rfl rfl hm mem_ hlr rfl (hm.ro (n:=3) mem_ (cutF_ok rfl)) rfl (by show(rs.length+1)*40≤_;omega) (by omega)) ?_
  clear hs
  rintro _ w4 ⟨lA2,lc2,lcs2,rfl,hlr2,hM⟩ a hs
  replace hm:=hM _ rep_
  clear hM
  rw[←hrv,ln_snoc]at hlr2
  refine gsc5af_ ?_;clear hs hm a;intros;rename_i a hm hs
  rw[←hrh]at hm
  rw[←hA]at hs
  replace hm:=hm.sub (List.Sublist.cons _ (List.Sublist.cons_cons _ (List.Sublist.cons _ (List.Sublist.refl _))))
  refine⟨⟨rs++[r],lA2,lc2,lcs2⟩,by dsimp only;rw[List.length_append,List.length_singleton];omega,by dsimp only;rw[List.length_append,List.length_singleton];omega,?_,?_,?_,ln_take hab hlt (by rw[hrd,hq]),?_⟩
  ·dsimp only
   rw[List.length_append,List.length_singleton]
   exact(sb_ hs)
  ·dsimp only
   rw[List.length_append,List.length_singleton]
   exact ln_perm hm
  ·dsimp only
   rw[List.length_append,List.length_singleton]
   exact hlr2
  ·intro z hz
   rcases List.mem_append.1 hz with hz|hz
   ·exact hok z hz
   ·rcases List.mem_singleton.1 hz with rfl;exact hro
 ·have hln:rs.length=x.ls.length:=by omega
  refine gsc5af_ ?_;clear hs hm a;intros;rename_i a hm hs
  rw[hln,List.take_length]at hab
  refine gRetN tab hs rfl (.cons (.cells rfl rfl rfl rfl (hm.ro (k:=0) (n:=2) (g:=g2) mem_ (cutF_ok rfl))) .nil) ⟨⟨cA,cc,ccs,x.xs,lA,lc,lcs,rs⟩,rfl,⟨hcr,hlr,hok⟩,by unfold MeO.d;dsimp only;rw[hab],hm.new ?_,hm.fr⟩
  unfold MeO.hps
  dsimp only
  exact zbd11_
structure RW where
 A:Option Nat
 c:Nat
 cs:List Value
 xs:List Int
def RW.hp(r:RW):Hp:=⟨r.A,3,r.cs⟩
def RW.v(r:RW):Value:=slv r.A r.xs.length r.c
def RW.ok(r:RW):Prop:=Row r.A r.xs.length r.c 1 (ints r.xs) r.cs
def RW.is(r:RW):IS:=⟨r.A.map fun g=>⟨g,0,none⟩,r.xs.length,r.c,r.xs⟩
theorem RW.is_v(r:RW):r.is.v=r.v:=rfl
structure KS where
 o:IS
 qA:Option Addr
 qc:Nat
 qs:List IS
def KS.v(x:KS):Value:= .agg #[x.o.v,.slice x.qA x.qs.length x.qc]
structure KS.sm(x:KS):Prop where
 o:x.o.n≤1000
 q:x.qs.length≤1000
 qs:∀q∈x.qs,q.n≤1000
def IS.blk(b:IS)(g:Nat):Prop:=b.xs≠ []∧∃o,b.A=some ⟨g,o,none⟩
def KS.blk(x:KS)(g:Nat):Prop:=x.o.blk g∨(x.qs≠ []∧∃o,x.qA=some ⟨g,o,none⟩)∨∃q∈x.qs,q.blk g
structure KS.ok(x:KS)(w:World):Prop where
 o:x.o.ok w
 q:Rd w w.heap.size x.qA (x.qs.map IS.v)
 qs:∀q∈x.qs,q.ok w
theorem rdV{S:Nat→Prop}{w w':World}{A:Option Addr}{vs:List Value}(hf:Fr S w w')(h:Rd w w.heap.size A vs)(hn:vs≠ []→∀g o,A=some ⟨g,o,none⟩→¬S g):Rd w' w'.heap.size A vs:=fun h0=>rdD hf h (hn (by rintro rfl;exact absurd h0 (by simp))) h0
theorem IS.ok.keep{S:Nat→Prop}{b:IS}{w w':World}(h:b.ok w)(hf:Fr S w w')(hn:∀g,b.blk g→¬S g):b.ok w':=
 ⟨h.1,rdN hf h.2 fun h0 g o e=>hn g ⟨h0,o,e⟩⟩
theorem KS.ok.keep{S:Nat→Prop}{x:KS}{w w':World}(h:x.ok w)(hf:Fr S w w')(hn:∀g,x.blk g→¬S g):x.ok w':=
 ⟨h.o.keep hf fun g hg=>hn g (.inl hg),rdV hf h.q fun h0 g o e=>hn g (.inr (.inl ⟨by intro e;apply h0;rw[e];rfl,o,e⟩)),fun q hq=>(h.qs q hq).keep hf fun g hg=>hn g (.inr (.inr ⟨q,hq,hg⟩))⟩
theorem KS.ok.pu{x:KS}{w w':World}(h:x.ok w)(hf:Pu w w'):x.ok w':=h.keep hf fun _ _ t=>t
theorem IS.blk.lt{b:IS}{g:Nat}{w:World}(h:b.ok w)(hg:b.blk g):g<w.heap.size:=by
 obtain⟨h0,o,e⟩:=hg
 obtain⟨b',o',e',hb,_⟩:=h.2.ro (by rw[ints_len];exact List.length_pos_iff.2 h0)
 rw[e]at e';cases e';exact hb
theorem KS.ok.lt{x:KS}{g:Nat}{w:World}(h:x.ok w)(hg:x.blk g):g<w.heap.size:=by
 rcases hg with hg|⟨h0,o,e⟩|⟨q,hq,hg⟩
 ·exact hg.lt h.o
 ·obtain⟨b',o',e',hb,_⟩:=h.q.ro (by rw[List.length_map];exact List.length_pos_iff.2 h0)
  rw[e]at e';cases e';exact hb
 ·exact hg.lt (h.qs q hq)
def KS.no(x:KS)(M:List Hp):Prop:=∀g,x.blk g→¬own M g
def KS.new(x:KS)(n:Nat):Prop:=∀g,x.blk g→n≤g
theorem KS.ok.own{x:KS}{w w':World}{M M':List Hp}(h:x.ok w)(hn:x.no M)(hm:Mm (own M) w M' w'):x.ok w':=h.keep hm.fr hn
theorem KS.no.grow{x:KS}{w w':World}{M M':List Hp}(hn:x.no M)(h:x.ok w)(hm:Mm (own M) w M' w'):x.no M':=fun g hg ⟨z,hz,e⟩=>by
 rcases hm.ow z hz g e with h1|h1
 ·have:=h.lt hg;omega
 ·exact hn g hg h1
theorem KS.new.no{S:Nat→Prop}{x:KS}{w0 w:World}{M:List Hp}(h:x.new w.heap.size)(hm:Mm S w0 M w):x.no M:=fun g hg ho=>by
 obtain⟨z,hz,e⟩:=ho
 have:=Hp.lt (hm.me z hz) e
 have:=h g hg
 omega
structure Ab where
 os:List Int
 qs:List (List Int)
def KS.ab(x:KS):Ab:=⟨x.o.xs,x.qs.map IS.xs⟩
structure KO where
 o:RW
 qA:Option Nat
 qc:Nat
 qcs:List Value
 rs:List RW
def KO.v(y:KO):Value:= .agg #[y.o.v,slv y.qA y.rs.length y.qc]
def KO.hps(y:KO):List Hp:=⟨y.qA,22,y.qcs⟩::y.o.hp::y.rs.map RW.hp
structure KO.ok(y:KO):Prop where
 o:y.o.ok
 q:Row y.qA y.rs.length y.qc 1 (y.rs.map RW.v) y.qcs
 rs:∀r∈y.rs,r.ok
def KO.ab(y:KO):Ab:=⟨y.o.xs,y.rs.map RW.xs⟩
theorem RW.ok_is{S:Nat→Prop}{w0 w:World}{M:List Hp}{r:RW}(hm:Mm S w0 M w)(hM:r.hp∈M)(h:r.ok):r.is.ok w:=⟨rfl,hm.rd_row hM h⟩
theorem cln_c(A:Option Addr)(n c:Nat)(vs:List Value)(w:World)(hl:vs.length=n)(hr:Rd w w.heap.size A vs)(h1:vs.all (·.oneCell')=true)(hn:n≤1000000):
  Ret Tryz.prog 64 [.slice A n c] w (fun u w'=>∃(A':Option Nat)(c':Nat)(cs':List Value),u=slv A' n c'∧Row A' n c' 1 vs cs'∧New w w' [⟨A',3,cs'⟩]∧Pu w w'):=by
 cases hA:A with
 |none=>
  subst hA
  have hv:=hr.none_nil
  subst hv
  obtain rfl:n=0:=hl.symm
  refine enterR Tryz.func64 rfl rfl rfl fun a hs hm=>?_
  refine gsce98_ ?_;clear hs hm a;intros;rename_i a hm hs
  exact gRet1 hs rfl rfl ⟨none,0,[],rfl,Row.empty 1,New.none_ _ _ _,hm.fr⟩
 |some p=>
  subst hA
  refine enterR Tryz.func64 rfl rfl rfl fun a hs hm=>?_
  refine gsce98_ ?_;clear hs hm a;intros;rename_i a hm hs
  obtain⟨g5,rfl⟩:=hs.qq 5
  refine dv hs (Wnt.none rfl) rfl rfl (d_appendS (A:=some g5) (n:=0) (c:=0) (xs:=[]) (news:=vs) hs rfl rfl rfl rfl tab rfl rfl rfl rfl rfl hm mem_ (Row.room0 g5 1) (by rw[hl];exact(Nat.mul_one n).symm) (hm.fr.rd' hr) h1 (by show(0+n)*8≤_;omega) (by omega)) ?_
  clear hs
  rintro _ w2 ⟨A',c',cs',rfl,hr2,hM⟩ a hs
  replace hm:=hM _ rep_
  clear hM
  rw[Nat.zero_add,List.nil_append]at hr2
  rw[Nat.zero_add]at hs
  refine gsce98_ ?_;clear hs hm a;intros;rename_i a hm hs
  exact gRet1 hs rfl rfl ⟨A',c',cs',rfl,hr2,hm.new (List.Sublist.refl _),hm.fr⟩
theorem ints_one(xs:List Int):(ints xs).all (·.oneCell')=true:=by
 rw[List.all_eq_true]
 intro v hv
 obtain⟨q,_,rfl⟩:=List.mem_map.1 hv
 rfl
theorem take_snoc_xs{rs:List RW}{qs:List IS}{r:RW}(h:rs.map RW.xs=(qs.take rs.length).map IS.xs)(hl:rs.length<qs.length)(hr:r.xs=(qs[rs.length]).xs):(rs++[r]).map RW.xs=(qs.take (rs++[r]).length).map IS.xs:=by
 rw[List.map_append,h,List.length_append,List.length_singleton,List.take_succ_eq_append_getElem hl,List.map_append]
 simp[hr]
theorem cp_perm{S:Nat→Prop}{w0 w:World}{L:List Hp}{rs:List RW}{r:RW}(hm:Mm S w0 (r.hp::(L++rs.map RW.hp)) w):Mm S w0 (L++(rs++[r]).map RW.hp) w:=by
 refine hm.perm ?_
 rw[List.map_append,←List.append_assoc]
 exact List.perm_append_comm (l₁:=L++rs.map RW.hp) (l₂:=[r.hp])
structure MtX where
 rs:List ThO
 tA:Option Nat
 tc:Nat
 tcs:List Value
theorem th_perm{S:Nat→Prop}{w0 w:World}{L:List Hp}{rs:List ThO}{r:ThO}(hm:Mm S w0 (r.hp::(L++rs.map ThO.hp)) w):Mm S w0 (L++(rs++[r]).map ThO.hp) w:=by
 refine hm.perm ?_
 rw[List.map_append,←List.append_assoc]
 exact List.perm_append_comm (l₁:=L++rs.map ThO.hp) (l₂:=[r.hp])
theorem th_snoc(rs:List ThO)(r:ThO):rs.flatMap ThO.v++r.v=(rs++[r]).flatMap ThO.v:=by rw[List.flatMap_append,List.flatMap_singleton]
theorem th_take{rs:List ThO}{ls:List ThV}{r:ThO}(h:rs.map ThO.d=(ls.take rs.length).map ThV.d)(hl:rs.length<ls.length)(hr:r.d=(ls[rs.length]).d):(rs++[r]).map ThO.d=(ls.take (rs++[r]).length).map ThV.d:=by
 rw[List.map_append,h,List.length_append,List.length_singleton,List.take_succ_eq_append_getElem hl,List.map_append]
 simp[hr]
theorem gainE{S:Nat→Prop}{w0 w w':World}{M R:List Hp}(hm:Mm S w0 M w)(hf:Pu w w')(hN:New w w' R):Mm S w0 (M++R) w':=(hm.gain hf hN).perm List.perm_append_comm
theorem rcp_c(x:MV)(wB:World)(hx:x.ok wB)(hsm:x.d.sm):Ret Tryz.prog 19 [x.v] wB (fun u w'=>∃y:MO,u=y.v∧y.ok∧y.d=x.d∧New wB w' y.hps∧Pu wB w'):=by
 have hb1:x.bs.length≤1000:=hsm.b
 have ht1:x.ts.length≤1000:=by have:=hsm.t;unfold MV.d at this;dsimp only at this;rwa[List.length_map]at this
 unfold MV.v
 refine enterR Tryz.func19 rfl rfl rfl fun a hs hm=>?_
 refine gsc5af_ ?_;clear hs hm a;intros;rename_i a hm hs
 obtain⟨g1,rfl⟩:=hs.pp 1
 obtain⟨g2,rfl⟩:=hs.pp 2
 replace hm:=hm.zero 3
 refine cMid (fun a w=>∃(g3:Nat)(bA:Option Nat)(bc:Nat)(bcs:List Value)(y:MeO),Row bA x.bs.length bc 1 (ints x.bs) bcs∧y.ok∧y.d=(x.xs,x.ls.map LnV.d)∧Sl Tryz.f19.ntmps [(1,pt g1),(2,pt g2),(3,pt g3)] a∧Mm (fun _=>False) wB ([⟨some g3,32,[slv bA x.bs.length bc,.int .u16 x.key,slv y.cA y.xs.length y.cc,slv y.lA y.ls.length y.lc,nS]⟩,⟨bA,3,bcs⟩,⟨some g2,32,[nS,.int .u16 0,nS,nS,nS]⟩,⟨some g1,32,(x.cl [.slice x.tA x.ts.length x.tc])⟩]++y.hps) w) ?_ ?_
 ·skip
  refine cDrawT (n:=14) (.s [0,1,2,4,5,6,8,9]<| .e [(3,.x<| .t 7<| .e [(10,.x<| .t 11<| .o 12<| .o 13<| .d),(12,.o 10<| .x<| .t 11<| .o 13<| .d)]),(12,.o 3<| .x<| .t 7<| .o 10<| .x<| .t 11<| .o 13<| .d)]) [⟨some g1,32,(x.cl [.slice x.tA x.ts.length x.tc])⟩] hm rfl rfl ?_
  clear hm;intro t_ w1_ hm
  repeat' (first|(refine dg149e_ ?_;clear t_ hs hm a;intros;rename_i a hm hs t_)|refine tE t_ ?_|refine tC ?_ ?_|exact tN|intro t_|(refine oDo (i:=3) hs rfl (Wnt.none rfl) rfl rfl (by exact d_appendS (A:=none) (n:=0) (c:=0) (xs:=[]) (news:=ints x.bs) hs rfl rfl rfl rfl tab rfl rfl rfl rfl rfl hm mem_ (Row.empty 1) (by rw[ints_len];exact(Nat.mul_one _).symm) (hm.fr.rd' hx.b) (ints_one _) (by show(0+x.bs.length)*8≤_;omega) (by omega)) ?_;clear hs;rintro _ w1 ⟨bA,bc,bcs,rfl,hbr,hM⟩ a hs;(replace hm:=hM _ rep_);(clear hM);(rw[Nat.zero_add,List.nil_append]at hbr);(rw[Nat.zero_add]at hs);replace t_:=tX t_;refine⟨(hm.sub sub_),?_⟩)|(refine oDo (i:=10) hs rfl (Wnt.none rfl) rfl rfl (by exact d_call hs rfl rfl rfl (pl 29 rfl) ((mcp_c x _ (hx.pu hm.fr) hsm))) ?_;clear hs;rintro _ w1 ⟨y,rfl,hyo,hyd,hN,hf⟩ a hs;(replace hm:=gainE hm hf hN);(clear hN hf);(unfold MeO.v at hs);replace t_:=tX t_;refine⟨(hm.sub sub_),?_⟩)|(refine tD t_ ?_;(obtain⟨g3,rfl⟩:=hs.pp 3);(exact And.intro rfl ⟨g3,bA,bc,bcs,y,hbr,hyo,hyd,(sb_ hs),hm⟩))|fail)
 clear hs hm a
 rintro a w ⟨g3,bA,bc,bcs,y,hbr,hyo,hyd,hs,hm⟩
 refine gsc5af_ ?_;clear hs hm a;intros;rename_i a hm hs
 replace hm:=((hm.zero 52).perm (List.Perm.swap _ _ _)).sub (List.Sublist.cons_cons _ (List.Sublist.cons_cons _ (List.Sublist.cons_cons _ (List.Sublist.cons_cons _ (List.Sublist.cons _ (List.Sublist.refl _))))))
 refine cLoop (X:=MtX) (fun X a w'=>X.rs.length≤x.ts.length∧Sl Tryz.f19.ntmps [(2,pt g2),(3,pt g3),(19,.slice x.tA x.ts.length x.tc),(20,.int .i64 (x.ts.length:Int)),(21,.int .i64 (X.rs.length:Int))] a∧Mm (fun _=>False) wB (([⟨some g3,32,[slv bA x.bs.length bc,.int .u16 x.key,slv y.cA y.xs.length y.cc,slv y.lA y.ls.length y.lc,slv X.tA X.rs.length X.tc]⟩,⟨X.tA,52,X.tcs⟩,⟨bA,3,bcs⟩,⟨some g2,32,[nS,.int .u16 0,nS,nS,nS]⟩]++y.hps)++X.rs.map ThO.hp) w'∧Row X.tA X.rs.length X.tc 8 (X.rs.flatMap ThO.v) X.tcs∧X.rs.map ThO.d=(x.ts.take X.rs.length).map ThV.d∧∀r∈X.rs,r.ok) (fun X=>x.ts.length-X.rs.length) ⟨[],none,0,[]⟩ ⟨Nat.zero_le _,(sb_ hs),by rw[List.map_nil,List.append_nil];exact hm,Row.empty 8,rfl,fun r hr=>by cases hr⟩ ?_
 clear hs hm a
 rintro⟨rs,tA,tc,tcs⟩ a w' ⟨hlen,hs,hm,hlr,hab,hok⟩
 dsimp only at hlen hs hm hlr hab hok
 by_cases hlt:rs.length<x.ts.length
 ·obtain⟨b1,o1,hA,hb1,r1⟩:=hx.t.ro (by rw[flat_len ThV.v 8 ThV.len];omega)
  obtain⟨q,hq⟩:∃q,x.ts[rs.length]=q:=⟨_,rfl⟩
  have hqm:q∈x.ts:=by rw[←hq];exact List.getElem_mem hlt
  have r2:=r1.flat ThV.len hlt
  rw[hq]at r2
  unfold ThV.v at r2
  have hqr:=hx.tt q hqm
  have hqn:q.d.xs.length≤1000:=hsm.tt q.d (List.mem_map.2 ⟨q,hqm,rfl⟩)
  rw[hA]at hs
  refine gsc5af_ ?_;clear hs hm a;intros;rename_i a hm hs
  obtain⟨g5,rfl⟩:=hs.pp 5
  refine dv hs (Wnt.none rfl) rfl rfl (d_appendS (A:=none) (n:=0) (c:=0) (xs:=[]) (news:=cvs q.d.xs) hs rfl rfl rfl rfl tab rfl rfl rfl rfl rfl (hm.zero 103) mem_ (Row.empty 2) (cvs_len _) (hm.fr.rd' hqr) (cvs_one _) (by show(0+q.d.xs.length)*4≤_;omega) (by omega)) ?_
  clear hs
  rintro _ w3 ⟨rA,rc,rcs,rfl,hrr,hM⟩ a hs
  replace hm:=hM _ rep_
  clear hM
  rw[Nat.zero_add,List.nil_append]at hrr
  rw[Nat.zero_add]at hs
  obtain⟨r,hr⟩:∃r:ThO,r=⟨rA,rc,rcs,q.d⟩:=⟨_,rfl⟩
  have hrv:r.v=[.int .i64 q.d.st,slv rA q.d.xs.length rc,.int .i64 q.d.pc,.int .i64 q.d.cnt,.int .i64 q.d.han,.int .i64 q.d.sav,.int .i64 q.d.trp,.int .u16 q.d.cod]:=by rw[hr];rfl
  have hro:r.ok:=by rw[hr];exact hrr
  have hrd:r.d=q.d:=by rw[hr]
  have hrh:r.hp=⟨rA,103,rcs⟩:=by rw[hr];rfl
  refine gsc5af_ ?_;clear hs hm a;intros;rename_i a hm hs
  refine dv hs (Wnt.none rfl) rfl rfl (d_append (A:=tA) (n:=rs.length) (c:=tc) (news:=[.int .i64 q.d.st,slv rA q.d.xs.length rc,.int .i64 q.d.pc,.int .i64 q.d.cnt,.int .i64 q.d.han,.int .i64 q.d.sav,.int .i64 q.d.trp,.int .u16 q.d.cod]) hs rfl rfl rfl rfl rfl tab rfl rfl rfl rfl rfl hm mem_ hlr rfl (hm.ro (n:=8) mem_ (cutF_ok rfl)) rfl (by show(rs.length+1)*80≤_;omega) (by omega)) ?_
  clear hs
  rintro _ w4 ⟨tA2,tc2,tcs2,rfl,hlr2,hM⟩ a hs
  replace hm:=hM _ rep_
  clear hM
  rw[←hrv,th_snoc]at hlr2
  refine gsc5af_ ?_;clear hs hm a;intros;rename_i a hm hs
  rw[←hrh]at hm
  rw[←hA]at hs
  replace hm:=hm.sub (List.Sublist.cons _ (List.Sublist.cons_cons _ (List.Sublist.cons _ (List.Sublist.refl _))))
  refine⟨⟨rs++[r],tA2,tc2,tcs2⟩,by dsimp only;rw[List.length_append,List.length_singleton];omega,by dsimp only;rw[List.length_append,List.length_singleton];omega,?_,?_,?_,th_take hab hlt (by rw[hrd,hq]),?_⟩
  ·dsimp only
   rw[List.length_append,List.length_singleton]
   exact(sb_ hs)
  ·dsimp only
   rw[List.length_append,List.length_singleton]
   exact th_perm hm
  ·dsimp only
   rw[List.length_append,List.length_singleton]
   exact hlr2
  ·intro z hz
   rcases List.mem_append.1 hz with hz|hz
   ·exact hok z hz
   ·rcases List.mem_singleton.1 hz with rfl;exact hro
 ·have hln:rs.length=x.ts.length:=by omega
  refine gsc5af_ ?_;clear hs hm a;intros;rename_i a hm hs
  rw[hln,List.take_length]at hab
  refine gRetN tab hs rfl (.cons (.cells rfl rfl rfl rfl (hm.ro (k:=0) (n:=5) (g:=g2) mem_ (cutF_ok rfl))) .nil) ⟨⟨bA,bc,bcs,x.bs,x.key,y,tA,tc,tcs,rs⟩,rfl,⟨hbr,hyo,hlr,hok⟩,?_,hm.new ?_,hm.fr⟩
  ·unfold MO.d MV.d
   dsimp only
   rw[hab]
   have h1:=congrArg Prod.fst hyd
   have h2:=congrArg Prod.snd hyd
   unfold MeO.d at h1 h2
   dsimp only at h1 h2
   rw[h1,h2]
  ·unfold MO.hps
   dsimp only
   exact zbd11_
theorem run_copyN{P:Program}(w:World)(dT sT ty elem:TypeId)(g o dLen dCap:Nat)(a:Addr)(sLen sCap n s:Nat)(cur:Array Value)(t:TypeId)(cs:List Value)
  (hu:P.underlying dT=some (.slice elem)) (hs:(P.info? elem).map (·.size)=some s)
  (hg:w.heap[g]?=some (.cells cur t (0,0))) (hn:Nat.min sLen dLen=n) (hl:cs.length=n*s)
  (hsrc:∀j v,cs[j]?=some v→w.cell? (a.add j)=some v) (hfit:o+cs.length≤cur.size) (h1:∀v∈cs,v.oneCell'=true):
  (Builtin.copy_ #[dT,sT] ty #[.slice (some ⟨g,o,none⟩) dLen dCap,.slice (some a) sLen sCap]).run P w=
   .ok (goInt n) (w.setRow g (cur.toList.take o++cs++cur.toList.drop (o+cs.length)).toArray):=by
 have hl1:=run_loadCells_list (P:=P) w a cs hsrc
 have hst:=run_storeCells_at P g o t cs 0 cur w hg (by simpa using hfit) h1
 rw[hl]at hl1
 cases hq:P.info? elem with
 |none=>simp[hq]at hs
 |some i=>
  have hi:i.size=s:=by simpa[hq]using hs
  simp[Builtin.copy_,run_underlying hu,Builtin.lenOf,Builtin.firstCells,sizeOf,typeInfo,hq,hi,hn,hl1,hst]
section
variable {P:Program} {T:List (Nat × TI)} {N:Nat} {L:List (Nat × Value)} {a:Act} {w w0:World} {S:Nat→Prop} {M M':List Hp} {o:Oper} {x y:Operand}
theorem d_copyN{t e ty:TypeId}{i j:TI}{g off dl dc b q m sc n:Nat}{cur cs:List Value}{ts:Array TypeId}(hs:Sl N L a)(ho:o.op= .call {callee:= .builtin .copy,args:=#[x,y],argTypes:=ts})(hx:ev L x=some (.slice (some ⟨g,off,none⟩) dl dc))(hy:ev L y=some (.slice (some ⟨b,q,none⟩) m sc))(hts:ts=#[t,t])(hT:TabOk P T)(hc:tlk T t=some i)(hd:i.d= .sl e)(he:tlk T e=some j)
  (hm:Mm S w0 M w) (hR:Rep M ⟨some g,ty,cur⟩ ⟨some g,ty,cur.take off++cs++cur.drop (off+cs.length)⟩ M') (hn:Nat.min m dl=n) (hl:cs.length=n*j.sz) (hsrc:Ro w b q cs) (hfit:off+cs.length≤cur.length) (h1:cs.all (·.oneCell')=true):
  Does P a o w (fun _ w'=>Mm S w0 M' w'):=by
 replace hx:=hs.ev hx;replace hy:=hs.ev hy
 subst hts
 obtain⟨i0,q1,q2,q3,q4⟩:=(hT _ _ he).info
 have hrun:=run_copyN (P:=P) w t t o.type e g off dl dc ⟨b,q,none⟩ m sc n j.sz cur.toArray ty cs ((hT _ _ hc).sl hd) (by rw[q1];simp[q3]) (hm.me _ hR.mem) hn hl
  (fun k u hu=>by rw[add_lit];exact hsrc k u hu) (by simpa using hfit) (fun u hu=>List.all_eq_true.1 h1 u hu)
 unfold Does execOp resolve invoke builtin
 simp only[ho,Sem.run_bind,Sem.run_pure,Result.andThen_ok,List.map_toArray,List.map_cons,List.map_nil,hx,hy,hrun]
 exact hm.store hR
end
theorem Apart.right{A B:List Hp}(h:Apart (A++B)):Apart B:=h.sub (List.sublist_append_right _ _)
theorem Apart.cross2:∀{A B:List Hp},Apart (A++B)→∀x∈A,∀y∈B,∀g,x.g=some g→y.g=some g→False
 |a::t,B,h,x,hx,y,hy,g,e1,e2=>by
  rcases List.mem_cons.1 hx with rfl|hx
  ·exact h.1 y (List.mem_append_right _ hy) g e1 e2
  ·exact Apart.cross2 (A:=t) h.2 x hx y hy g e1 e2
theorem Mm.swap{S:Nat→Prop}{w0 w w':World}{A B A':List Hp}(hm:Mm S w0 (A++B) w)(hk:Mm (own A) w A' w'):Mm S w0 (A'++B) w':=by
 have hA:Mm S w0 A w:=hm.sub (List.sublist_append_left _ _)
 have h1:=hA.trans hk
 refine⟨fun x hx=>?_,h1.fr,h1.dj.append hm.dj.right fun x hx y hy g e1 e2=>?_,fun x hx g hg=>?_⟩
 ·rcases List.mem_append.1 hx with h|h
  ·exact h1.me x h
  ·exact Hp.sat_fr hk.fr (hm.me x (List.mem_append_right _ h)) fun g hg ⟨z,hz,e⟩=>hm.dj.cross2 z hz x h g e hg
 ·rcases hk.ow x hx g e1 with h2|⟨z,hz,e⟩
  ·have:=Hp.lt (hm.me y (List.mem_append_right _ hy)) e2
   omega
  ·exact hm.dj.cross2 z hz y hy g e e2
 ·rcases List.mem_append.1 hx with h|h
  ·exact h1.ow x h g hg
  ·exact hm.ow x (List.mem_append_right _ h) g hg
theorem Mm.swapL{S:Nat→Prop}{w0 w w':World}(L:List Hp){A B A':List Hp}(hm:Mm S w0 (L++(A++B)) w)(hk:Mm (own A) w A' w'):Mm S w0 (L++(A'++B)) w':=by
 have h1:Mm S w0 (A++(L++B)) w:=hm.perm (by
  rw[←List.append_assoc,←List.append_assoc]
  exact List.Perm.append_right B List.perm_append_comm)
 refine(h1.swap hk).perm ?_
 rw[←List.append_assoc,←List.append_assoc]
 exact List.Perm.append_right B List.perm_append_comm
theorem Mm.partL{S:Nat→Prop}{w0 w:World}(L:List Hp){A B:List Hp}(hm:Mm S w0 (L++(A++B)) w):Mm (own A) w A w:=((hm.sub (List.sublist_append_right L _)).sub (List.sublist_append_left A B)).rebase
theorem Mm.swap9{S:Nat→Prop}{w0 w w':World}{a b c d e f g h i:Hp}{A B A':List Hp}(hm:Mm S w0 (a::b::c::d::e::f::g::h::i::(A++B)) w)(hk:Mm (own A) w A' w'):Mm S w0 (a::b::c::d::e::f::g::h::i::(A'++B)) w':=Mm.swapL [a,b,c,d,e,f,g,h,i] hm hk
theorem Mm.part9{S:Nat→Prop}{w0 w:World}{a b c d e f g h i:Hp}{A B:List Hp}(hm:Mm S w0 (a::b::c::d::e::f::g::h::i::(A++B)) w):Mm (own A) w A w:=Mm.partL [a,b,c,d,e,f,g,h,i] hm
theorem Mm.notin{S:Nat→Prop}{w0 w:World}{A B:List Hp}(hm:Mm S w0 (A++B) w){x:Hp}(hx:x∈B){g:Nat}(hg:x.g=some g):¬own A g:=fun⟨z,hz,e⟩=>hm.dj.cross2 z hz x hx g e hg
theorem Mm.part{S:Nat→Prop}{w0 w:World}{A B:List Hp}(hm:Mm S w0 (A++B) w):Mm (own A) w A w:=(hm.sub (List.sublist_append_left _ _)).rebase
theorem er_permG{α:Type}{l:List α}{k:Nat}{r:α}(h:l[k]?=some r):l.Perm (r::l.eraseIdx k):=by
 induction l generalizing k with
 |nil=>simp at h
 |cons a l ih=>
  cases k with
  |zero=>simp at h;subst h;exact List.Perm.refl _
  |succ k=>
   simp only[List.getElem?_cons_succ]at h
   exact(List.Perm.cons a (ih h)).trans (List.Perm.swap _ _ _)
theorem Mm.frontG{α:Type}(f:α→Hp){S:Nat→Prop}{w0 w:World}{L:List Hp}{l:List α}{k:Nat}{q:α}(hm:Mm S w0 (L++l.map f) w)(h:l[k]?=some q):Mm S w0 (f q::(L++(l.eraseIdx k).map f)) w:=by
 refine hm.perm ?_
 have h1:=(er_permG h).map f
 exact(List.perm_middle.symm.trans (List.Perm.append_left L h1.symm))
theorem Mm.backG{α:Type}(f:α→Hp){S:Nat→Prop}{w0 w:World}{L:List Hp}{l:List α}{k:Nat}{q:α}(hk:k<l.length)(hm:Mm S w0 (f q::(L++(l.eraseIdx k).map f)) w):Mm S w0 (L++(l.set k q).map f) w:=by
 refine hm.perm ?_
 have h1:=(er_permG (l:=l.set k q) (k:=k) (r:=q) (List.getElem?_set_self hk)).map f
 rw[List.eraseIdx_set_eq]at h1
 exact(List.Perm.append_left L h1).trans List.perm_middle
theorem flat_take{α:Type}(f:α→List Value)(s:Nat)(hs:∀a,(f a).length=s)(l:List α)(k:Nat):(l.take k).flatMap f=(l.flatMap f).take (k*s):=by
 induction l generalizing k with
 |nil=>simp
 |cons a l ih=>
  cases k with
  |zero=>simp
  |succ k=>
   rw[List.take_succ_cons,List.flatMap_cons,List.flatMap_cons,ih,List.take_append,hs]
   have h1:(k+1)*s=s+k*s:=by rw[Nat.add_mul,Nat.one_mul,Nat.add_comm]
   rw[h1,List.take_of_length_le (l:=f a) (by rw[hs];omega),Nat.add_sub_cancel_left]
theorem flat_drop{α:Type}(f:α→List Value)(s:Nat)(hs:∀a,(f a).length=s)(l:List α)(k:Nat):(l.drop k).flatMap f=(l.flatMap f).drop (k*s):=by
 induction l generalizing k with
 |nil=>simp
 |cons a l ih=>
  cases k with
  |zero=>simp
  |succ k=>
   rw[List.drop_succ_cons,List.flatMap_cons,ih,List.drop_append,hs]
   have h1:(k+1)*s=s+k*s:=by rw[Nat.add_mul,Nat.one_mul,Nat.add_comm]
   rw[h1,List.drop_of_length_le (l:=f a) (by rw[hs];omega),Nat.add_sub_cancel_left,List.nil_append]
theorem Row.splice{A:Option Nat}{n c s:Nat}{xs cs:List Value}(h:Row A n c s xs cs){o:Nat}{ys:List Value}(hf:o+ys.length≤n*s):Row A n c s (xs.take o++ys++xs.drop (o+ys.length)) (cs.take o++ys++cs.drop (o+ys.length)):=by
 have hx:=h.xl
 have hc:=h.len
 have hcs:cs=xs++cs.drop (n*s):=by
  have:=(List.take_append_drop (n*s) cs).symm
  rwa[h.pre]at this
 have hle:n*s≤c*s:=Nat.mul_le_mul_right s h.le
 have e1:cs.take o=xs.take o:=by
  rw[hcs,List.take_append,show o-xs.length=0 by omega,List.take_zero,List.append_nil]
 have e2:cs.drop (o+ys.length)=xs.drop (o+ys.length)++cs.drop (n*s):=by
  conv=>lhs;rw[hcs]
  rw[List.drop_append,show o+ys.length-xs.length=0 by omega,List.drop_zero]
 have hl:(xs.take o++ys++xs.drop (o+ys.length)).length=n*s:=by
  simp only[List.length_append,List.length_take,List.length_drop]
  omega
 refine⟨h.nil,h.le,h.cm,?_,hl,?_⟩
 ·simp only[List.length_append,List.length_take,List.length_drop]
  omega
 ·rw[e1,e2,←List.append_assoc,List.take_append,hl,Nat.sub_self,List.take_zero,List.append_nil,List.take_of_length_le (by omega)]
theorem putG{vs:List Value}:∀{cs:List Value}{n:Nat},n+vs.length≤cs.length→putF cs n vs=some (cs.take n++vs++cs.drop (n+vs.length))
 |cs,n+1,h=>by
  cases cs with
  |nil=>simp at h
  |cons c cs=>
   have ih:=putG (vs:=vs) (cs:=cs) (n:=n) (by simp at h;omega)
   have e:n+1+vs.length=(n+vs.length)+1:=by omega
   simp only[putF,ih,List.take_succ_cons,e,List.drop_succ_cons,List.cons_append]
 |cs,0,h=>by
  induction vs generalizing cs with
  |nil=>simp[putF]
  |cons v vs ih=>
   cases cs with
   |nil=>simp at h
   |cons c cs=>
    have ih:=ih (cs:=cs) (by simp at h ⊢;omega)
    simp only[putF,ih]
    simp
theorem flat_splice{α:Type}(f:α→List Value)(s:Nat)(hs:∀a,(f a).length=s)(l:List α)(k:Nat)(y:α)(hk:k<l.length):(l.flatMap f).take (k*s)++f y++(l.flatMap f).drop (k*s+s)=(l.set k y).flatMap f:=by
 rw[List.set_eq_take_append_cons_drop,if_pos hk,List.flatMap_append,List.flatMap_cons,flat_take f s hs,flat_drop f s hs,List.append_assoc,show(k+1)*s=k*s+s by rw[Nat.add_mul,Nat.one_mul]]
theorem set_self{α:Type}{l:List α}{k:Nat}{q:α}(h:l[k]?=some q):l.set k q=l:=by
 refine List.ext_getElem? fun j=>?_
 rw[List.getElem?_set]
 split
 ·next e=>
  subst e
  rw[h,if_pos (List.getElem?_eq_some_iff.1 h).1]
 ·rfl
theorem cMidR{P:Program}{Q:Exit→Act→World→Prop}{a:Act}{w:World}{c:Code}(I:Act→World→Prop)(h:c.wp P (Exit.then I Q) a w)(k:∀a w,I a w→Goes Q .normal a w):c.wp P Q a w:=
 wp_mono h fun e a w hi=>by
  cases e with
  |normal=>exact k a w hi
  |_=>exact hi
theorem Ro.sub{w:World}{b o d:Nat}{vs us:List Value}(h:Ro w b o vs)(hu:∀j v,us[j]?=some v→vs[d+j]?=some v):Ro w b (o+d) us:=fun j v hv=>by
 have:=h (d+j) v (hu j v hv)
 rwa[←Nat.add_assoc]at this
section
variable {P:Program} {T:List (Nat × TI)} {N:Nat} {L:List (Nat × Value)} {a:Act} {w:World} {o:Oper} {x y z:Operand} {t e:TypeId} {i j:TI} {n c:Nat} {k k2:IntKind}
theorem r_sliceB2{b q:Nat}{l h:Int}(hs:Sl N L a)(ho:o.op= .slice t x (some y) (some z) none)(hx:ev L x=some (.slice (some ⟨b,q,none⟩) n c))(hy:ev L y=some (.int k l))(hz:ev L z=some (.int k2 h))(hT:TabOk P T)(hc:tlk T t=some i)(hd:i.d= .sl e)(he:tlk T e=some j)(h0:0≤l)(h1:l≤h)(h2:h≤c)(h3:l<c):RunV P a o w (.slice (some ⟨b,q+l.toNat*j.sz,none⟩) (h.toNat-l.toNat) (c-l.toNat)):=by
 replace hx:=hs.ev hx;replace hy:=hs.ev hy;replace hz:=hs.ev hz
 have e1:¬c=l.toNat:=by omega
 have e2:0≤h:=by omega
 have e4:=run_sliceBound (P:=P) (w:=w) k l h.toNat BoundsCode.sliceB h0 (by omega)
 unfold RunV execOp
 simp[ho,hx,hy,hz,Instr.sliceAt,Instr.slice,run_und ((hT _ _ hc).sl hd),Instr.sliceBounds,run_sliceBound,h0,h2,e1,e2,e4,run_sizeOf (hT _ _ he),Addr.add]
theorem r_sliceN2{b q l h:Nat}(hs:Sl N L a)(ho:o.op= .slice t x (some y) (some z) none)(hx:ev L x=some (.slice (some ⟨b,q,none⟩) n c))(hy:ev L y=some (.int k (l:Int)))(hz:ev L z=some (.int k2 (h:Int)))(hT:TabOk P T)(hc:tlk T t=some i)(hd:i.d= .sl e)(he:tlk T e=some j)(h1:l≤h)(h2:h≤c)(h3:l<c):RunV P a o w (.slice (some ⟨b,q+l*j.sz,none⟩) (h-l) (c-l)):=
 r_sliceB2 hs ho hx hy hz hT hc hd he (Int.natCast_nonneg l) (by omega) (by omega) (by omega)
theorem r_sliceF2{b q l:Nat}(hs:Sl N L a)(ho:o.op= .slice t x (some y) none none)(hx:ev L x=some (.slice (some ⟨b,q,none⟩) n c))(hy:ev L y=some (.int k (l:Int)))(hT:TabOk P T)(hc:tlk T t=some i)(hd:i.d= .sl e)(he:tlk T e=some j)(h1:l≤n)(h3:l<c):RunV P a o w (.slice (some ⟨b,q+l*j.sz,none⟩) (n-l) (c-l)):=by
 have h:=r_sliceFrom (P:=P) (w:=w) hs ho hx hy hT hc hd he (Int.natCast_nonneg l) (by omega)
 rw[if_neg (by rw[Int.toNat_natCast];omega),Int.toNat_natCast]at h
 have e:(if l*j.sz=0 then(⟨b,q,none⟩:Addr)else⟨b,q+l*j.sz,none⟩)=⟨b,q+l*j.sz,none⟩:=by
  split
  ·next h0=>rw[h0];rfl
  ·rfl
 simp only[Option.map_some,Addr.add]at h
 rwa[e]at h
end
structure MeO.val(y:MeO):Prop where
 n:y.xs.length=512
 l:y.ls.length=4
 cv:∀c∈y.xs,c.val
 ll:∀i (h:i<y.ls.length),(y.ls[i]).d.val i
structure MeO.like(y z:MeO):Prop where
 cA:z.cA=y.cA
 cc:z.cc=y.cc
 lA:z.lA=y.lA
 lc:z.lc=y.lc
 n:z.xs.length=y.xs.length
 l:z.ls.length=y.ls.length
theorem fetch_c(gm om:Nat)(y:MeO)(ad:Nat)(wB:World)(hM:Mm (own y.hps) wB y.hps wB)(hy:y.ok)(hv:y.val)(hh:Ro wB gm om [slv y.cA y.xs.length y.cc,slv y.lA y.ls.length y.lc])(hng:¬own y.hps gm)(had:ad<512):
  Ret Tryz.prog 73 [.pointer (some ⟨gm,om,none⟩),.int .i64 (ad:Int)] wB (fun u w'=>∃(gl:Nat)(z:MeO)(q:LnO),z.lA=some gl∧u= .pointer (some ⟨gl,ad/4%4*3,none⟩)∧z.ok∧z.val∧y.like z∧z.ls[ad/4%4]?=some q∧q.d.tag=((ad/4:Nat):Int)∧Mm (own y.hps) wB z.hps w'):=by
 obtain⟨n,hn⟩:∃n,ad/4=n:=⟨_,rfl⟩
 obtain⟨k,hk⟩:∃k,n%4=k:=⟨_,rfl⟩
 rw[hn,hk]
 have hn2:(ad:Int)/4=(n:Int):=by omega
 have hk2:(ad:Int)/4%4=(k:Int):=by omega
 obtain⟨cA,cc,ccs,xs,lA,lc,lcs,ls⟩:=y
 obtain⟨v1,v2,v3,v4⟩:=hv
 obtain⟨r1,r2,r3⟩:=hy
 dsimp only at*
 have hkl:k<ls.length:=by omega
 obtain⟨gl,rfl⟩:=r2.some_ (by omega)
 obtain⟨gc,rfl⟩:=r1.some_ (by omega)
 obtain⟨q,hq⟩:∃q,ls[k]?=some q:=⟨_,List.getElem?_eq_getElem hkl⟩
 have hqk:ls[k]=q:=(List.getElem?_eq_some_iff.1 hq).2
 have hqv:=v4 k hkl
 have hqo:=r3 q (List.mem_of_getElem? hq)
 rw[hqk]at hqv
 have hcl:=r2.len
 have hle:=r2.le
 have hget:∀j,j<3→(ls.flatMap LnO.v)[k*3+j]?=(LnO.v q)[j]?:=fun j hj=>by rw[flat_get LnO.v 3 LnO.len ls k j hkl hj,hqk]
 have e0:lcs[k*3+0]?=some (.int .i64 q.d.tag):=r2.get (by rw[hget 0 (by omega)];rfl)
 have e1:lcs[k*3+1]?=some (.bool q.d.d):=r2.get (by rw[hget 1 (by omega)];rfl)
 have e2:lcs[k*3+2]?=some (slv q.A q.d.xs.length q.c):=r2.get (by rw[hget 2 (by omega)];rfl)
 rw[v1,v2]at hh
 rw[v1]at r1
 refine enterR Tryz.func73 rfl rfl rfl fun a hs hm=>?_
 clear hm
 have hm:=Mm.frontG LnO.hp (L:=[⟨some gc,103,ccs⟩,⟨some gl,61,lcs⟩]) hM hq
 clear hM
 obtain⟨A0,hA0⟩:∃A0,own (MeO.hps ⟨some gc,cc,ccs,xs,some gl,lc,lcs,ls⟩)=A0:=⟨_,rfl⟩
 rw[hA0]at hm hng
 rw[hA0]
 obtain⟨R,hR⟩:∃R,(ls.eraseIdx k).map LnO.hp=R:=⟨_,rfl⟩
 replace hm:Mm A0 wB (⟨q.A,103,q.cs⟩::⟨some gc,103,ccs⟩::⟨some gl,61,lcs⟩::R) wB:=by rw[←hR];exact hm
 by_cases ht:q.d.tag=(n:Int)
 ·rw[ht]at e0
  have hlk:ls.set k q=ls:=by
   refine List.ext_getElem? fun j=>?_
   rw[List.getElem?_set]
   split
   ·next e=>subst e;rw[hq]
   ·rfl
  refine gsf098_ ?_;clear hs hm a;intros;rename_i a hm hs
  refine gRet1 hs rfl rfl ⟨gl,⟨some gc,cc,ccs,xs,some gl,lc,lcs,ls⟩,q,rfl,rfl,⟨by dsimp only;rw[v1];exact r1,r2,r3⟩,⟨v1,v2,v3,v4⟩,⟨rfl,rfl,rfl,rfl,rfl,rfl⟩,hq,ht,?_⟩
  rw[←hR]at hm
  have:=Mm.backG LnO.hp (L:=[⟨some gc,103,ccs⟩,⟨some gl,61,lcs⟩]) hkl hm
  rw[hlk]at this
  exact this
 ·refine gsf098_ ?_;clear hs hm a;intros;rename_i a hm hs
  with_reducible repeat(first|apply gThen|apply wp_seq)
  refine cMid (fun a w=>∃ccs' xs',Row (some gc) 512 cc 2 (cvs xs') ccs'∧xs'.length=512∧(∀c∈xs',c.val)∧Sl Tryz.f73.ntmps [(0,.pointer (some ⟨gm,om,none⟩)),(5,.int .i64 ((ad:Int)/4)),(6,.pointer (some ⟨gl,k*3,none⟩))] a∧Mm A0 wB (⟨q.A,103,q.cs⟩::⟨some gc,103,ccs'⟩::⟨some gl,61,lcs⟩::R) w) ?_ ?_
  ·obtain⟨qA,qc,qcs,tag,dt,ys⟩:=q
   cases dt
   ·refine gsf098_ ?_;clear hs hm a;intros;rename_i a hm hs
    exact And.intro rfl ⟨ccs,xs,r1,v1,v3,(sb_ hs),hm⟩
   ·have hne:tag≠-1:=fun e=>by have:=(hqv.free e).1;cases this
    obtain⟨t1,t2,t3,t4⟩:=hqv.at_ hne
    dsimp only at t1 t2 t3 t4 e0 e1 e2 hqo ht hm hs
    obtain⟨tg,rfl⟩:∃tg:Nat,tag=(tg:Int):=⟨tag.toNat,by omega⟩
    have hqr:Row qA ys.length qc 2 (cvs ys) qcs:=hqo
    rw[t4]at e2 hqr
    obtain⟨gq,rfl⟩:=hqr.some_ (by omega)
    have hmul:(tg:Int)*4=((4*tg:Nat):Int):=by omega
    have hcc:=r1.le
    have hcl1:=r1.len
    refine gsf098_ ?_;clear hs hm a;intros;rename_i a hm hs
    refine cDrawT (n:=15) (.s [0,1,2,3,4,5,6,7,8,9,10,11,12,13]<| .o 14<| .x<| .d) [⟨some gl,61,lcs⟩] hm rfl rfl ?_
    clear hm;intro t_ w1_ hm
    repeat' (first|(refine dg6140_ ?_;clear t_ hs hm a;intros;rename_i a hm hs t_)|refine tE t_ ?_|refine tC ?_ ?_|exact tN|intro t_|(refine oDo (i:=14) hs rfl (Wnt.none rfl) rfl rfl (by exact d_copyN hs rfl rfl rfl rfl tab rfl rfl rfl hm rep_ (n:=4) (cs:=cvs ys) (by show min 4 (512-4*tg)=4;omega) (by rw[cvs_len,t4]) (by obtain⟨b,o,e,_,r⟩:=hm.rd_row (A:=some gq) mem_ hqr (by rw[cvs_len];omega);cases e;exact r) (by show 0+4*tg*2+_≤_;rw[cvs_len,t4,hcl1];omega) (cvs_one _)) ?_;clear hs;rintro _ w1 hm a hs;replace t_:=tX t_;refine⟨(hm.sub sub_),?_⟩)|(
     refine tD t_ ?_
     obtain⟨xs',hxs⟩:∃xs':List CV,xs'=xs.take (4*tg)++ys++xs.drop (4*tg+4):=⟨_,rfl⟩
     have hsp:=r1.splice (o:=0+4*tg*2) (ys:=cvs ys) (by rw[cvs_len,t4];omega)
     have hcv:cvs xs'=(cvs xs).take (0+4*tg*2)++cvs ys++(cvs xs).drop (0+4*tg*2+(cvs ys).length):=by
      rw[hxs,cvs_len,t4,show 0+4*tg*2=4*tg*2 by omega,show 4*tg*2+4*2=(4*tg+4)*2 by omega]
      unfold cvs
      rw[List.flatMap_append,List.flatMap_append,flat_take CV.cs 2 CV.cs_len,flat_drop CV.cs 2 CV.cs_len]
     exact And.intro rfl ⟨_,xs',by rw[hcv];exact hsp,by rw[hxs];simp only[List.length_append,List.length_take,List.length_drop];omega,fun c hc=>by
      rw[hxs]at hc
      rcases List.mem_append.1 hc with hc|hc
      ·rcases List.mem_append.1 hc with hc|hc
       ·exact v3 c (List.mem_of_mem_take hc)
       ·exact hqv.cv c hc
      ·exact v3 c (List.mem_of_mem_drop hc),(sb_ hs),hm⟩)|fail)
  ·have v1o:=v1
   clear hs hm a r1 v1 v3
   rintro a w ⟨ccs',xs',r1,v1,v3,hs,hm⟩
   have l0:k*3+0<lcs.length:=by omega
   have l1:k*3+1<(lcs.set (k*3+0) (.int .i64 ((ad:Int)/4))).length:=by rw[List.length_set];omega
   have h1:(ad:Int)/4*4=((4*n:Nat):Int):=by omega
   have h2:(ad:Int)/4+1=((n+1:Nat):Int):=by omega
   have h3:((n+1:Nat):Int)*4=((4*n+4:Nat):Int):=by omega
   have hcc:=r1.le
   refine gsf098_ ?_;clear hs hm a;intros;rename_i w a hm hs
   rw[show 4*n+4-4*n=4 by omega]at hs
   obtain⟨ys',hys⟩:∃ys':List CV,ys'=(xs'.drop (4*n)).take 4:=⟨_,rfl⟩
   have hyl:ys'.length=4:=by rw[hys,List.length_take,List.length_drop];omega
   have hyv:∀c∈ys',c.val:=fun c hc=>by rw[hys]at hc;exact v3 c (List.mem_of_mem_drop (List.mem_of_mem_take hc))
   have hcv:cvs ys'=((cvs xs').drop (4*n*2)).take (4*2):=by
    rw[hys]
    unfold cvs
    rw[flat_take CV.cs 2 CV.cs_len,flat_drop CV.cs 2 CV.cs_len]
   have hrd:Rd w w.heap.size (some ⟨gc,0+4*n*2,none⟩) (cvs ys'):=by
    obtain⟨b,o,e,hb,r⟩:=hm.rd_row (A:=some gc) mem_ r1 (by rw[cvs_len];omega)
    cases e
    refine Ro.rd (Ro.sub (d:=4*n*2) r fun j v hv=>?_) hb
    rw[hcv,List.getElem?_take]at hv
    split at hv
    ·rwa[List.getElem?_drop]at hv
    ·cases hv
   replace hm:=hm.zero 103
   refine dv hs (Wnt.none rfl) rfl rfl (d_appendS (A:=none) (n:=0) (c:=0) (xs:=[]) (news:=cvs ys') hs rfl rfl rfl rfl tab rfl rfl rfl rfl rfl hm mem_ (Row.empty 2) (by rw[cvs_len,hyl]) hrd (cvs_one _) (by decide) (by decide)) ?_
   clear hs a
   rintro _ w1 ⟨A',c',cs',rfl,hbr,hM⟩ a hs
   replace hm:=hM _ rep_
   clear hM
   rw[List.nil_append]at hbr
   have l2:k*3+2<((lcs.set (k*3+0) (.int .i64 ((ad:Int)/4))).set (k*3+1) (.bool false)).length:=by rw[List.length_set,List.length_set];omega
   refine gsf098_ ?_;clear hs hm a;intros;rename_i a hm hs
   obtain⟨q',hq'⟩:∃q':LnO,q'=⟨A',c',cs',(n:Int),false,ys'⟩:=⟨_,rfl⟩
   have hr5:(((ls.flatMap LnO.v).set (k*3+0) (.int .i64 (n:Int))).set (k*3+1) (.bool false)).set (k*3+2) (slv A' 4 c')=(ls.set k q').flatMap LnO.v:=by
    rw[flat_set LnO.v 3 LnO.len ls k 0 q _ hq (by omega) {q with d:={q.d with tag:=(n:Int)}} rfl]
    rw[flat_set LnO.v 3 LnO.len _ k 1 {q with d:={q.d with tag:=(n:Int)}} _ (by rw[List.getElem?_set_self hkl]) (by omega) {q with d:={q.d with tag:=(n:Int),d:=false}} rfl,List.set_set]
    rw[flat_set LnO.v 3 LnO.len _ k 2 {q with d:={q.d with tag:=(n:Int),d:=false}} _ (by rw[List.getElem?_set_self hkl]) (by omega) q' (by rw[hq'];unfold LnO.v;dsimp only;rw[hyl];rfl),List.set_set]
   have hl':(ls.set k q').length=ls.length:=List.length_set
   rw[hn2,Nat.zero_add]at hm
   rw[Nat.zero_add]at hbr
   obtain⟨lcs2,hlcs2⟩:∃z,((lcs.set (k*3+0) (.int .i64 (n:Int))).set (k*3+1) (.bool false)).set (k*3+2) (slv A' 4 c')=z:=⟨_,rfl⟩
   rw[hlcs2]at hm
   refine gRet1 hs rfl rfl ⟨gl,⟨some gc,cc,ccs',xs',some gl,lc,lcs2,ls.set k q'⟩,q',rfl,rfl,⟨by dsimp only;rw[v1];exact r1,?_,fun z hz=>?_⟩,⟨v1,by dsimp only;rw[hl'];exact v2,v3,fun i hi=>?_⟩,⟨rfl,rfl,rfl,rfl,by dsimp only;rw[v1,v1o],hl'⟩,List.getElem?_set_self hkl,by rw[hq'],Mm.backG LnO.hp (L:=[⟨some gc,103,ccs'⟩,⟨some gl,61,lcs2⟩]) hkl ?_⟩
   ·dsimp only
    rw[hl',←hr5,←hlcs2]
    exact((r2.set _ _).set _ _).set _ _
   ·dsimp only at hz
    rcases List.mem_or_eq_of_mem_set hz with h|h
    ·exact r3 z h
    ·subst h
     rw[hq']
     show Row A' ys'.length c' 2 (cvs ys') cs'
     rw[hyl]
     exact hbr
   ·dsimp only at hi ⊢
    rw[hl']at hi
    rw[List.getElem_set]
    split
    ·next e=>
     subst e
     rw[hq']
     refine⟨fun e=>by dsimp only at e;omega,fun _=>⟨by dsimp only;omega,by dsimp only;omega,by dsimp only;omega,hyl⟩,hyv⟩
    ·exact v4 i hi
   ·rw[hR,hq']
    exact hm.sub (List.Sublist.cons_cons _ (List.Sublist.cons _ (List.Sublist.refl _)))
theorem clc_c(A:Option Addr)(n c:Nat)(vs:List Value)(w:World)(hl:vs.length=n*2)(hr:Rd w w.heap.size A vs)(h1:vs.all (·.oneCell')=true)(hn:n≤1000000):
  Ret Tryz.prog 36 [.slice A n c] w (fun u w'=>∃(A':Option Nat)(c':Nat)(cs':List Value),u=slv A' n c'∧Row A' n c' 2 vs cs'∧New w w' [⟨A',103,cs'⟩]∧Pu w w'):=by
 cases hA:A with
 |none=>
  subst hA
  have hv:=hr.none_nil
  subst hv
  obtain rfl:n=0:=by rw[List.length_nil]at hl;omega
  refine enterR Tryz.func36 rfl rfl rfl fun a hs hm=>?_
  refine gsce98_ ?_;clear hs hm a;intros;rename_i a hm hs
  exact gRet1 hs rfl rfl ⟨none,0,[],rfl,Row.empty 2,New.none_ _ _ _,hm.fr⟩
 |some p=>
  subst hA
  refine enterR Tryz.func36 rfl rfl rfl fun a hs hm=>?_
  refine gsce98_ ?_;clear hs hm a;intros;rename_i a hm hs
  obtain⟨g5,rfl⟩:=hs.qq 5
  refine dv hs (Wnt.none rfl) rfl rfl (d_appendS (A:=some g5) (n:=0) (c:=0) (xs:=[]) (news:=vs) hs rfl rfl rfl rfl tab rfl rfl rfl rfl rfl hm mem_ (Row.room0 g5 2) hl (hm.fr.rd' hr) h1 (by show(0+n)*4≤_;omega) (by omega)) ?_
  clear hs
  rintro _ w2 ⟨A',c',cs',rfl,hr2,hM⟩ a hs
  replace hm:=hM _ rep_
  clear hM
  rw[Nat.zero_add,List.nil_append]at hr2
  rw[Nat.zero_add]at hs
  refine gsce98_ ?_;clear hs hm a;intros;rename_i a hm hs
  exact gRet1 hs rfl rfl ⟨A',c',cs',rfl,hr2,hm.new (List.Sublist.refl _),hm.fr⟩
theorem cll_c(A:Option Addr)(n c:Nat)(vs:List Value)(w:World)(hl:vs.length=n*3)(hr:Rd w w.heap.size A vs)(h1:vs.all (·.oneCell')=true)(hn:n≤1000000):
  Ret Tryz.prog 65 [.slice A n c] w (fun u w'=>∃(A':Option Nat)(c':Nat)(cs':List Value),u=slv A' n c'∧Row A' n c' 3 vs cs'∧New w w' [⟨A',61,cs'⟩]∧Pu w w'):=by
 cases hA:A with
 |none=>
  subst hA
  have hv:=hr.none_nil
  subst hv
  obtain rfl:n=0:=by rw[List.length_nil]at hl;omega
  refine enterR Tryz.func65 rfl rfl rfl fun a hs hm=>?_
  refine gsce98_ ?_;clear hs hm a;intros;rename_i a hm hs
  exact gRet1 hs rfl rfl ⟨none,0,[],rfl,Row.empty 3,New.none_ _ _ _,hm.fr⟩
 |some p=>
  subst hA
  refine enterR Tryz.func65 rfl rfl rfl fun a hs hm=>?_
  refine gsce98_ ?_;clear hs hm a;intros;rename_i a hm hs
  obtain⟨g5,rfl⟩:=hs.qq 5
  refine dv hs (Wnt.none rfl) rfl rfl (d_appendS (A:=some g5) (n:=0) (c:=0) (xs:=[]) (news:=vs) hs rfl rfl rfl rfl tab rfl rfl rfl rfl rfl hm mem_ (Row.room0 g5 3) hl (hm.fr.rd' hr) h1 (by show(0+n)*40≤_;omega) (by omega)) ?_
  clear hs
  rintro _ w2 ⟨A',c',cs',rfl,hr2,hM⟩ a hs
  replace hm:=hM _ rep_
  clear hM
  rw[Nat.zero_add,List.nil_append]at hr2
  rw[Nat.zero_add]at hs
  refine gsce98_ ?_;clear hs hm a;intros;rename_i a hm hs
  exact gRet1 hs rfl rfl ⟨A',c',cs',rfl,hr2,hm.new (List.Sublist.refl _),hm.fr⟩
theorem lyc_c(A:Option Addr)(n c:Nat)(bs:List Int)(key:Int)(w:World)(hl:bs.length=n)(hr:Rd w w.heap.size A (ints bs))(hn:n≤1000000):
  Ret Tryz.prog 34 [.agg #[.slice A n c,.int .u16 key]] w (fun u w'=>∃(A':Option Nat)(c':Nat)(cs':List Value),u= .agg #[slv A' n c',.int .u16 key]∧Row A' n c' 1 (ints bs) cs'∧New w w' [⟨A',3,cs'⟩]∧Pu w w'):=by
 refine enterR Tryz.func34 rfl rfl rfl fun a hs hm=>?_
 refine gsce98_ ?_;clear hs hm a;intros;rename_i a hm hs
 obtain⟨g1,rfl⟩:=hs.pp 1
 obtain⟨g2,rfl⟩:=hs.pp 2
 refine st hs rfl rfl rfl (d_call hs rfl rfl rfl (pl 64 rfl) ((cln_c A n c (ints bs) _ (by rw[ints_len,hl]) (hm.fr.rd' hr) (ints_one _) hn))) ?_;clear hs a;rintro _ w1 ⟨A',c',cs',rfl,hr2,hN,hf⟩ a hs
 replace hm:=hm.gain hf hN
 clear hN hf
 refine gsce98_ ?_;clear hs hm a;intros;rename_i a hm hs
 exact gRetN tab hs rfl (.cons (.cells rfl rfl rfl rfl (hm.ro (k:=0) (n:=2) (g:=g2) mem_ (cutF_ok rfl))) .nil) ⟨A',c',cs',rfl,hr2,hm.new sub_,hm.fr⟩
def lnTo(rs:List LnO)(ls:List LnV):List Value:=rs.flatMap LnO.v++(ls.drop rs.length).flatMap LnV.v
theorem lnTo_split{rs:List LnO}{ls:List LnV}{q:LnV}(h:rs.length<ls.length)(hq:ls[rs.length]=q):lnTo rs ls=rs.flatMap LnO.v++(q.v++(ls.drop (rs.length+1)).flatMap LnV.v):=by
 unfold lnTo
 rw[List.drop_eq_getElem_cons h,List.flatMap_cons,hq]
theorem lnTo_at{rs:List LnO}{ls:List LnV}{q:LnV}(h:rs.length<ls.length)(hq:ls[rs.length]=q)(j:Nat)(hj:j<3):(lnTo rs ls)[rs.length*3+j]?=q.v[j]?:=by
 rw[lnTo_split h hq,List.getElem?_append_right (by rw[flat_len LnO.v 3 LnO.len];omega),flat_len LnO.v 3 LnO.len,Nat.add_sub_cancel_left,List.getElem?_append_left (by rw[LnV.len];exact hj)]
theorem lnTo_set{rs:List LnO}{ls:List LnV}{q:LnV}{r:LnO}(h:rs.length<ls.length)(hq:ls[rs.length]=q)(hr:r.d=q.d):(lnTo rs ls).set (rs.length*3+2) (slv r.A r.d.xs.length r.c)=lnTo (rs++[r]) ls:=by
 rw[lnTo_split h hq,List.set_append_right _ _ (by rw[flat_len LnO.v 3 LnO.len];omega),flat_len LnO.v 3 LnO.len,Nat.add_sub_cancel_left]
 unfold lnTo
 rw[List.flatMap_append,List.flatMap_singleton,List.length_append,List.length_singleton,List.append_assoc]
 congr 1
 unfold LnV.v LnO.v
 rw[hr]
 rfl
theorem cutF_of:∀(cs:List Value)(o:Nat)(vs:List Value),o+vs.length≤cs.length→(∀j v,vs[j]?=some v→cs[o+j]?=some v)→cutF cs o vs.length=some vs
 |[],0,[],_,_=>rfl
 |[],o+1,_,h,_=>absurd h (by rw[List.length_nil];omega)
 |[],0,v::vs,h,_=>absurd h (by rw[List.length_cons,List.length_nil];omega)
 |c::cs,0,[],_,_=>rfl
 |c::cs,0,v::vs,h,hv=>by
  have h0:=hv 0 v rfl
  have h1:c=v:=by simpa using h0
  have h2:=cutF_of cs 0 vs (by rw[List.length_cons,List.length_cons]at h;omega) (fun j u hj=>by
   have:=hv (j+1) u (by simpa using hj)
   rw[Nat.zero_add]at this ⊢
   simpa using this)
  show(match cutF cs 0 vs.length with|some vs=>some (c::vs)|none=>none)=_
  rw[h2,h1]
 |c::cs,o+1,vs,h,hv=>by
  show cutF cs o vs.length=_
  refine cutF_of cs o vs (by simp at h;omega) (fun j u hj=>?_)
  have:=hv j u hj
  rw[show o+1+j=(o+j)+1 by omega]at this
  simpa using this
structure MrX where
 rs:List LnO
 lcs:List Value
theorem mmc_c(x:MV)(wB:World)(hx:x.ok wB)(hsm:x.d.sm):Ret Tryz.prog 35 [x.me] wB (fun u w'=>∃y:MeO,u=y.v∧y.ok∧y.d=(x.xs,x.ls.map LnV.d)∧New wB w' y.hps∧Pu wB w'):=by
 have hc1:x.xs.length≤1000:=hsm.c
 have hl1:x.ls.length≤1000:=by have:=hsm.l;unfold MV.d at this;dsimp only at this;rwa[List.length_map]at this
 unfold MV.me
 refine enterR Tryz.func35 rfl rfl rfl fun a hs hm=>?_
 refine gsb5fb_ ?_;clear hs hm a;intros;rename_i a hm hs
 obtain⟨g1,rfl⟩:=hs.pp 1
 obtain⟨g2,rfl⟩:=hs.pp 2
 refine cMid (fun a w=>∃(g3:Nat)(cA:Option Nat)(cc:Nat)(ccs:List Value)(lA:Option Nat)(lc:Nat)(lcs:List Value),Row cA x.xs.length cc 2 (cvs x.xs) ccs∧Row lA x.ls.length lc 3 (x.ls.flatMap LnV.v) lcs∧Sl Tryz.f35.ntmps [(2,pt g2),(3,pt g3)] a∧Mm (fun _=>False) wB [⟨some g3,29,[slv cA x.xs.length cc,slv lA x.ls.length lc]⟩,⟨cA,103,ccs⟩,⟨lA,61,lcs⟩,⟨some g2,29,[nS,nS]⟩] w) ?_ ?_
 ·skip
  refine cDrawT (n:=9) (.s [0,1,3,4]<| .e [(2,.x<| .e [(5,.x<| .t 6<| .o 7<| .o 8<| .d),(7,.o 5<| .x<| .t 6<| .o 8<| .d)]),(7,.o 2<| .x<| .o 5<| .x<| .t 6<| .o 8<| .d)]) [⟨some g1,29,[.slice x.cA x.xs.length x.cc,.slice x.lA x.ls.length x.lc]⟩] hm rfl rfl ?_
  clear hm;intro t_ w1_ hm
  repeat' (first|(refine dgca31_ ?_;clear t_ hs hm a;intros;rename_i a hm hs t_)|refine tE t_ ?_|refine tC ?_ ?_|exact tN|intro t_|(refine oDo (i:=2) hs rfl (Wnt.none rfl) rfl rfl (by exact d_call hs rfl rfl rfl (pl 36 rfl) ((clc_c x.cA x.xs.length x.cc (cvs x.xs) _ (cvs_len _) (hm.fr.rd' hx.c) (cvs_one _) (by omega)))) ?_;clear hs;rintro _ w1 ⟨cA,cc,ccs,rfl,hcr,hN,hf⟩ a hs;(replace hm:=hm.gain hf hN);(clear hN hf);replace t_:=tX t_;refine⟨(hm.sub sub_),?_⟩)|(refine oDo (i:=5) hs rfl (Wnt.none rfl) rfl rfl (by exact d_call hs rfl rfl rfl (pl 65 rfl) ((cll_c x.lA x.ls.length x.lc (x.ls.flatMap LnV.v) _ (flat_len LnV.v 3 LnV.len _) (hm.fr.rd' hx.l) (flat_one (fun _=>rfl) _) (by omega)))) ?_;clear hs;rintro _ w1 ⟨lA,lc,lcs,rfl,hlr,hN,hf⟩ a hs;(replace hm:=hm.gain hf hN);(clear hN hf);replace t_:=tX t_;refine⟨(hm.sub sub_),?_⟩)|(refine tD t_ ?_;(obtain⟨g3,rfl⟩:=hs.pp 3);(refine And.intro rfl ⟨g3,cA,cc,ccs,lA,lc,lcs,hcr,hlr,(sb_ hs),?_⟩);(first|exact hm.sel [0,2,1,3] (by decide) rfl|exact hm.sel [1,2,0,3] (by decide) rfl|exact hm.sel [2,1,0,3] (by decide) rfl))|fail)
 clear hs hm a
 rintro a w ⟨g3,cA,cc,ccs,lA,lc,lcs,hcr,hlr,hs,hm⟩
 refine gsb5fb_ ?_;clear hs hm a;intros;rename_i a hm hs
 refine cLoop (X:=MrX) (fun X a w'=>X.rs.length≤x.ls.length∧Sl Tryz.f35.ntmps [(2,pt g2),(3,pt g3),(14,slv lA x.ls.length lc),(15,.int .i64 (x.ls.length:Int)),(16,.int .i64 (X.rs.length:Int))] a∧Mm (fun _=>False) wB ([⟨some g3,29,[slv cA x.xs.length cc,slv lA x.ls.length lc]⟩,⟨cA,103,ccs⟩,⟨lA,61,X.lcs⟩,⟨some g2,29,[nS,nS]⟩]++X.rs.map LnO.hp) w'∧Row lA x.ls.length lc 3 (lnTo X.rs x.ls) X.lcs∧X.rs.map LnO.d=(x.ls.take X.rs.length).map LnV.d∧∀r∈X.rs,r.ok) (fun X=>x.ls.length-X.rs.length) ⟨[],lcs⟩ ⟨Nat.zero_le _,(sb_ hs),hm,hlr,rfl,fun r hr=>by cases hr⟩ ?_
 clear hs hm a hlr lcs
 rintro⟨rs,lcs⟩ a w' ⟨hlen,hs,hm,hlr,hab,hok⟩
 dsimp only at hlen hs hm hlr hab hok
 by_cases hlt:rs.length<x.ls.length
 ·obtain⟨gl,rfl⟩:=hlr.some_ (by omega)
  obtain⟨q,hq⟩:∃q,x.ls[rs.length]=q:=⟨_,rfl⟩
  have hqm:q∈x.ls:=by rw[←hq];exact List.getElem_mem hlt
  have hqr:=hx.ll q hqm
  have hqn:q.d.xs.length≤1000:=hsm.ll q.d (List.mem_map.2 ⟨q,hqm,rfl⟩)
  have hln2:lcs.length=lc*3:=hlr.len
  have hle2:=hlr.le
  have hcut:cutF lcs (rs.length*3) 3=some [.int .i64 q.d.tag,.bool q.d.d,.slice q.A q.d.xs.length q.c]:=cutF_of lcs (rs.length*3) q.v (by rw[LnV.len];omega) (fun j v hj=>hlr.get (by
   rw[lnTo_at hlt hq j (by have:=(List.getElem?_eq_some_iff.1 hj).1;rwa[LnV.len]at this)]
   exact hj))
  have hst5:rs.length*3+2<lcs.length:=by omega
  refine gsb5fb_ ?_;clear hs hm a;intros;rename_i a hm hs
  obtain⟨g5,rfl⟩:=hs.pp 5
  refine cMid (fun a w=>∃(rA:Option Nat)(rc:Nat)(rcs:List Value),Row rA q.d.xs.length rc 2 (cvs q.d.xs) rcs∧Sl Tryz.f35.ntmps [(2,pt g2),(3,pt g3),(14,slv (some gl) x.ls.length lc),(15,.int .i64 (x.ls.length:Int)),(16,.int .i64 (rs.length:Int))] a∧Mm (fun _=>False) wB (⟨rA,103,rcs⟩::([⟨some g3,29,[slv cA x.xs.length cc,slv (some gl) x.ls.length lc]⟩,⟨cA,103,ccs⟩,⟨some gl,61,lcs.set (rs.length*3+2) (slv rA q.d.xs.length rc)⟩,⟨some g2,29,[nS,nS]⟩]++rs.map LnO.hp)) w) ?_ ?_
  ·skip
   refine cDrawT (n:=9) (.s [0,1,2,3,4]<| .o 5<| .x<| .s [6,7]<| .o 8<| .d) [⟨some g5,61,[.int .i64 q.d.tag,.bool q.d.d,.slice q.A q.d.xs.length q.c]⟩,⟨some g3,29,[slv cA x.xs.length cc,slv (some gl) x.ls.length lc]⟩] hm rfl rfl ?_
   clear hm;intro t_ w1_ hm
   repeat' (first|(refine dgca31_ ?_;clear t_ hs hm a;intros;rename_i a hm hs t_)|refine tE t_ ?_|refine tC ?_ ?_|exact tN|intro t_|(refine oDo (i:=5) hs rfl (Wnt.none rfl) rfl rfl (by exact d_call hs rfl rfl rfl (pl 36 rfl) ((clc_c q.A q.d.xs.length q.c (cvs q.d.xs) _ (cvs_len _) (hm.fr.rd' hqr) (cvs_one _) (by omega)))) ?_;clear hs;rintro _ w1 ⟨rA,rc,rcs,rfl,hrr,hN,hf⟩ a hs;(replace hm:=hm.gain hf hN);(clear hN hf);replace t_:=tX t_;refine⟨(hm.sub sub_),?_⟩)|(refine tD t_ ?_;(exact And.intro rfl ⟨rA,rc,rcs,hrr,(sb_ hs),hm.sub (List.Sublist.cons_cons _ (List.Sublist.cons _ (List.Sublist.refl _)))⟩))|fail)
  clear hs hm a
  rintro a w ⟨rA,rc,rcs,hrr,hs,hm⟩
  obtain⟨r,hr⟩:∃r:LnO,r=⟨rA,rc,rcs,q.d⟩:=⟨_,rfl⟩
  have hro:r.ok:=by rw[hr];exact hrr
  have hrd:r.d=q.d:=by rw[hr]
  have hrh:r.hp=⟨rA,103,rcs⟩:=by rw[hr];rfl
  have hlr2:=hlr.set (rs.length*3+2) (slv rA q.d.xs.length rc)
  have hset:(lnTo rs x.ls).set (rs.length*3+2) (slv rA q.d.xs.length rc)=lnTo (rs++[r]) x.ls:=by
   rw[←lnTo_set hlt hq hrd,hr]
  rw[hset]at hlr2
  rw[←hrh]at hm
  refine gsb5fb_ ?_;clear hs hm a;intros;rename_i a hm hs
  refine⟨⟨rs++[r],lcs.set (rs.length*3+2) (slv rA q.d.xs.length rc)⟩,by dsimp only;rw[List.length_append,List.length_singleton];omega,by dsimp only;rw[List.length_append,List.length_singleton];omega,?_,?_,hlr2,ln_take hab hlt (by rw[hrd,hq]),?_⟩
  ·dsimp only
   rw[List.length_append,List.length_singleton]
   exact(sb_ hs)
  ·exact ln_perm hm
  ·intro z hz
   rcases List.mem_append.1 hz with hz|hz
   ·exact hok z hz
   ·rcases List.mem_singleton.1 hz with rfl;exact hro
 ·have hln:rs.length=x.ls.length:=by omega
  refine gsb5fb_ ?_;clear hs hm a;intros;rename_i a hm hs
  rw[hln,List.take_length]at hab
  have hlr2:Row lA rs.length lc 3 (rs.flatMap LnO.v) lcs:=by
   unfold lnTo at hlr
   rw[hln,List.drop_length,List.flatMap_nil,List.append_nil]at hlr
   rw[hln]
   exact hlr
  rw[←hln]at hm
  refine gRetN tab hs rfl (.cons (.cells rfl rfl rfl rfl (hm.ro (k:=0) (n:=2) (g:=g2) mem_ (cutF_ok rfl))) .nil) ⟨⟨cA,cc,ccs,x.xs,lA,lc,lcs,rs⟩,rfl,⟨hcr,hlr2,hok⟩,by unfold MeO.d;dsimp only;rw[hab],hm.new ?_,hm.fr⟩
  unfold MeO.hps
  dsimp only
  exact zbd11_
theorem MeO.like.refl(y:MeO):y.like y:=⟨rfl,rfl,rfl,rfl,rfl,rfl⟩
theorem MeO.like.trans{x y z:MeO}(h:x.like y)(k:y.like z):x.like z:=⟨k.cA.trans h.cA,k.cc.trans h.cc,k.lA.trans h.lA,k.lc.trans h.lc,k.n.trans h.n,k.l.trans h.l⟩
theorem load_c(gm om:Nat)(y:MeO)(ad:Nat)(wB:World)(hM:Mm (own y.hps) wB y.hps wB)(hy:y.ok)(hv:y.val)(hh:Ro wB gm om [slv y.cA y.xs.length y.cc,slv y.lA y.ls.length y.lc])(hng:¬own y.hps gm)(had:ad<512):
  Ret Tryz.prog 44 [.pointer (some ⟨gm,om,none⟩),.int .i64 (ad:Int)] wB (fun u w'=>∃(z:MeO)(c:CV),u= .agg #[.int .u8 c.t,.int .u16 c.v]∧c.val∧z.ok∧z.val∧y.like z∧Mm (own y.hps) wB z.hps w'):=by
 obtain⟨A0,hA0⟩:∃A0,own y.hps=A0:=⟨_,rfl⟩
 have hM':Mm A0 wB y.hps wB:=hA0▸hM
 have hng':¬A0 gm:=hA0▸hng
 rw[hA0]
 refine enterR Tryz.func44 rfl rfl rfl fun a hs hm=>?_
 clear hm
 have hm:=hM'
 clear hM'
 refine gsb147_ ?_;clear hs hm a;intros;rename_i w a hm hs
 obtain⟨g4,rfl⟩:=hs.pp 4
 replace hm:Mm A0 wB (y.hps++[⟨some g4,103,[.int .u8 0,.int .u16 0]⟩]) w:=hm.perm (List.perm_append_comm (l₁:=y.hps) (l₂:=[⟨some g4,103,[.int .u8 0,.int .u16 0]⟩]))
 refine st hs rfl rfl rfl (d_call hs rfl rfl rfl (pl 73 rfl) ((fetch_c gm om y ad _ hm.part hy hv (hh.ro hm hng') hng had))) ?_;clear hs a;rintro _ w1 ⟨gl,z,q,hgl,rfl,hzo,hzv,hlk,hq,hqt,hk⟩ a hs
 replace hm:=hm.swap hk
 clear hk
 obtain⟨j,hj⟩:∃j,ad%4=j:=⟨_,rfl⟩
 have hj2:(ad:Int)%4=(j:Int):=by omega
 obtain⟨k,hk⟩:∃k,ad/4%4=k:=⟨_,rfl⟩
 rw[hk]at hs hq
 have hkl:k<z.ls.length:=(List.getElem?_eq_some_iff.1 hq).1
 have hqk:z.ls[k]=q:=(List.getElem?_eq_some_iff.1 hq).2
 have hqv:=hzv.ll k hkl
 rw[hqk]at hqv
 have hqo:=hzo.ll q (List.mem_of_getElem? hq)
 obtain⟨zc,zcc,zccs,zxs,zl,zlc,zlcs,zls⟩:=z
 dsimp only at hgl hkl hq hqk
 subst hgl
 have hrl:=hzo.l
 dsimp only at hrl
 have e2:zlcs[k*3+2]?=some (slv q.A q.d.xs.length q.c):=hrl.get (by rw[flat_get LnO.v 3 LnO.len zls k 2 hkl (by omega),hqk];rfl)
 obtain⟨t1,t2,t3,t4⟩:=hqv.at_ (by omega)
 obtain⟨qA,qc,qcs,tag,dt,ys⟩:=q
 have hqr:Row qA ys.length qc 2 (cvs ys) qcs:=hqo
 dsimp only at e2 t4
 obtain⟨gq,rfl⟩:=hqr.some_ (by omega)
 have hc:=hqv.cv (ys[j]'(by omega)) (List.getElem_mem _)
 have hcg:∀i,i<2→(cvs ys)[j*2+i]?=(CV.cs (ys[j]'(by omega)))[i]?:=fun i hi=>flat_get CV.cs 2 CV.cs_len ys j i (by omega) hi
 generalize ys[j]'(_)=c at hc hcg
 have f0:qcs[j*2+0]?=some (.int .u8 c.t):=hqr.get (by rw[hcg 0 (by omega)];rfl)
 have f1:qcs[j*2+1]?=some (.int .u16 c.v):=hqr.get (by rw[hcg 1 (by omega)];rfl)
 rw[t4]at e2
 replace hm:=Mm.frontG LnO.hp (L:=[⟨some g4,103,[.int .u8 0,.int .u16 0]⟩,⟨zc,103,zccs⟩,⟨some gl,61,zlcs⟩]) (hm.perm (List.perm_append_comm (l₁:=[_]))) hq
 obtain⟨R,hR⟩:∃R,(zls.eraseIdx k).map LnO.hp=R:=⟨_,rfl⟩
 replace hm:Mm A0 wB (⟨some gq,103,qcs⟩::⟨some g4,103,[.int .u8 0,.int .u16 0]⟩::⟨zc,103,zccs⟩::⟨some gl,61,zlcs⟩::R) w1:=by rw[←hR];exact hm
 have hcut:cutF qcs (j*2) 2=some [.int .u8 c.t,.int .u16 c.v]:=cutF_of qcs (j*2) c.cs (by have:=hqr.len;have:=hqr.le;show j*2+2≤_;omega) (fun i v hi=>hqr.get (by rw[hcg i (by have:=(List.getElem?_eq_some_iff.1 hi).1;exact this)];exact hi))
 refine gsb147_ ?_;clear hs hm a;intros;rename_i a hm hs
 refine gRetN tab hs rfl (.cons (.cells rfl rfl rfl rfl (hm.ro (k:=0) (n:=2) (g:=g4) mem_ (cutF_ok rfl))) .nil) ⟨⟨zc,zcc,zccs,zxs,some gl,zlc,zlcs,zls⟩,c,rfl,hc,hzo,hzv,hlk,?_⟩
 replace hm:=hm.sub (List.Sublist.cons_cons _ (List.Sublist.cons _ (List.Sublist.refl _)))
 rw[←hR]at hm
 have:=Mm.backG (q:=⟨some gq,qc,qcs,tag,dt,ys⟩) LnO.hp (L:=[⟨zc,103,zccs⟩,⟨some gl,61,zlcs⟩]) hkl hm
 rw[set_self hq]at this
 exact this
theorem store_c(gm om:Nat)(y:MeO)(ad:Nat)(c:CV)(wB:World)(hM:Mm (own y.hps) wB y.hps wB)(hy:y.ok)(hv:y.val)(hh:Ro wB gm om [slv y.cA y.xs.length y.cc,slv y.lA y.ls.length y.lc])(hng:¬own y.hps gm)(had:ad<512)(hcv:c.val):
  Ret Tryz.prog 45 [.pointer (some ⟨gm,om,none⟩),.int .i64 (ad:Int),.agg #[.int .u8 c.t,.int .u16 c.v]] wB (fun _ w'=>∃z:MeO,z.ok∧z.val∧y.like z∧Mm (own y.hps) wB z.hps w'):=by
 obtain⟨A0,hA0⟩:∃A0,own y.hps=A0:=⟨_,rfl⟩
 have hM':Mm A0 wB y.hps wB:=hA0▸hM
 have hng':¬A0 gm:=hA0▸hng
 rw[hA0]
 refine enterR Tryz.func45 rfl rfl rfl fun a hs hm=>?_
 clear hm
 have hm:=hM'
 clear hM'
 refine gsb147_ ?_;clear hs hm a;intros;rename_i w a hm hs
 obtain⟨g5,rfl⟩:=hs.pp 5
 replace hm:Mm A0 wB (y.hps++[⟨some g5,103,[.int .u8 c.t,.int .u16 c.v]⟩]) w:=hm.perm (List.perm_append_comm (l₁:=y.hps) (l₂:=[_]))
 refine st hs rfl rfl rfl (d_call hs rfl rfl rfl (pl 73 rfl) ((fetch_c gm om y ad _ hm.part hy hv (hh.ro hm hng') hng had))) ?_;clear hs a;rintro _ w1 ⟨gl,z,q,hgl,rfl,hzo,hzv,hlk,hq,hqt,hk⟩ a hs
 replace hm:=hm.swap hk
 clear hk
 obtain⟨j,hj⟩:∃j,ad%4=j:=⟨_,rfl⟩
 have hj2:(ad:Int)%4=(j:Int):=by omega
 obtain⟨k,hk⟩:∃k,ad/4%4=k:=⟨_,rfl⟩
 rw[hk]at hs hq
 have hkl:k<z.ls.length:=(List.getElem?_eq_some_iff.1 hq).1
 have hqk:z.ls[k]=q:=(List.getElem?_eq_some_iff.1 hq).2
 have hqv:=hzv.ll k hkl
 rw[hqk]at hqv
 have hqo:=hzo.ll q (List.mem_of_getElem? hq)
 obtain⟨zc,zcc,zccs,zxs,zl,zlc,zlcs,zls⟩:=z
 dsimp only at hgl hkl hq hqk
 subst hgl
 have hrl:=hzo.l
 have hzl:=hzv.l
 dsimp only at hrl hzl
 have hcl:=hrl.len
 have hle:=hrl.le
 have e2:zlcs[k*3+2]?=some (slv q.A q.d.xs.length q.c):=hrl.get (by rw[flat_get LnO.v 3 LnO.len zls k 2 hkl (by omega),hqk];rfl)
 obtain⟨t1,t2,t3,t4⟩:=hqv.at_ (by omega)
 obtain⟨qA,qc,qcs,tag,dt,ys⟩:=q
 have hqr:Row qA ys.length qc 2 (cvs ys) qcs:=hqo
 dsimp only at e2 t4
 obtain⟨gq,rfl⟩:=hqr.some_ (by omega)
 have hql:=hqr.len
 have hqe:=hqr.le
 rw[t4]at e2
 replace hm:=Mm.frontG LnO.hp (L:=[⟨some g5,103,[.int .u8 c.t,.int .u16 c.v]⟩,⟨zc,103,zccs⟩,⟨some gl,61,zlcs⟩]) (hm.perm (List.perm_append_comm (l₁:=[_]))) hq
 obtain⟨R,hR⟩:∃R,(zls.eraseIdx k).map LnO.hp=R:=⟨_,rfl⟩
 replace hm:Mm A0 wB (⟨some gq,103,qcs⟩::⟨some g5,103,[.int .u8 c.t,.int .u16 c.v]⟩::⟨zc,103,zccs⟩::⟨some gl,61,zlcs⟩::R) w1:=by rw[←hR];exact hm
 have l1:k*3+1<zlcs.length:=by omega
 refine gsb147_ ?_;clear hs hm a;intros;rename_i a hm hs
 refine cMid (fun a w=>Sl Tryz.f45.ntmps [(5,pt g5)] a∧Mm A0 wB (⟨some gq,103,qcs.take (j*2)++c.cs++qcs.drop (j*2+2)⟩::⟨some g5,103,[.int .u8 c.t,.int .u16 c.v]⟩::⟨zc,103,zccs⟩::⟨some gl,61,zlcs.set (k*3+1) (.bool true)⟩::R) w) ?_ ?_
 ·with_reducible repeat(first|apply gThen|apply wp_seq)
  refine cDrawTB (n:=13) (.s [0,1,2,3,4,5,6,7,8]<| .o 9<| .x<| .s [10,11]<| .o 12<| .d) 12 [⟨some g5,103,[.int .u8 c.t,.int .u16 c.v]⟩,⟨some gl,61,zlcs⟩] hm rfl rfl ?_
  clear hm;intro t_ w1_ hm
  repeat' (first|(refine dgc949_ ?_;clear t_ hs hm a;intros;rename_i a hm hs t_)|refine tEB t_ ?_|refine tCB ?_ ?_|exact tNB|intro t_|(refine oDoNB (i:=9) hs rfl (Wnt.none rfl) rfl (by exact d_store hs rfl rfl rfl tab rfl rfl rfl rfl hm rep_ (putG (vs:=[.int .u8 c.t,.int .u16 c.v]) (by show j*2+2≤_;omega))) ?_;clear hs;rintro-w1 hm a hs;replace t_:=tX t_;refine⟨bu_,?_⟩)|(refine tDB t_ ?_;(exact And.intro rfl ⟨(sb_ hs),hm⟩))|fail)
 ·rintro a w ⟨hs,hm⟩
  obtain⟨q',hq'⟩:∃q':LnO,q'=⟨some gq,qc,qcs.take (j*2)++c.cs++qcs.drop (j*2+2),tag,true,ys.set j c⟩:=⟨_,rfl⟩
  have hl':(zls.set k q').length=zls.length:=List.length_set
  have hyl:(ys.set j c).length=4:=by rw[List.length_set,t4]
  refine gEnd (rs:=[]) tab hs rfl .nil ⟨⟨zc,zcc,zccs,zxs,some gl,zlc,zlcs.set (k*3+1) (.bool true),zls.set k q'⟩,⟨hzo.c,?_,fun z hz=>?_⟩,⟨hzv.n,hl'.trans hzl,hzv.cv,fun i hi=>?_⟩,⟨hlk.cA,hlk.cc,hlk.lA,hlk.lc,hlk.n,hl'.trans hlk.l⟩,?_⟩
  ·dsimp only
   rw[hl',←flat_set LnO.v 3 LnO.len zls k 1 _ (.bool true) hq (by omega) q' (by rw[hq'];unfold LnO.v;dsimp only;rw[hyl,t4];rfl)]
   exact hrl.set _ _
  ·dsimp only at hz
   rcases List.mem_or_eq_of_mem_set hz with h|h
   ·exact hzo.ll z h
   ·subst h
    rw[hq']
    show Row (some gq) (ys.set j c).length qc 2 (cvs (ys.set j c)) (qcs.take (j*2)++c.cs++qcs.drop (j*2+2))
    have hsp:=hqr.splice (o:=j*2) (ys:=c.cs) (by rw[CV.cs_len];omega)
    rw[CV.cs_len,show(cvs ys).take (j*2)++c.cs++(cvs ys).drop (j*2+2)=cvs (ys.set j c)from flat_splice CV.cs 2 CV.cs_len ys j c (by omega)]at hsp
    rw[List.length_set]
    exact hsp
  ·dsimp only at hi ⊢
   rw[hl']at hi
   rw[List.getElem_set]
   split
   ·next e=>
    subst e
    rw[hq']
    exact⟨fun e=>by dsimp only at e t1;omega,fun _=>⟨t1,t2,t3,hyl⟩,fun x hx=>by
     rcases List.mem_or_eq_of_mem_set hx with h|h
     ·exact hqv.cv x h
     ·rw[h];exact hcv⟩
   ·exact hzv.ll i hi
  ·replace hm:=hm.sub (List.Sublist.cons_cons _ (List.Sublist.cons _ (List.Sublist.refl _)))
   rw[←hR]at hm
   have:=Mm.backG (q:=q') LnO.hp (L:=[⟨zc,103,zccs⟩,⟨some gl,61,zlcs.set (k*3+1) (.bool true)⟩]) hkl (by rw[hq'];exact hm)
   exact this
theorem look_c(A:Option Addr)(c:Nat)(xs:List CV)(Lb:Option Addr)(d:Nat)(ls:List LnV)(ad:Nat)(wB:World)(hA:Rd wB wB.heap.size A (cvs xs))(hL:Rd wB wB.heap.size Lb (ls.flatMap LnV.v))(hll:∀y∈ls,Rd wB wB.heap.size y.A (cvs y.d.xs))(h1:xs.length=512)(h2:ls.length=4)(h3:∀z∈xs,z.val)(h4:∀i (h:i<ls.length),(ls[i]).d.val i)(had:ad<512):
  Ret Tryz.prog 94 [.agg #[.slice A xs.length c,.slice Lb ls.length d],.int .i64 (ad:Int)] wB (fun u w'=>∃c:CV,u= .agg #[.int .u8 c.t,.int .u16 c.v]∧c.val∧Pu wB w'):=by
 obtain⟨n,hn⟩:∃n,ad/4=n:=⟨_,rfl⟩
 obtain⟨k,hk⟩:∃k,n%4=k:=⟨_,rfl⟩
 obtain⟨j,hj⟩:∃j,ad%4=j:=⟨_,rfl⟩
 have hj2:(ad:Int)%4=(j:Int):=by omega
 have hn2:(ad:Int)/4=(n:Int):=by omega
 have hk2:(ad:Int)/4%4=(k:Int):=by omega
 obtain⟨b1,o1,rfl,hb1,r1⟩:=hL.ro (by rw[flat_len LnV.v 3 LnV.len];omega)
 obtain⟨b2,o2,rfl,hb2,r2⟩:=hA.ro (by rw[cvs_len];omega)
 have q1:=r1.flat LnV.len (show k<ls.length by omega)
 have q2:=r2.flat CV.cs_len (show ad<xs.length by omega)
 have hv:=h4 k (by omega)
 have hr:=hll (ls[k]'(by omega)) (List.getElem_mem _)
 have hc:=h3 (xs[ad]'(by omega)) (List.getElem_mem _)
 generalize ls[k]'(_)=y at*
 generalize xs[ad]'(_)=x at*
 obtain⟨A2,c2,tag,dt,ys⟩:=y
 obtain⟨t,v⟩:=x
 unfold LnV.v at q1
 unfold CV.cs at q2
 dsimp only at*
 rw[h1,h2]
 refine enterR Tryz.func94 rfl rfl rfl fun a hs hm=>?_
 by_cases ht:tag=(n:Int)
 ·obtain⟨t1,t2,t3,t4⟩:=hv.at_ (by dsimp only;omega)
  dsimp only at t4
  obtain⟨b3,o3,rfl,hb3,r3⟩:=hr.ro (by rw[cvs_len];omega)
  have q3:=r3.flat CV.cs_len (show j<ys.length by omega)
  have hc2:=hv.cv (ys[j]'(by omega)) (List.getElem_mem _)
  generalize ys[j]'(_)=x2 at*
  obtain⟨s,u⟩:=x2
  unfold CV.cs at q3
  dsimp only at q3
  rw[t4]at q1
  refine gs377c_ ?_;clear hs hm a;intros;rename_i a hm hs
  obtain⟨g4,rfl⟩:=hs.pp 4
  exact gRetN tab hs rfl (.cons (.cells rfl rfl rfl rfl (hm.ro (k:=0) (n:=2) (g:=g4) mem_ (cutF_ok rfl))) .nil) ⟨⟨s,u⟩,rfl,hc2,hm.fr⟩
 ·refine gs377c_ ?_;clear hs hm a;intros;rename_i a hm hs
  obtain⟨g4,rfl⟩:=hs.pp 4
  exact gRetN tab hs rfl (.cons (.cells rfl rfl rfl rfl (hm.ro (k:=0) (n:=2) (g:=g4) mem_ (cutF_ok rfl))) .nil) ⟨⟨t,v⟩,rfl,hc,hm.fr⟩
theorem gcLay61_{G H:Prop}(k:H)(s:Bx H→G:=by intro k_;(repeat(first|(refine ov5a1a_ ?_;(try clear hs a);intro a hs)|((with_reducible apply lCons);first|(refine dv hs gw_ rfl rfl da_ ?_;(try clear hs hm a);rintro _ w_ ⟨g_,rfl,-,hm⟩ a hs)|(refine stn hs rfl rfl ds_ ?_;(try clear hs hm a);rintro-w_ hm a hs))|refine sc_ ?_|((with_reducible apply lCons);first|(refine dvc hs hm gw_ rfl rfl rfl rfl rfl (pl 74 rfl) (hn true _) ?_;(try clear hs hm a);intro w_ hm a hs))));(first|(have m_:=hm;have s_:=hs;clear hs;(try clear hm);revert m_ s_ a)|((first|refine rexc_ hs hm ?_|refine rexl_ hs hm ?_|refine rexg_ hs hm ?_|refine rexq_ hs hm ?_);intro a hm hs;revert hm hs a));(try revert w_);(repeat revert g_);exact k_.h):G:=s ⟨k⟩
def numF(op b c:Int):Int × Int:=
 if op=3 then(IntKind.u16.wrap (b+c),0)else if op=4 then(IntKind.u16.wrap (b-c),0)else if op=5 then(IntKind.u16.wrap (b*c),0)
 else if op=6 then(if c=0 then(0,5)else(IntKind.u16.wrap (b.tdiv c),0))else if op=7 then(if c=0 then(0,5)else(b%c,0))
 else if op=8 then(bits .and .u16 b c,0)else if op=9 then(bits .or .u16 b c,0)else if op=10 then(bits .xor .u16 b c,0)
 else if op=11 then(IntKind.u16.wrap (b*2 ^ (min (c%16).toNat IntKind.u16.bits)),0)else if op=12 then(b.fdiv (2 ^ (min (c%16).toNat IntKind.u16.bits)),0)
 else(if b<c then 1 else 0,0)
theorem rnum_c(op b c:Int)(w:World)(hop:3≤op∧op≤13)(hb:0≤b∧b≤65535)(hc:0≤c∧c≤65535):Ret Tryz.prog 75 [.int .i64 op,.int .u16 b,.int .u16 c] w (fun u w'=>u= .tuple #[clV 0 (numF op b c).1,.int .i64 (numF op b c).2]∧Pu w w'):=by
 have hn:=fun v w=>flg_c v w
 unfold clV at*
 by_cases h13:op=13
 ·subst h13
  by_cases hlt:b<c
  ·rw[show numF 13 b c=(1,0) by simp[numF,hlt]]
   replace hn:=fun _:Bool=>hn true
   refine enterR Tryz.func75 rfl rfl rfl fun a hs hm=>?_
   refine gcLay61_ ?_;clear hs hm a;intros;rename_i a hm hs
   exact z12c7_
  ·rw[show numF 13 b c=(0,0) by simp[numF,hlt]]
   replace hn:=fun _:Bool=>hn false
   refine enterR Tryz.func75 rfl rfl rfl fun a hs hm=>?_
   refine gcLay61_ ?_;clear hs hm a;intros;rename_i a hm hs
   exact z12c7_
 by_cases h0:c=0
 ·rcases(by omega:op=3∨op=4∨op=5∨op=6∨op=7∨op=8∨op=9∨op=10∨op=11∨op=12)with rfl|rfl|rfl|rfl|rfl|rfl|rfl|rfl|rfl|rfl
  iterate 3
   ·skip
    refine enterR Tryz.func75 rfl rfl rfl fun a hs hm=>?_
    refine gcLay61_ ?_;clear hs hm a;intros;rename_i a hm hs
    exact z12c7_
  iterate 2
   ·rw[show numF _ b c=((0:Int),(5:Int)) by simp[numF,h0]]
    refine enterR Tryz.func75 rfl rfl rfl fun a hs hm=>?_
    refine gcLay61_ ?_;clear hs hm a;intros;rename_i a hm hs
    exact z12c7_
  iterate 5
   ·skip
    refine enterR Tryz.func75 rfl rfl rfl fun a hs hm=>?_
    refine gcLay61_ ?_;clear hs hm a;intros;rename_i a hm hs
    exact z12c7_
 ·rcases(by omega:op=3∨op=4∨op=5∨op=6∨op=7∨op=8∨op=9∨op=10∨op=11∨op=12)with rfl|rfl|rfl|rfl|rfl|rfl|rfl|rfl|rfl|rfl
  iterate 3
   ·skip
    refine enterR Tryz.func75 rfl rfl rfl fun a hs hm=>?_
    refine gcLay61_ ?_;clear hs hm a;intros;rename_i a hm hs
    exact z12c7_
  ·rw[show numF 6 b c=(IntKind.u16.wrap (b.tdiv c),0) by simp[numF,h0]]
   refine enterR Tryz.func75 rfl rfl rfl fun a hs hm=>?_
   refine gcLay61_ ?_;clear hs hm a;intros;rename_i a hm hs
   exact z12c7_
  ·rw[show numF 7 b c=(b%c,0) by simp[numF,h0]]
   refine enterR Tryz.func75 rfl rfl rfl fun a hs hm=>?_
   refine gcLay61_ ?_;clear hs hm a;intros;rename_i a hm hs
   exact z12c7_
  iterate 5
   ·skip
    refine enterR Tryz.func75 rfl rfl rfl fun a hs hm=>?_
    refine gcLay61_ ?_;clear hs hm a;intros;rename_i a hm hs
    exact z12c7_
def doF(x:LS)(op t v s u:Int):(Int × Int) × Int:=
 if op<3∨14<op then((0,0),1)
 else if op=14 then((0,if t=s∧v=u then 1 else 0),0)
 else if t=0∧s=0 then((0,(numF op v u).1),(numF op v u).2)
 else if t=1∧s=0∧op=3 then movF x 1 v u false
 else if t=1∧s=0∧op=4 then movF x 1 v u true
 else if t=0∧s=1∧op=3 then movF x 1 u v false
 else if t=1∧s=1∧op=4 then match aptF x v u with
  |none=>((0,0),4)
  |some (p,q)=>((0,IntKind.u16.wrap (p.2-q.2)),0)
 else if t=1∧s=1∧op=13 then match aptF x v u with
  |none=>((0,0),4)
  |some (p,q)=>((0,if p.2<q.2 then 1 else 0),0)
 else((0,0),3)
def dV(r:(Int × Int) × Int):Value:= .tuple #[clV r.1.1 r.1.2,.int .i64 r.2]
def aptR(op:Int):Option ((Nat × Int) × (Nat × Int))→(Int × Int) × Int
 |none=>((0,0),4)
 |some (p,q)=>if op=4 then((0,IntKind.u16.wrap (p.2-q.2)),0)else((0,if p.2<q.2 then 1 else 0),0)
theorem doF_apt{x:LS}{op v u:Int}(hop:op=4∨op=13):doF x op 1 v 1 u=aptR op (aptF x v u):=by
 unfold aptR
 rcases hop with rfl|rfl
 ·cases h:aptF x v u<;>simp[doF,h]
 ·cases h:aptF x v u<;>simp[doF,h]
theorem gpLay80_{G H:Prop}(k:H)(s:Bx H→G:=by intro k_;(repeat(first|(refine ov701a_ ?_;(try clear hs a);intro a hs)|((with_reducible apply lCons);first|(refine dv hs gw_ rfl rfl da_ ?_;(try clear hs hm a);rintro _ w_ ⟨g_,rfl,-,hm⟩ a hs)|(refine stn hs rfl rfl ds_ ?_;(try clear hs hm a);rintro-w_ hm a hs))|refine sc_ ?_));have m_:=hm;have s_:=hs;clear hs;(try clear hm);revert m_ s_ a;(try revert w_);(repeat revert g_);exact k_.h):G:=s ⟨k⟩
theorem gcLay81_{G H:Prop}(k:H)(s:Bx H→G:=by intro k_;(repeat(first|(refine ov701a_ ?_;(try clear hs a);intro a hs)|((with_reducible apply lCons);first|(refine dv hs gw_ rfl rfl da_ ?_;(try clear hs hm a);rintro _ w_ ⟨g_,rfl,-,hm⟩ a hs)|(refine stn hs rfl rfl ds_ ?_;(try clear hs hm a);rintro-w_ hm a hs))|refine sc_ ?_|((with_reducible apply lCons);first|(refine dvc hs hm gw_ rfl rfl rfl rfl rfl (pl 71 rfl) (hrs _ hm.fr) ?_;(try clear hs hm a);intro w_ hm a hs)|(refine dvc hs hm gw_ rfl rfl rfl rfl rfl (pl 72 rfl) (hin _ hm.fr) ?_;(try clear hs hm a);intro w_ hm a hs))));(first|(have m_:=hm;have s_:=hs;clear hs;(try clear hm);revert m_ s_ a)|((first|refine rexc_ hs hm ?_|refine rexl_ hs hm ?_|refine rexg_ hs hm ?_|refine rexq_ hs hm ?_);intro a hm hs;revert hm hs a));(try revert w_);(repeat revert g_);exact k_.h):G:=s ⟨k⟩
theorem rmov_c(x:LS)(t v k:Int)(back:Bool)(w:World)(hx:x.ok w)(hv:0≤v∧v≤65535)(hk:0≤k∧k≤65535):
  Ret Tryz.prog 43 [x.l,x.s,clV t v,.int .u16 k,.bool back] w (fun u w'=>u= .tuple #[clV (movF x t v k back).1.1 (movF x t v k back).1.2,.int .i64 (movF x t v k back).2]∧Pu w w'):=by
 have hrs:=hx.rrsv hv
 have hwk:=wrapS hk
 have hoff:=fun r o=>hx.off (v:=v) (r:=r) (o:=o)
 have had:=fun(r:Nat) (o:Int) w'' (hf:Pu w w'')=>rins_c x.B x.n x.d x.ss (r:Int) o w'' hx.sl (hf.rd' hx.sr)
 generalize hR:movF x t v k back=R
 unfold movF at hR
 unfold LS.l LS.s clV at*
 by_cases ht:t=1
 ·rw[if_pos ht]at hR
  cases hq:resF x.bs x.ss v x.n with
  |none=>
   rw[hq]at hrs hR
   unfold rsvV at hrs
   subst hR
   refine enterR Tryz.func43 rfl rfl rfl fun a hs hm=>?_
   repeat(first|(refine gpLay80_ ?_;clear hs hm a;intros;rename_i w a hm hs)|refine sc_ ?_|((with_reducible apply lCons);first|(refine dvc hs hm gw_ rfl rfl rfl rfl rfl (pl 71 rfl) (hrs _ hm.fr) ?_;clear hs hm a;intro w hm a hs)))
   exact z12c7_
  |some p=>
   obtain⟨r,o⟩:=p
   obtain⟨f1,f2,f3,f4⟩:=hoff r o hq
   rw[hq]at hrs hR
   unfold rsvV at hrs
   dsimp only at hR
   cases back
   ·rw[if_neg (show¬false=true by simp)]at hR
    have hin:∀w'',Pu w w''→Ret Tryz.prog 72 [.slice x.B x.n x.d,.agg #[.int .i64 (r:Int),.int .i64 (o+IntKind.i64.wrap k)]] w'' (fun v w'=>v= .bool (insF x.ss r (o+k))∧Pu w'' w'):=fun w'' hf=>by rw[hwk];exact had r (o+k) w'' hf
    cases hi:insF x.ss (r:Int) (o+k)
    ·rw[hi,if_neg (show¬false=true by simp)]at hR
     rw[hi]at hin
     subst hR
     refine enterR Tryz.func43 rfl rfl rfl fun a hs hm=>?_
     refine gcLay81_ ?_;clear hs hm a;intros;rename_i w a hm hs
     exact z12c7_
    ·rw[hi,if_pos (show true=true from rfl)]at hR
     rw[hi]at hin
     have hi2:=insF_t.1 hi
     have hss:=hx.s (x.ss[r]'(by omega)) (List.getElem_mem _)
     rw[Int.toNat_natCast,getI (by omega)]at hi2
     have hlt:r<x.bs.length:=by rw[hx.bl];exact f1
     obtain⟨b1,o1,hA,hb1,r1⟩:=hx.br.ro (by rw[ints_len];omega)
     have e1:=ints_some (xs:=x.bs) (k:=r) hlt
     have hg1:=getI (l:=x.bs) (k:=r) hlt
     have hbk:=hx.b x.bs[r] (List.getElem_mem hlt)
     rw[hg1]at hR
     rw[hA]at hrs ⊢
     generalize x.bs[r]'(_)=bk at*
     subst hR
     refine enterR Tryz.func43 rfl rfl rfl fun a hs hm=>?_
     refine gcLay81_ ?_;clear hs hm a;intros;rename_i a hm hs
     obtain⟨g5,rfl⟩:=hs.pp 5
     obtain⟨g7,rfl⟩:=hs.pp 7
     obtain⟨g10,rfl⟩:=hs.pp 10
     obtain⟨g12,rfl⟩:=hs.pp 12
     rw[hwk]at hs hm
     refine cDrawT (n:=13) (.s [0,1,2,3,4,5,6,7,8,9,10]<| .o 11<| .t 12<| .d) [⟨some g12,129,[.int .i64 (r:Int),.int .i64 (o+k)]⟩,⟨some g5,25,[.slice (some ⟨b1,o1,none⟩) x.n x.c,.int .u16 x.key]⟩] hm rfl rfl ?_
     clear hm;intro t_ w1_ hm
     repeat' (first|(refine dg149e_ ?_;clear t_ hs hm a;intros;rename_i a hm hs t_)|refine tE t_ ?_|refine tC ?_ ?_|exact tN|intro t_|(refine tD t_ ?_;(refine gsc5af_ ?_;clear hs hm a;intros;rename_i a hm hs);(exact gRetN tab hs rfl (.cons (.cells rfl rfl rfl rfl (hm.ro (k:=0) (n:=2) mem_ (cutF_ok rfl))) (.cons (.tmp rfl) .nil)) ⟨rfl,hm.fr⟩))|fail)
   ·rw[if_pos (show true=true from rfl)]at hR
    have hin:∀w'',Pu w w''→Ret Tryz.prog 72 [.slice x.B x.n x.d,.agg #[.int .i64 (r:Int),.int .i64 (o-IntKind.i64.wrap k)]] w'' (fun v w'=>v= .bool (insF x.ss r (o+-k))∧Pu w'' w'):=fun w'' hf=>by rw[hwk];exact had r (o+-k) w'' hf
    cases hi:insF x.ss (r:Int) (o+-k)
    ·rw[hi,if_neg (show¬false=true by simp)]at hR
     rw[hi]at hin
     subst hR
     refine enterR Tryz.func43 rfl rfl rfl fun a hs hm=>?_
     refine gcLay81_ ?_;clear hs hm a;intros;rename_i a hm hs
     exact z12c7_
    ·rw[hi,if_pos (show true=true from rfl)]at hR
     rw[hi]at hin
     have hi2:=insF_t.1 hi
     have hss:=hx.s (x.ss[r]'(by omega)) (List.getElem_mem _)
     rw[Int.toNat_natCast,getI (by omega)]at hi2
     have hlt:r<x.bs.length:=by rw[hx.bl];exact f1
     obtain⟨b1,o1,hA,hb1,r1⟩:=hx.br.ro (by rw[ints_len];omega)
     have e1:=ints_some (xs:=x.bs) (k:=r) hlt
     have hg1:=getI (l:=x.bs) (k:=r) hlt
     have hbk:=hx.b x.bs[r] (List.getElem_mem hlt)
     rw[hg1]at hR
     rw[hA]at hrs ⊢
     generalize x.bs[r]'(_)=bk at*
     subst hR
     refine enterR Tryz.func43 rfl rfl rfl fun a hs hm=>?_
     refine gcLay81_ ?_;clear hs hm a;intros;rename_i a hm hs
     obtain⟨g5,rfl⟩:=hs.pp 5
     obtain⟨g7,rfl⟩:=hs.pp 7
     obtain⟨g10,rfl⟩:=hs.pp 10
     obtain⟨g12,rfl⟩:=hs.pp 12
     rw[hwk]at hs hm
     refine cDrawT (n:=13) (.s [0,1,2,3,4,5,6,7,8,9,10]<| .o 11<| .t 12<| .d) [⟨some g12,129,[.int .i64 (r:Int),.int .i64 (o-k)]⟩,⟨some g5,25,[.slice (some ⟨b1,o1,none⟩) x.n x.c,.int .u16 x.key]⟩] hm rfl rfl ?_
     clear hm;intro t_ w1_ hm
     repeat' (first|(refine dg149e_ ?_;clear t_ hs hm a;intros;rename_i a hm hs t_)|refine tE t_ ?_|refine tC ?_ ?_|exact tN|intro t_|(refine tD t_ ?_;(refine gsc5af_ ?_;clear hs hm a;intros;rename_i a hm hs);(exact gRetN tab hs rfl (.cons (.cells rfl rfl rfl rfl (hm.ro (k:=0) (n:=2) mem_ (cutF_ok rfl))) (.cons (.tmp rfl) .nil)) ⟨rfl,hm.fr⟩))|fail)
 ·rw[if_neg ht]at hR
  subst hR
  refine enterR Tryz.func43 rfl rfl rfl fun a hs hm=>?_
  refine gsc5af_ ?_;clear hs hm a;intros;rename_i a hm hs
  exact z12c7_
theorem gcLay90_{G H:Prop}(k:H)(s:Bx H→G:=by intro k_;(repeat(first|(refine ov701a_ ?_;(try clear hs a);intro a hs)|((with_reducible apply lCons);first|(refine dv hs gw_ rfl rfl da_ ?_;(try clear hs hm a);rintro _ w_ ⟨g_,rfl,-,hm⟩ a hs)|(refine stn hs rfl rfl ds_ ?_;(try clear hs hm a);rintro-w_ hm a hs))|refine sc_ ?_|((with_reducible apply lCons);first|(refine dvc hs hm gw_ rfl rfl rfl rfl rfl (pl 71 rfl) (h1 _ hm.fr) ?_;(try clear hs hm a);intro w_ hm a hs)|(refine dvc hs hm gw_ rfl rfl rfl rfl rfl (pl 71 rfl) (h2 _ hm.fr) ?_;(try clear hs hm a);intro w_ hm a hs))));(first|(have m_:=hm;have s_:=hs;clear hs;(try clear hm);revert m_ s_ a)|((first|refine rexc_ hs hm ?_|refine rexl_ hs hm ?_|refine rexg_ hs hm ?_|refine rexq_ hs hm ?_);intro a hm hs;revert hm hs a));(try revert w_);(repeat revert g_);exact k_.h):G:=s ⟨k⟩
def plV(p:Nat × Int):Value:= .agg #[.int .i64 (p.1:Int),.int .i64 p.2]
def opP:Option (Nat × Int)→Nat × Int
 |none=>(0,0)
 |some p=>p
theorem rsvV_o(p:Option (Nat × Int)):rsvV p= .tuple #[.agg #[.int .i64 ((opP p).1:Int),.int .i64 (opP p).2],.bool p.isSome]:=by
 cases p<;>rfl
theorem rapt_c(x:LS)(t v s u:Int)(w:World)(hx:x.ok w)(hv:0≤v∧v≤65535)(hu:0≤u∧u≤65535):
  Ret Tryz.prog 76 [x.l,x.s,clV t v,clV s u] w (fun z w'=>z= .tuple #[plV (opP (resF x.bs x.ss v x.n)),plV (opP (resF x.bs x.ss u x.n)),.bool (aptF x v u).isSome]∧Pu w w'):=by
 have h1:=hx.rrsv hv
 have h2:=hx.rrsv hu
 have hF:(aptF x v u).isSome=((resF x.bs x.ss v x.n).isSome&&((resF x.bs x.ss u x.n).isSome&&decide ((opP (resF x.bs x.ss v x.n)).1=(opP (resF x.bs x.ss u x.n)).1))):=by
  unfold aptF
  cases resF x.bs x.ss v x.n with
  |none=>rfl
  |some p=>
   cases resF x.bs x.ss u x.n with
   |none=>rfl
   |some q=>
    dsimp only[opP]
    by_cases h:p.1=q.1
    ·rw[if_pos h];simp[h]
    ·rw[if_neg h];simp[h]
 simp only[rsvV_o]at h1 h2
 rw[hF]
 unfold LS.l LS.s clV plV at*
 generalize resF x.bs x.ss v x.n=Q1 at*
 generalize resF x.bs x.ss u x.n=Q2 at*
 clear hF
 cases hb1:Q1.isSome
 ·rw[hb1]at h1
  cases hb2:Q2.isSome
  ·rw[hb2]at h2
   refine enterR Tryz.func76 rfl rfl rfl fun a hs hm=>?_
   refine gcLay90_ ?_;clear hs hm a;intros;rename_i a hm hs
   obtain⟨g8,rfl⟩:=hs.pp 8
   obtain⟨g9,rfl⟩:=hs.pp 9
   obtain⟨g11,rfl⟩:=hs.pp 11
   obtain⟨g13,rfl⟩:=hs.pp 13
   refine cDrawT (n:=16) (.s [0,1,2,3,4,5,6,7,8,9,10,11,12]<| .o 13<| .o 14<| .t 15<| .d) [⟨some g13,129,[.int .i64 ((opP Q2).1:Int),.int .i64 (opP Q2).2]⟩,⟨some g11,129,[.int .i64 ((opP Q1).1:Int),.int .i64 (opP Q1).2]⟩] hm rfl rfl ?_
   clear hm;intro t_ w1_ hm
   repeat' (first|(refine dg149e_ ?_;clear t_ hs hm a;intros;rename_i a hm hs t_)|refine tE t_ ?_|refine tC ?_ ?_|exact tN|intro t_|(refine tD t_ ?_;(refine gsc5af_ ?_;clear hs hm a;intros;rename_i a hm hs);(exact gRetN tab hs rfl (.cons (.cells rfl rfl rfl rfl (hm.ro (k:=0) (n:=2) mem_ (cutF_ok rfl))) (.cons (.cells rfl rfl rfl rfl (hm.ro (k:=0) (n:=2) mem_ (cutF_ok rfl))) (.cons (.tmp rfl) .nil))) ⟨by rw[Bool.false_and];rfl,hm.fr⟩))|fail)
  ·rw[hb2]at h2
   refine enterR Tryz.func76 rfl rfl rfl fun a hs hm=>?_
   refine gcLay90_ ?_;clear hs hm a;intros;rename_i a hm hs
   obtain⟨g8,rfl⟩:=hs.pp 8
   obtain⟨g9,rfl⟩:=hs.pp 9
   obtain⟨g11,rfl⟩:=hs.pp 11
   obtain⟨g13,rfl⟩:=hs.pp 13
   refine cDrawT (n:=16) (.s [0,1,2,3,4,5,6,7,8,9,10,11,12]<| .o 13<| .o 14<| .t 15<| .d) [⟨some g13,129,[.int .i64 ((opP Q2).1:Int),.int .i64 (opP Q2).2]⟩,⟨some g11,129,[.int .i64 ((opP Q1).1:Int),.int .i64 (opP Q1).2]⟩] hm rfl rfl ?_
   clear hm;intro t_ w1_ hm
   repeat' (first|(refine dg149e_ ?_;clear t_ hs hm a;intros;rename_i a hm hs t_)|refine tE t_ ?_|refine tC ?_ ?_|exact tN|intro t_|(refine tD t_ ?_;(refine gsc5af_ ?_;clear hs hm a;intros;rename_i a hm hs);(exact gRetN tab hs rfl (.cons (.cells rfl rfl rfl rfl (hm.ro (k:=0) (n:=2) mem_ (cutF_ok rfl))) (.cons (.cells rfl rfl rfl rfl (hm.ro (k:=0) (n:=2) mem_ (cutF_ok rfl))) (.cons (.tmp rfl) .nil))) ⟨by rw[Bool.false_and];rfl,hm.fr⟩))|fail)
 ·rw[hb1]at h1
  cases hb2:Q2.isSome
  ·rw[hb2]at h2
   refine enterR Tryz.func76 rfl rfl rfl fun a hs hm=>?_
   refine gcLay90_ ?_;clear hs hm a;intros;rename_i a hm hs
   obtain⟨g8,rfl⟩:=hs.pp 8
   obtain⟨g9,rfl⟩:=hs.pp 9
   obtain⟨g11,rfl⟩:=hs.pp 11
   obtain⟨g13,rfl⟩:=hs.pp 13
   refine cDrawT (n:=16) (.s [0,1,2,3,4,5,6,7,8,9,10,11,12]<| .o 13<| .o 14<| .t 15<| .d) [⟨some g13,129,[.int .i64 ((opP Q2).1:Int),.int .i64 (opP Q2).2]⟩,⟨some g11,129,[.int .i64 ((opP Q1).1:Int),.int .i64 (opP Q1).2]⟩] hm rfl rfl ?_
   clear hm;intro t_ w1_ hm
   repeat' (first|(refine dg149e_ ?_;clear t_ hs hm a;intros;rename_i a hm hs t_)|refine tE t_ ?_|refine tC ?_ ?_|exact tN|intro t_|(refine tD t_ ?_;(refine gsc5af_ ?_;clear hs hm a;intros;rename_i a hm hs);(exact gRetN tab hs rfl (.cons (.cells rfl rfl rfl rfl (hm.ro (k:=0) (n:=2) mem_ (cutF_ok rfl))) (.cons (.cells rfl rfl rfl rfl (hm.ro (k:=0) (n:=2) mem_ (cutF_ok rfl))) (.cons (.tmp rfl) .nil))) ⟨by rw[Bool.false_and];rfl,hm.fr⟩))|fail)
  ·rw[hb2]at h2
   by_cases hr:(opP Q1).1=(opP Q2).1
   ·rw[decide_eq_true hr]
    refine enterR Tryz.func76 rfl rfl rfl fun a hs hm=>?_
    refine gcLay90_ ?_;clear hs hm a;intros;rename_i a hm hs
    obtain⟨g8,rfl⟩:=hs.pp 8
    obtain⟨g9,rfl⟩:=hs.pp 9
    obtain⟨g11,rfl⟩:=hs.pp 11
    obtain⟨g13,rfl⟩:=hs.pp 13
    refine cDrawT (n:=16) (.s [0,1,2,3,4,5,6,7,8,9,10,11,12]<| .o 13<| .o 14<| .t 15<| .d) [⟨some g13,129,[.int .i64 ((opP Q2).1:Int),.int .i64 (opP Q2).2]⟩,⟨some g11,129,[.int .i64 ((opP Q1).1:Int),.int .i64 (opP Q1).2]⟩] hm rfl rfl ?_
    clear hm;intro t_ w1_ hm
    repeat' (first|(refine dg149e_ ?_;clear t_ hs hm a;intros;rename_i a hm hs t_)|refine tE t_ ?_|refine tC ?_ ?_|exact tN|intro t_|(refine tD t_ ?_;(refine gsc5af_ ?_;clear hs hm a;intros;rename_i a hm hs);(exact gRetN tab hs rfl (.cons (.cells rfl rfl rfl rfl (hm.ro (k:=0) (n:=2) mem_ (cutF_ok rfl))) (.cons (.cells rfl rfl rfl rfl (hm.ro (k:=0) (n:=2) mem_ (cutF_ok rfl))) (.cons (.tmp rfl) .nil))) ⟨by rw[Bool.true_and];rfl,hm.fr⟩))|fail)
   ·rw[decide_eq_false hr]
    refine enterR Tryz.func76 rfl rfl rfl fun a hs hm=>?_
    refine gcLay90_ ?_;clear hs hm a;intros;rename_i a hm hs
    obtain⟨g8,rfl⟩:=hs.pp 8
    obtain⟨g9,rfl⟩:=hs.pp 9
    obtain⟨g11,rfl⟩:=hs.pp 11
    obtain⟨g13,rfl⟩:=hs.pp 13
    refine cDrawT (n:=16) (.s [0,1,2,3,4,5,6,7,8,9,10,11,12]<| .o 13<| .o 14<| .t 15<| .d) [⟨some g13,129,[.int .i64 ((opP Q2).1:Int),.int .i64 (opP Q2).2]⟩,⟨some g11,129,[.int .i64 ((opP Q1).1:Int),.int .i64 (opP Q1).2]⟩] hm rfl rfl ?_
    clear hm;intro t_ w1_ hm
    repeat' (first|(refine dg149e_ ?_;clear t_ hs hm a;intros;rename_i a hm hs t_)|refine tE t_ ?_|refine tC ?_ ?_|exact tN|intro t_|(refine tD t_ ?_;(refine gsc5af_ ?_;clear hs hm a;intros;rename_i a hm hs);(exact gRetN tab hs rfl (.cons (.cells rfl rfl rfl rfl (hm.ro (k:=0) (n:=2) mem_ (cutF_ok rfl))) (.cons (.cells rfl rfl rfl rfl (hm.ro (k:=0) (n:=2) mem_ (cutF_ok rfl))) (.cons (.tmp rfl) .nil))) ⟨by rw[Bool.true_and];rfl,hm.fr⟩))|fail)
theorem gpLay100_{G H:Prop}(k:H)(s:Bx H→G:=by intro k_;(repeat(first|(refine ov701a_ ?_;(try clear hs a);intro a hs)|((with_reducible apply lCons);first|(refine dv hs gw_ rfl rfl da_ ?_;(try clear hs hm a);rintro _ w_ ⟨g_,rfl,-,hm⟩ a hs)|(refine stn hs rfl rfl ds_ ?_;(try clear hs hm a);rintro-w_ hm a hs))|refine sc_ ?_));have m_:=hm;have s_:=hs;clear hs;(try clear hm);revert m_ s_ a;(try revert w_);(repeat revert g_);exact k_.h):G:=s ⟨k⟩
theorem gcLay101_{G H:Prop}(k:H)(s:Bx H→G:=by intro k_;(repeat(first|(refine ov701a_ ?_;(try clear hs a);intro a hs)|((with_reducible apply lCons);first|(refine dv hs gw_ rfl rfl da_ ?_;(try clear hs hm a);rintro _ w_ ⟨g_,rfl,-,hm⟩ a hs)|(refine stn hs rfl rfl ds_ ?_;(try clear hs hm a);rintro-w_ hm a hs))|refine sc_ ?_|((with_reducible apply lCons);first|(refine dvc hs hm gw_ rfl rfl rfl rfl rfl (pl 43 rfl) (hmv _ hm.fr) ?_;(try clear hs hm a);intro w_ hm a hs))));(first|(have m_:=hm;have s_:=hs;clear hs;(try clear hm);revert m_ s_ a)|((first|refine rexc_ hs hm ?_|refine rexl_ hs hm ?_|refine rexg_ hs hm ?_|refine rexq_ hs hm ?_);intro a hm hs;revert hm hs a));(try revert w_);(repeat revert g_);exact k_.h):G:=s ⟨k⟩
theorem gcLay102_{G H:Prop}(k:H)(s:Bx H→G:=by intro k_;(repeat(first|(refine ov701a_ ?_;(try clear hs a);intro a hs)|((with_reducible apply lCons);first|(refine dv hs gw_ rfl rfl da_ ?_;(try clear hs hm a);rintro _ w_ ⟨g_,rfl,-,hm⟩ a hs)|(refine stn hs rfl rfl ds_ ?_;(try clear hs hm a);rintro-w_ hm a hs))|refine sc_ ?_|((with_reducible apply lCons);first|(refine dvc hs hm gw_ rfl rfl rfl rfl rfl (pl 76 rfl) (hap _ hm.fr) ?_;(try clear hs hm a);intro w_ hm a hs))));(first|(have m_:=hm;have s_:=hs;clear hs;(try clear hm);revert m_ s_ a)|((first|refine rexc_ hs hm ?_|refine rexl_ hs hm ?_|refine rexg_ hs hm ?_|refine rexq_ hs hm ?_);intro a hm hs;revert hm hs a));(try revert w_);(repeat revert g_);exact k_.h):G:=s ⟨k⟩
theorem rdo_out(x:LS)(op t v s u:Int)(w:World)(h:op<3∨14<op):Ret Tryz.prog 46 [x.l,x.s,.int .i64 op,clV t v,clV s u] w (fun z w'=>z=dV ((0,0),1)∧Pu w w'):=by
 unfold LS.l LS.s clV dV
 rcases h with h|h
 ·skip
  refine enterR Tryz.func46 rfl rfl rfl fun a hs hm=>?_
  refine gsc5af_ ?_;clear hs hm a;intros;rename_i a hm hs
  exact z12c7_
 ·skip
  refine enterR Tryz.func46 rfl rfl rfl fun a hs hm=>?_
  refine gsc5af_ ?_;clear hs hm a;intros;rename_i w a hm hs
  exact z12c7_
theorem rdo_eq(x:LS)(t v s u:Int)(w:World):Ret Tryz.prog 46 [x.l,x.s,.int .i64 14,clV t v,clV s u] w (fun z w'=>z=dV ((0,if t=s∧v=u then 1 else 0),0)∧Pu w w'):=by
 have ht:=fun w=>flg_c ((t==s)&&((v==u)&&true)) w
 have he:(if((t==s)&&((v==u)&&true))=true then(1:Int)else 0)=if t=s∧v=u then 1 else 0:=by
  by_cases h1:t=s<;>by_cases h2:v=u<;>simp[h1,h2]
 rw[he]at ht
 unfold LS.l LS.s clV dV at*
 refine enterR Tryz.func46 rfl rfl rfl fun a hs hm=>?_
 refine gsc5af_ ?_;clear hs hm a;intros;rename_i a hm hs
 refine toL hm (oneV hs (Wnt.none rfl) rfl rfl (by intro w hm;exact r_eqlSt (fl:=[(true,0,5),(true,1,23)]) hs rfl rfl rfl tab (by kernel_rfl) (by kernel_rfl) (by kernel_rfl) (by kernel_rfl) rfl) ?_)
 clear hs a
 intro a hs
 repeat(first|(refine gpLay100_ ?_;clear hs hm a;intros;rename_i w a hm hs)|refine sc_ ?_|((with_reducible apply lCons);first|(refine dvc hs hm gw_ rfl rfl rfl rfl rfl (pl 74 rfl) (ht _) ?_;clear hs hm a;intro w hm a hs)))
 exact z12c7_
theorem rdo_nn(x:LS)(op v u:Int)(w:World)(hop:3≤op∧op≤13)(hv:0≤v∧v≤65535)(hu:0≤u∧u≤65535):Ret Tryz.prog 46 [x.l,x.s,.int .i64 op,clV 0 v,clV 0 u] w (fun z w'=>z=dV ((0,(numF op v u).1),(numF op v u).2)∧Pu w w'):=by
 have hnum:=fun w=>rnum_c op v u w hop hv hu
 unfold LS.l LS.s clV dV at*
 refine enterR Tryz.func46 rfl rfl rfl fun a hs hm=>?_
 repeat(first|(refine gpLay100_ ?_;clear hs hm a;intros;rename_i w a hm hs)|refine sc_ ?_|((with_reducible apply lCons);first|(refine dvc hs hm gw_ rfl rfl rfl rfl rfl (pl 75 rfl) (hnum _) ?_;clear hs hm a;intro w hm a hs)))
 exact z12c7_
theorem rdo_pn(x:LS)(op v u:Int)(back:Bool)(w:World)(hx:x.ok w)(hop:(back=false∧op=3)∨(back=true∧op=4))(hv:0≤v∧v≤65535)(hu:0≤u∧u≤65535):Ret Tryz.prog 46 [x.l,x.s,.int .i64 op,clV 1 v,clV 0 u] w (fun z w'=>z=dV (movF x 1 v u back)∧Pu w w'):=by
 have hmv:=fun w'' (hf:Pu w w'')=>rmov_c x 1 v u back w'' (hx.pu hf) hv hu
 unfold LS.l LS.s clV dV at*
 rcases hop with⟨rfl,rfl⟩|⟨rfl,rfl⟩
 ·skip
  refine enterR Tryz.func46 rfl rfl rfl fun a hs hm=>?_
  refine gcLay101_ ?_;clear hs hm a;intros;rename_i a hm hs
  exact z12c7_
 ·skip
  refine enterR Tryz.func46 rfl rfl rfl fun a hs hm=>?_
  refine gcLay101_ ?_;clear hs hm a;intros;rename_i w a hm hs
  exact z12c7_
theorem rdo_np(x:LS)(v u:Int)(w:World)(hx:x.ok w)(hv:0≤v∧v≤65535)(hu:0≤u∧u≤65535):Ret Tryz.prog 46 [x.l,x.s,.int .i64 3,clV 0 v,clV 1 u] w (fun z w'=>z=dV (movF x 1 u v false)∧Pu w w'):=by
 have hmv:=fun w'' (hf:Pu w w'')=>rmov_c x 1 u v false w'' (hx.pu hf) hu hv
 unfold LS.l LS.s clV dV at*
 refine enterR Tryz.func46 rfl rfl rfl fun a hs hm=>?_
 refine gcLay101_ ?_;clear hs hm a;intros;rename_i w a hm hs
 exact z12c7_
theorem aptF_op{x:LS}{v u:Int}{p q:Nat × Int}(h:aptF x v u=some (p,q)):opP (resF x.bs x.ss v x.n)=p∧opP (resF x.bs x.ss u x.n)=q:=by
 unfold aptF at h
 cases h1:resF x.bs x.ss v x.n with
 |none=>rw[h1]at h;cases h
 |some p'=>
  cases h2:resF x.bs x.ss u x.n with
  |none=>rw[h1,h2]at h;cases h
  |some q'=>
   rw[h1,h2]at h
   dsimp only at h
   split at h
   ·obtain⟨rfl,rfl⟩:=Prod.mk.inj (Option.some.inj h)
    exact⟨rfl,rfl⟩
   ·cases h
theorem rdo_pp(x:LS)(op v u:Int)(w:World)(hx:x.ok w)(hop:op=4∨op=13)(hv:0≤v∧v≤65535)(hu:0≤u∧u≤65535):Ret Tryz.prog 46 [x.l,x.s,.int .i64 op,clV 1 v,clV 1 u] w (fun z w'=>z=dV (aptR op (aptF x v u))∧Pu w w'):=by
 have hap:=fun w'' (hf:Pu w w'')=>rapt_c x 1 v 1 u w'' (hx.pu hf) hv hu
 have htt:=fun w=>flg_c true w
 have htf:=fun w=>flg_c false w
 unfold LS.l LS.s clV dV plV at*
 cases hq:aptF x v u with
 |none=>
  rw[hq]at hap
  unfold aptR
  rcases hop with rfl|rfl
  ·skip
   refine enterR Tryz.func46 rfl rfl rfl fun a hs hm=>?_
   refine gcLay102_ ?_;clear hs hm a;intros;rename_i a hm hs
   exact z12c7_
  ·skip
   refine enterR Tryz.func46 rfl rfl rfl fun a hs hm=>?_
   refine gcLay102_ ?_;clear hs hm a;intros;rename_i a hm hs
   exact z12c7_
 |some pq=>
  obtain⟨p,q⟩:=pq
  obtain⟨e1,e2⟩:=aptF_op hq
  rw[hq,e1,e2]at hap
  have hb:=aptF_bd hx hq
  unfold aptR
  dsimp only
  rcases hop with rfl|rfl
  ·rw[if_pos rfl]
   refine enterR Tryz.func46 rfl rfl rfl fun a hs hm=>?_
   refine gcLay102_ ?_;clear hs hm a;intros;rename_i a hm hs
   exact z12c7_
  ·rw[if_neg (by omega)]
   by_cases hlt:p.2<q.2
   ·rw[if_pos hlt]
    refine enterR Tryz.func46 rfl rfl rfl fun a hs hm=>?_
    repeat(first|(refine gpLay100_ ?_;clear hs hm a;intros;rename_i a hm hs)|refine sc_ ?_|((with_reducible apply lCons);first|(refine dvc hs hm gw_ rfl rfl rfl rfl rfl (pl 76 rfl) (hap _ hm.fr) ?_;clear hs hm a;intro w hm a hs)|(refine dvc hs hm gw_ rfl rfl rfl rfl rfl (pl 74 rfl) (htt _) ?_;clear hs hm a;intro w hm a hs)))
    exact z12c7_
   ·rw[if_neg hlt]
    refine enterR Tryz.func46 rfl rfl rfl fun a hs hm=>?_
    repeat(first|(refine gpLay100_ ?_;clear hs hm a;intros;rename_i w a hm hs)|refine sc_ ?_|((with_reducible apply lCons);first|(refine dvc hs hm gw_ rfl rfl rfl rfl rfl (pl 76 rfl) (hap _ hm.fr) ?_;clear hs hm a;intro w hm a hs)|(refine dvc hs hm gw_ rfl rfl rfl rfl rfl (pl 74 rfl) (htf _) ?_;clear hs hm a;intro w hm a hs)))
    exact z12c7_
theorem rdo_tag(x:LS)(op t v s u:Int)(w:World)(hop:3≤op∧op≤13)(ht:t=0∨t=1∨t=2)(hs':s=0∨s=1∨s=2)(h00:¬(t=0∧s=0))(h10:¬(t=1∧s=0∧(op=3∨op=4)))(h01:¬(t=0∧s=1∧op=3))(h11:¬(t=1∧s=1∧(op=4∨op=13))):
  Ret Tryz.prog 46 [x.l,x.s,.int .i64 op,clV t v,clV s u] w (fun z w'=>z=dV ((0,0),3)∧Pu w w'):=by
 unfold LS.l LS.s clV dV
 rcases ht with rfl|rfl|rfl<;>rcases hs' with rfl|rfl|rfl
 ·exact absurd ⟨rfl,rfl⟩ h00
 ·by_cases h3:op=3
  ·exfalso;omega
  ·by_cases h4:op=4
   ·skip
    refine enterR Tryz.func46 rfl rfl rfl fun a hs hm=>?_
    refine gsc5af_ ?_;clear hs hm a;intros;rename_i a hm hs
    exact z12c7_
   ·by_cases h13:op=13
    ·skip
     refine enterR Tryz.func46 rfl rfl rfl fun a hs hm=>?_
     refine gsc5af_ ?_;clear hs hm a;intros;rename_i a hm hs
     exact z12c7_
    ·skip
     refine enterR Tryz.func46 rfl rfl rfl fun a hs hm=>?_
     refine gsc5af_ ?_;clear hs hm a;intros;rename_i a hm hs
     exact z12c7_
 ·by_cases h3:op=3
  ·skip
   refine enterR Tryz.func46 rfl rfl rfl fun a hs hm=>?_
   refine gsc5af_ ?_;clear hs hm a;intros;rename_i a hm hs
   exact z12c7_
  ·by_cases h4:op=4
   ·skip
    refine enterR Tryz.func46 rfl rfl rfl fun a hs hm=>?_
    refine gsc5af_ ?_;clear hs hm a;intros;rename_i a hm hs
    exact z12c7_
   ·by_cases h13:op=13
    ·skip
     refine enterR Tryz.func46 rfl rfl rfl fun a hs hm=>?_
     refine gsc5af_ ?_;clear hs hm a;intros;rename_i a hm hs
     exact z12c7_
    ·skip
     refine enterR Tryz.func46 rfl rfl rfl fun a hs hm=>?_
     refine gsc5af_ ?_;clear hs hm a;intros;rename_i a hm hs
     exact z12c7_
 ·by_cases h3:op=3
  ·exfalso;omega
  ·by_cases h4:op=4
   ·exfalso;omega
   ·by_cases h13:op=13
    ·skip
     refine enterR Tryz.func46 rfl rfl rfl fun a hs hm=>?_
     refine gsc5af_ ?_;clear hs hm a;intros;rename_i a hm hs
     exact z12c7_
    ·skip
     refine enterR Tryz.func46 rfl rfl rfl fun a hs hm=>?_
     refine gsc5af_ ?_;clear hs hm a;intros;rename_i a hm hs
     exact z12c7_
 ·by_cases h3:op=3
  ·skip
   refine enterR Tryz.func46 rfl rfl rfl fun a hs hm=>?_
   refine gsc5af_ ?_;clear hs hm a;intros;rename_i a hm hs
   exact z12c7_
  ·by_cases h4:op=4
   ·exfalso;omega
   ·by_cases h13:op=13
    ·exfalso;omega
    ·skip
     refine enterR Tryz.func46 rfl rfl rfl fun a hs hm=>?_
     refine gsc5af_ ?_;clear hs hm a;intros;rename_i a hm hs
     exact z12c7_
 ·by_cases h3:op=3
  ·skip
   refine enterR Tryz.func46 rfl rfl rfl fun a hs hm=>?_
   refine gsc5af_ ?_;clear hs hm a;intros;rename_i a hm hs
   exact z12c7_
  ·by_cases h4:op=4
   ·skip
    refine enterR Tryz.func46 rfl rfl rfl fun a hs hm=>?_
    refine gsc5af_ ?_;clear hs hm a;intros;rename_i a hm hs
    exact z12c7_
   ·by_cases h13:op=13
    ·skip
     refine enterR Tryz.func46 rfl rfl rfl fun a hs hm=>?_
     refine gsc5af_ ?_;clear hs hm a;intros;rename_i a hm hs
     exact z12c7_
    ·skip
     refine enterR Tryz.func46 rfl rfl rfl fun a hs hm=>?_
     refine gsc5af_ ?_;clear hs hm a;intros;rename_i a hm hs
     exact z12c7_
 ·by_cases h3:op=3
  ·skip
   refine enterR Tryz.func46 rfl rfl rfl fun a hs hm=>?_
   refine gsc5af_ ?_;clear hs hm a;intros;rename_i a hm hs
   exact z12c7_
  ·by_cases h4:op=4
   ·skip
    refine enterR Tryz.func46 rfl rfl rfl fun a hs hm=>?_
    refine gsc5af_ ?_;clear hs hm a;intros;rename_i a hm hs
    exact z12c7_
   ·by_cases h13:op=13
    ·skip
     refine enterR Tryz.func46 rfl rfl rfl fun a hs hm=>?_
     refine gsc5af_ ?_;clear hs hm a;intros;rename_i a hm hs
     exact z12c7_
    ·skip
     refine enterR Tryz.func46 rfl rfl rfl fun a hs hm=>?_
     refine gsc5af_ ?_;clear hs hm a;intros;rename_i a hm hs
     exact z12c7_
 ·by_cases h3:op=3
  ·skip
   refine enterR Tryz.func46 rfl rfl rfl fun a hs hm=>?_
   refine gsc5af_ ?_;clear hs hm a;intros;rename_i a hm hs
   exact z12c7_
  ·by_cases h4:op=4
   ·skip
    refine enterR Tryz.func46 rfl rfl rfl fun a hs hm=>?_
    refine gsc5af_ ?_;clear hs hm a;intros;rename_i a hm hs
    exact z12c7_
   ·by_cases h13:op=13
    ·skip
     refine enterR Tryz.func46 rfl rfl rfl fun a hs hm=>?_
     refine gsc5af_ ?_;clear hs hm a;intros;rename_i a hm hs
     exact z12c7_
    ·skip
     refine enterR Tryz.func46 rfl rfl rfl fun a hs hm=>?_
     refine gsc5af_ ?_;clear hs hm a;intros;rename_i a hm hs
     exact z12c7_
 ·by_cases h3:op=3
  ·skip
   refine enterR Tryz.func46 rfl rfl rfl fun a hs hm=>?_
   refine gsc5af_ ?_;clear hs hm a;intros;rename_i a hm hs
   exact z12c7_
  ·by_cases h4:op=4
   ·skip
    refine enterR Tryz.func46 rfl rfl rfl fun a hs hm=>?_
    refine gsc5af_ ?_;clear hs hm a;intros;rename_i a hm hs
    exact z12c7_
   ·by_cases h13:op=13
    ·skip
     refine enterR Tryz.func46 rfl rfl rfl fun a hs hm=>?_
     refine gsc5af_ ?_;clear hs hm a;intros;rename_i a hm hs
     exact z12c7_
    ·skip
     refine enterR Tryz.func46 rfl rfl rfl fun a hs hm=>?_
     refine gsc5af_ ?_;clear hs hm a;intros;rename_i w a hm hs
     exact z12c7_
theorem rdo_c(x:LS)(op t v s u:Int)(w:World)(hx:x.ok w)(ht:t=0∨t=1∨t=2)(hs':s=0∨s=1∨s=2)(hv:0≤v∧v≤65535)(hu:0≤u∧u≤65535):
  Ret Tryz.prog 46 [x.l,x.s,.int .i64 op,clV t v,clV s u] w (fun z w'=>z=dV (doF x op t v s u)∧Pu w w'):=by
 by_cases h1:op<3∨14<op
 ·rw[show doF x op t v s u=((0,0),1)from if_pos h1]
  exact rdo_out x op t v s u w h1
 by_cases h2:op=14
 ·subst h2
  exact rdo_eq x t v s u w
 have hop:3≤op∧op≤13:=by omega
 by_cases h00:t=0∧s=0
 ·obtain⟨rfl,rfl⟩:=h00
  rw[show doF x op 0 v 0 u=((0,(numF op v u).1),(numF op v u).2) by simp[doF,h1,h2]]
  exact rdo_nn x op v u w hop hv hu
 by_cases h10:t=1∧s=0∧op=3
 ·obtain⟨rfl,rfl,rfl⟩:=h10
  rw[show doF x 3 1 v 0 u=movF x 1 v u false by simp[doF]]
  exact rdo_pn x 3 v u false w hx (.inl ⟨rfl,rfl⟩) hv hu
 by_cases h10':t=1∧s=0∧op=4
 ·obtain⟨rfl,rfl,rfl⟩:=h10'
  rw[show doF x 4 1 v 0 u=movF x 1 v u true by simp[doF]]
  exact rdo_pn x 4 v u true w hx (.inr ⟨rfl,rfl⟩) hv hu
 by_cases h01:t=0∧s=1∧op=3
 ·obtain⟨rfl,rfl,rfl⟩:=h01
  rw[show doF x 3 0 v 1 u=movF x 1 u v false by simp[doF]]
  exact rdo_np x v u w hx hv hu
 by_cases h11:t=1∧s=1∧(op=4∨op=13)
 ·obtain⟨rfl,rfl,h11⟩:=h11
  rw[doF_apt h11]
  exact rdo_pp x op v u w hx h11 hv hu
 ·rw[show doF x op t v s u=((0,0),3) by
   unfold doF
   rw[if_neg h1,if_neg h2,if_neg h00,if_neg h10,if_neg h10',if_neg h01,if_neg (fun h=>h11 ⟨h.1,h.2.1,.inl h.2.2⟩),if_neg (fun h=>h11 ⟨h.1,h.2.1,.inr h.2.2⟩)]]
  exact rdo_tag x op t v s u w hop ht hs' h00 (by omega) h01 h11
theorem gcLay131_{G H:Prop}(k:H)(s:Bx H→G:=by intro k_;(repeat(first|(refine oq8d44_ ?_;(try clear hs a);intro a hs)|((with_reducible apply lCons);first|(refine dv hs gw_ rfl rfl da_ ?_;(try clear hs hm a);rintro _ w_ ⟨g_,rfl,-,hm⟩ a hs)|(refine stn hs rfl rfl ds_ ?_;(try clear hs hm a);rintro-w_ hm a hs))|((with_reducible apply qNil);(try clear hm);intro w_ hm)|refine cQ_ ?_|refine sc_ ?_|((with_reducible apply lCons);first|(refine dvc hs hm gw_ rfl rfl rfl rfl rfl (pl 71 rfl) (hrs _ hm.fr) ?_;(try clear hs hm a);intro w_ hm a hs))|((with_reducible apply qCons);first|(refine qwc hs gw_ rfl rfl rfl rfl rfl (pl 71 rfl) (fun w hm=>hrs _ hm.fr) ?_;(try clear hs a);intro a hs))));(first|(have m_:=hm;have s_:=hs;clear hs;(try clear hm);revert m_ s_ a)|((first|refine rexc_ hs hm ?_|refine rexl_ hs hm ?_|refine rexg_ hs hm ?_|refine rexq_ hs hm ?_);intro a hm hs;revert hm hs a));(try revert w_);(repeat revert g_);exact k_.h):G:=s ⟨k⟩
def wiF(x:LS)(t v n:Int):Int × Int:=
 if t=1 then match resF x.bs x.ss v x.n with
  |none=>(0,4)
  |some (r,o)=>if n<0∨x.ss.getD r 0-o<n then(0,4)else(v,0)
 else(0,3)
theorem rwi_c(x:LS)(t v k:Int)(w:World)(hx:x.ok w)(hv:0≤v∧v≤65535):
  Ret Tryz.prog 120 [x.l,x.s,clV t v,.int .i64 k] w (fun u w'=>u= .tuple #[.int .i64 (wiF x t v k).1,.int .i64 (wiF x t v k).2]∧Pu w w'):=by
 have hrs:=hx.rrsv hv
 have hwk:=wrapS hv
 unfold wiF
 by_cases ht:t=1
 ·rw[if_pos ht]
  cases hq:resF x.bs x.ss v x.n with
  |none=>
   rw[hq]at hrs
   unfold rsvV at hrs
   unfold LS.l LS.s clV at*
   refine enterR Tryz.func120 rfl rfl rfl fun a hs hm=>?_
   refine gcLay131_ ?_;clear hs hm a;intros;rename_i a hm hs
   exact z4ca6_
  |some p=>
   obtain⟨r,o⟩:=p
   obtain⟨f1,f2,f3,f4⟩:=hx.off hq
   rw[hq]at hrs
   unfold rsvV at hrs
   have hsl:=hx.sl
   have hlt:r<x.ss.length:=by omega
   obtain⟨b1,o1,hB,hb1,r1⟩:=hx.sr.ro (by rw[ints_len];omega)
   have e1:=ints_some (xs:=x.ss) (k:=r) hlt
   have hg1:=getI (l:=x.ss) (k:=r) hlt
   have hsk:=hx.s x.ss[r] (List.getElem_mem hlt)
   dsimp only
   rw[hg1]
   unfold LS.l LS.s clV at*
   rw[hB]at hrs ⊢
   generalize x.ss[r]'(_)=sk at*
   by_cases h1:k<0
   ·rw[if_pos (.inl h1)]
    refine enterR Tryz.func120 rfl rfl rfl fun a hs hm=>?_
    refine gcLay131_ ?_;clear hs hm a;intros;rename_i a hm hs
    exact z4ca6_
   ·by_cases h2:sk-o<k
    ·rw[if_pos (.inr h2)]
     refine enterR Tryz.func120 rfl rfl rfl fun a hs hm=>?_
     refine gcLay131_ ?_;clear hs hm a;intros;rename_i a hm hs
     exact z4ca6_
    ·rw[if_neg (by omega)]
     refine enterR Tryz.func120 rfl rfl rfl fun a hs hm=>?_
     refine gcLay131_ ?_;clear hs hm a;intros;rename_i a hm hs
     rw[hwk]at hs
     exact z4ca6_
 ·rw[if_neg ht]
  unfold LS.l LS.s clV at*
  refine enterR Tryz.func120 rfl rfl rfl fun a hs hm=>?_
  refine gcLay131_ ?_;clear hs hm a;intros;rename_i a hm hs
  exact z4ca6_
end Go.Proofs.YtbjffoojenpmfaaGreat
namespace Go.Proofs.YtbjffoojenpmfaaGreat
open Go.ChangeShapes Go.WideShapes Go.ChangeAt Go.RowKit
def IsInts(k:IntKind)(W:World)(A:Option Addr)(n c:Nat)(xs:List Int):Prop:=
 xs.length=n∧n≤c∧c≤9223372036854775807∧Rd W W.heap.size A (xs.map (Value.int k))∧∀x∈xs,(Lit.int k x).wf=true
section
variable {H:Type} {enc:TypeId × Value→H} {P:Program} {W:World} {base:Nat} {T E:TypeId} {v:Value} {d:DataW H} {p:List MemPlace}
theorem cell_lt{w:World}{a:Addr}{u:Value}(h:w.cell? a=some u):a.block<w.heap.size:=by
 rcases Nat.lt_or_ge a.block w.heap.size with hlt|hge
 ·exact hlt
 ·unfold World.cell? at h;rw[Array.getElem?_eq_none hge]at h;cases h
theorem opn_ints{k:IntKind}(hT:P.underlying T=some (.slice E))(hE:P.underlying E=some (.int k))(hc:P.cellsOf E=1)
  (hval:Value.okWide P W .any base T v) (h:DataW.Trod enc P W 0 (fun _=>true) true T v d p):∃A n c xs,v= .slice A n c∧IsInts k W A n c xs:=by
 obtain⟨A,n,c,rfl⟩:=okWide_slice hT hval
 obtain⟨fuel,hf⟩:=h
 rcases open_ints hT hE hc hf with⟨hcs,_⟩|⟨x,l,c',zs,hcs,_,hl,hm,hz,_,hcell,hwz⟩
 ·simp[Value.cells]at hcs
  obtain⟨rfl,rfl,rfl⟩:=hcs
  exact⟨none,0,0,[],rfl,rfl,Nat.le_refl _,by omega,Rd.nil,by simp⟩
 ·simp[Value.cells]at hcs
  obtain⟨rfl,rfl,rfl⟩:=hcs
  have hz':zs.length=c:=by simpa using hz
  refine⟨some x,n,c,zs.take n,rfl,by rw[List.length_take];omega,hl,hm,?_,fun y hy=>hwz y (List.mem_of_mem_take hy)⟩
  by_cases h0:0<zs.length
  ·refine Rd.of_add (cell_lt (hcell 0 h0)) fun j u hu=>?_
   rw[List.getElem?_map,List.getElem?_take]at hu
   split at hu
   ·cases hj:zs[j]? with
    |none=>rw[hj]at hu;simp at hu
    |some y=>
     rw[hj]at hu
     obtain⟨hlt,rfl⟩:=List.getElem?_eq_some_iff.1 hj
     have:=hcell j hlt
     simp at hu
     rw[←hu];simpa[List.getD,hlt]using this
   ·simp at hu
  ·have:zs=[]:=List.eq_nil_of_length_eq_zero (by omega)
   subst this
   rw[List.take_nil];exact Rd.nil
end
end Go.Proofs.YtbjffoojenpmfaaGreat
namespace Go.Proofs.YtbjffoojenpmfaaGreat
open Go.RowKit
theorem gcLay120_{G H:Prop}(k:H)(s:Bx H→G:=by intro k_;(repeat(first|(refine ov701a_ ?_;(try clear hs a);intro a hs)|((with_reducible apply lCons);first|(refine dv hs gw_ rfl rfl da_ ?_;(try clear hs hm a);rintro _ w_ ⟨g_,rfl,-,hm⟩ a hs)|(refine stn hs rfl rfl ds_ ?_;(try clear hs hm a);rintro-w_ hm a hs))|refine sc_ ?_|((with_reducible apply lCons);first|(refine dvc hs hm gw_ rfl rfl rfl rfl rfl (pl 71 rfl) (hrs _ hm.fr) ?_;(try clear hs hm a);intro w_ hm a hs))));(first|(have m_:=hm;have s_:=hs;clear hs;(try clear hm);revert m_ s_ a)|((first|refine rexc_ hs hm ?_|refine rexl_ hs hm ?_|refine rexg_ hs hm ?_|refine rexq_ hs hm ?_);intro a hm hs;revert hm hs a));(try revert w_);(repeat revert g_);exact k_.h):G:=s ⟨k⟩
def canF(x:LS)(t v:Int):Int × Int × Int × Int:=
 if t=0 then(0,v,0,0)else if t=2 then(2,IntKind.u16.wrap (v-x.key),0,0)else match resF x.bs x.ss v x.n with
  |some (r,o)=>(1,0,(r:Int),o)
  |none=>(1,0,-1,v)
theorem can_c(x:LS)(t v:Int)(w:World)(hx:x.ok w)(ht:t=0∨t=1∨t=2)(hv:t=1→0≤v∧v≤65535):
  Ret Tryz.prog 55 [x.l,x.s,clV t v] w (fun u w'=>u=cnV (canF x t v).1 (canF x t v).2.1 (canF x t v).2.2.1 (canF x t v).2.2.2∧Pu w w'):=by
 rcases ht with rfl|rfl|rfl
 ·unfold canF LS.l LS.s clV cnV
  rw[if_pos rfl]
  refine enterR Tryz.func55 rfl rfl rfl fun a hs hm=>?_
  refine gsc5af_ ?_;clear hs hm a;intros;rename_i a hm hs
  exact zb443_
 ·have hrs:=hx.rrsv (hv rfl)
  replace hv:=hv rfl
  have hwk:=wrapS hv
  unfold canF
  rw[if_neg (by omega),if_neg (by omega)]
  unfold LS.l LS.s clV cnV at*
  cases hq:resF x.bs x.ss v x.n with
  |none=>
   rw[hq]at hrs
   unfold rsvV at hrs
   refine enterR Tryz.func55 rfl rfl rfl fun a hs hm=>?_
   refine gcLay120_ ?_;clear hs hm a;intros;rename_i a hm hs
   rw[hwk]at hm
   exact zb443_
  |some p=>
   obtain⟨r,o⟩:=p
   rw[hq]at hrs
   unfold rsvV at hrs
   refine enterR Tryz.func55 rfl rfl rfl fun a hs hm=>?_
   refine gcLay120_ ?_;clear hs hm a;intros;rename_i a hm hs
   exact zb443_
 ·unfold canF LS.l LS.s clV cnV
  rw[if_neg (by omega),if_pos rfl]
  refine enterR Tryz.func55 rfl rfl rfl fun a hs hm=>?_
  refine gsc5af_ ?_;clear hs hm a;intros;rename_i w a hm hs
  exact zb443_
section
variable {x y:LS} {w w':World}
end
theorem gcSgm0_{G H:Prop}(k:H)(s:Bx H→G:=by intro k_;(repeat(first|(refine ovR_ ?_;(try clear hs a);intro a hs)|((with_reducible apply lCons);first|(refine dv hs gw_ rfl rfl da_ ?_;(try clear hs hm a);rintro _ w_ ⟨g_,rfl,-,hm⟩ a hs)|(refine stn hs rfl rfl ds_ ?_;(try clear hs hm a);rintro-w_ hm a hs))|refine sc_ ?_|((with_reducible apply lCons);first|(refine dvc hs hm gw_ rfl rfl rfl rfl rfl (pl 68 rfl) (hj _) ?_;(try clear hs hm a);intro w_ hm a hs))));(first|(have m_:=hm;have s_:=hs;clear hs;(try clear hm);revert m_ s_ a)|((first|refine rexc_ hs hm ?_|refine rexl_ hs hm ?_|refine rexg_ hs hm ?_|refine rexq_ hs hm ?_);intro a hm hs;revert hm hs a));(try revert w_);(repeat revert g_);exact k_.h):G:=s ⟨k⟩
structure PV.at(p:PV)(w:World)(N:Nat):Prop where
 c:Rd w N p.cA (p.code.flatMap inV)
 s:Rd w N p.sA (ints p.ss)
 d:Rd w N p.dA (p.ws.map WV.v)
 dd:∀r∈p.ws,Rd w N r.A (wds r.xs)
theorem PV.at.ok{p:PV}{w:World}{N:Nat}(h:p.at w N)(hN:N≤w.heap.size):p.ok w:=⟨h.c.more hN,h.s.more hN,h.d.more hN,fun r hr=>(h.dd r hr).more hN⟩
theorem PV.at.fr{p:PV}{S:Nat→Prop}{w w':World}{N:Nat}(h:p.at w N)(hf:Fr S w w')(hN:N≤w.heap.size)(hn:∀b,b<N→¬S b):p.at w' N:=⟨hf.rd h.c hN hn,hf.rd h.s hN hn,hf.rd h.d hN hn,fun r hr=>hf.rd (h.dd r hr) hN hn⟩
theorem PV.ok.at{p:PV}{w:World}(h:p.ok w):p.at w w.heap.size:=⟨h.c,h.s,h.d,h.dd⟩
def cvv(c:Int × Int):Prop:=(c.1=0∨c.1=1∨c.1=2)∧0≤c.2∧c.2≤65535
theorem u16_id{x:Int}(h:0≤x∧x≤65535):IntKind.u16.wrap x=x:=by simp[IntKind.wrap,IntKind.signed,IntKind.bits];omega
theorem movF_ok{x:LS}(hg:LGap x.bs x.ss)(t v k:Int)(back:Bool):cvv (movF x t v k back).1∧(0≤(movF x t v k back).2∧(movF x t v k back).2≤6)∧((movF x t v k back).2=0→∃ad:Nat,ad<512∧(movF x t v k back).1.2=(ad:Int)):=by
 have i4:(0:Int)≤4∧(4:Int)≤6:=by decide
 have i3:(0:Int)≤3∧(3:Int)≤6:=by decide
 have i0:(0:Int)≤0∧(0:Int)≤6:=by decide
 have z:cvv (0,0):=⟨.inl rfl,by decide,by decide⟩
 unfold movF
 split
 ·cases hr:resF x.bs x.ss v x.n with
  |none=>exact⟨z,i4,fun e=>absurd (show(4:Int)=0 from e) (by decide)⟩
  |some p=>
   obtain⟨r,o⟩:=p
   dsimp only
   generalize(if back=true then o+-k else o+k)=q
   by_cases hi:insF x.ss (r:Int) q=true
   ·rw[if_pos hi]
    rw[insF_t]at hi
    rw[Int.toNat_natCast]at hi
    have hb:=hg.b r (by have:=hg.len;omega)
    have h1:IntKind.u16.wrap (x.bs.getD r 0+q)=x.bs.getD r 0+q:=u16_id (by omega)
    rw[h1]
    refine⟨⟨.inr (.inl rfl),by dsimp only;omega,by dsimp only;omega⟩,i0,fun _=>⟨(x.bs.getD r 0+q).toNat,by omega,by dsimp only;omega⟩⟩
   ·rw[if_neg hi]
    exact⟨z,i4,fun e=>absurd e (by decide)⟩
 ·exact⟨z,i3,fun e=>absurd e (by decide)⟩
theorem numF_ok{op b c:Int}(hb:0≤b∧b≤65535)(hc:0≤c∧c≤65535):cvv (0,(numF op b c).1)∧0≤(numF op b c).2∧(numF op b c).2≤6:=by
 have i4:(0:Int)≤4∧(4:Int)≤6:=by decide
 have i3:(0:Int)≤3∧(3:Int)≤6:=by decide
 have i1:(0:Int)≤1∧(1:Int)≤6:=by decide
 have i5:(0:Int)≤5∧(5:Int)≤6:=by decide
 have i0:(0:Int)≤0∧(0:Int)≤6:=by decide
 have z:cvv (0,0):=⟨.inl rfl,by decide,by decide⟩
 have hw:∀v:Int,cvv (0,IntKind.u16.wrap v):=fun v=>⟨.inl rfl,by simp[IntKind.wrap,IntKind.signed,IntKind.bits];omega,by simp[IntKind.wrap,IntKind.signed,IntKind.bits];omega⟩
 unfold numF
 split;exact⟨hw _,i0⟩
 split;exact⟨hw _,i0⟩
 split;exact⟨hw _,i0⟩
 split
 ·split
  ·first|exact⟨z,i0⟩|exact⟨z,i5⟩|exact⟨z,i1⟩|exact⟨z,i4⟩|exact⟨z,i3⟩
  ·exact⟨hw _,i0⟩
 split
 ·split
  ·first|exact⟨z,i0⟩|exact⟨z,i5⟩|exact⟨z,i1⟩|exact⟨z,i4⟩|exact⟨z,i3⟩
  ·next h0=>
   have h1:=Int.emod_nonneg b h0
   have h2:=Int.emod_lt_of_pos b (show 0<c by omega)
   exact⟨⟨.inl rfl,h1,by dsimp only;omega⟩,i0⟩
 split;exact⟨hw _,i0⟩
 split;exact⟨hw _,i0⟩
 split;exact⟨hw _,i0⟩
 split;exact⟨hw _,i0⟩
 split
 ·have hp:(0:Int)<2 ^ (min (c%16).toNat IntKind.u16.bits):=Int.pow_pos (by decide)
  generalize(2:Int) ^ (min (c%16).toNat IntKind.u16.bits)=d at*
  rw[Int.fdiv_eq_ediv_of_nonneg _ (by omega)]
  have h1:=Int.ediv_nonneg hb.1 (show 0≤d by omega)
  have h2:=Int.ediv_le_self d hb.1
  exact⟨⟨.inl rfl,h1,by dsimp only;omega⟩,i0⟩
 ·refine⟨⟨.inl rfl,?_,?_⟩,i0⟩<;>dsimp only<;>split<;>omega
theorem doF_ok{x:LS}(hg:LGap x.bs x.ss){op t v s u:Int}(hv:0≤v∧v≤65535)(hu:0≤u∧u≤65535):cvv (doF x op t v s u).1∧0≤(doF x op t v s u).2∧(doF x op t v s u).2≤6:=by
 have i4:(0:Int)≤4∧(4:Int)≤6:=by decide
 have i3:(0:Int)≤3∧(3:Int)≤6:=by decide
 have i1:(0:Int)≤1∧(1:Int)≤6:=by decide
 have i5:(0:Int)≤5∧(5:Int)≤6:=by decide
 have i0:(0:Int)≤0∧(0:Int)≤6:=by decide
 have z:cvv (0,0):=⟨.inl rfl,by decide,by decide⟩
 have o:cvv (0,1):=⟨.inl rfl,by decide,by decide⟩
 have hw:∀v:Int,cvv (0,IntKind.u16.wrap v):=fun v=>⟨.inl rfl,by simp[IntKind.wrap,IntKind.signed,IntKind.bits];omega,by simp[IntKind.wrap,IntKind.signed,IntKind.bits];omega⟩
 unfold doF
 split;exact⟨z,i1⟩
 split
 ·split
  ·exact⟨o,i0⟩
  ·first|exact⟨z,i0⟩|exact⟨z,i5⟩|exact⟨z,i1⟩|exact⟨z,i4⟩|exact⟨z,i3⟩
 split
 ·have:=numF_ok (op:=op) hv hu
  exact⟨this.1,this.2⟩
 split;exact⟨(movF_ok hg 1 v u false).1,(movF_ok hg 1 v u false).2.1⟩
 split;exact⟨(movF_ok hg 1 v u true).1,(movF_ok hg 1 v u true).2.1⟩
 split;exact⟨(movF_ok hg 1 u v false).1,(movF_ok hg 1 u v false).2.1⟩
 split
 ·cases aptF x v u with
  |none=>first|exact⟨z,i0⟩|exact⟨z,i5⟩|exact⟨z,i1⟩|exact⟨z,i4⟩|exact⟨z,i3⟩
  |some p=>exact⟨hw _,i0⟩
 split
 ·cases aptF x v u with
  |none=>first|exact⟨z,i0⟩|exact⟨z,i5⟩|exact⟨z,i1⟩|exact⟨z,i4⟩|exact⟨z,i3⟩
  |some p=>
   dsimp only
   split
   ·exact⟨o,i0⟩
   ·first|exact⟨z,i0⟩|exact⟨z,i5⟩|exact⟨z,i1⟩|exact⟨z,i4⟩|exact⟨z,i3⟩
 ·first|exact⟨z,i0⟩|exact⟨z,i5⟩|exact⟨z,i1⟩|exact⟨z,i4⟩|exact⟨z,i3⟩
def branB(op:Int):Bool:=jumpB op||(decide (op=22)||decide (op=24))
theorem bran_c(op:Int)(wB:World):Ret Tryz.prog 47 [.int .i64 op] wB (fun u w'=>u= .bool (branB op)∧Pu wB w'):=by
 have hj:=fun w=>jump_c op w
 unfold branB
 generalize jumpB op=jb at*
 by_cases h1:op=22
 ·subst h1
  refine enterR Tryz.func47 rfl rfl rfl fun a hs hm=>?_
  cases jb
  ·refine gcSgm0_ ?_;clear hs hm a;intros;rename_i a hm hs
   exact gRet1 hs rfl rfl ⟨rfl,hm.fr⟩
  ·refine gcSgm0_ ?_;clear hs hm a;intros;rename_i a hm hs
   exact gRet1 hs rfl rfl ⟨rfl,hm.fr⟩
 ·rw[decide_eq_false h1]
  by_cases h2:op=24
  ·subst h2
   refine enterR Tryz.func47 rfl rfl rfl fun a hs hm=>?_
   cases jb
   ·refine gcSgm0_ ?_;clear hs hm a;intros;rename_i a hm hs
    exact gRet1 hs rfl rfl ⟨rfl,hm.fr⟩
   ·refine gcSgm0_ ?_;clear hs hm a;intros;rename_i a hm hs
    exact gRet1 hs rfl rfl ⟨rfl,hm.fr⟩
  ·rw[decide_eq_false h2]
   refine enterR Tryz.func47 rfl rfl rfl fun a hs hm=>?_
   cases jb
   ·refine gcSgm0_ ?_;clear hs hm a;intros;rename_i a hm hs
    exact gRet1 hs rfl rfl ⟨rfl,hm.fr⟩
   ·refine gcSgm0_ ?_;clear hs hm a;intros;rename_i a hm hs
    exact gRet1 hs rfl rfl ⟨rfl,hm.fr⟩
theorem trap_c(g k:Nat)(tcs:List Value)(why:Int)(wB:World)(hg:(⟨some g,52,tcs⟩:Hp).sat wB)(hk:k*8+8≤tcs.length):Ret Tryz.prog 42 [.pointer (some ⟨g,k*8,none⟩),.int .i64 why] wB (fun u w'=>u= .int .i64 2∧Mm (own [⟨some g,52,tcs⟩]) wB [⟨some g,52,((tcs.set (k*8+0) (.int .i64 4)).set (k*8+6) (.int .i64 why)).set (k*8+7) (.int .u16 0)⟩] w'):=by
 have l0:k*8+0<tcs.length:=by omega
 have l1:k*8+6<(tcs.set (k*8+0) (.int .i64 4)).length:=by rw[List.length_set];omega
 have l2:k*8+7<((tcs.set (k*8+0) (.int .i64 4)).set (k*8+6) (.int .i64 why)).length:=by rw[List.length_set,List.length_set];omega
 refine enterR Tryz.func42 rfl rfl rfl fun a hs hm=>?_
 clear hm
 have hm:Mm (own [⟨some g,52,tcs⟩]) wB [⟨some g,52,tcs⟩] wB:=⟨fun h hh=>by rcases List.mem_singleton.1 hh with rfl;exact hg,Fr.refl _ _,⟨fun x hx=>(by cases hx),trivial⟩,fun h hh q hq=> .inr ⟨h,hh,hq⟩⟩
 refine gsce98_ ?_;clear hs hm a;intros;rename_i a hm hs
 exact gRet1 hs rfl rfl ⟨rfl,hm⟩
theorem gcSgn0_{G H:Prop}(k:H)(s:Bx H→G:=by intro k_;(repeat(first|(refine ov701a_ ?_;(try clear hs a);intro a hs)|((with_reducible apply lCons);first|(refine dv hs gw_ rfl rfl da_ ?_;(try clear hs hm a);rintro _ w_ ⟨g_,rfl,-,hm⟩ a hs)|(refine stn hs rfl rfl ds_ ?_;(try clear hs hm a);rintro-w_ hm a hs))|refine sc_ ?_|((with_reducible apply lCons);first|(refine dvc hs hm gw_ rfl rfl rfl rfl rfl (pl 47 rfl) (hbr _) ?_;(try clear hs hm a);intro w_ hm a hs))));(first|(have m_:=hm;have s_:=hs;clear hs;(try clear hm);revert m_ s_ a)|((first|refine rexc_ hs hm ?_|refine rexl_ hs hm ?_|refine rexg_ hs hm ?_|refine rexq_ hs hm ?_);intro a hm hs;revert hm hs a));(try revert w_);(repeat revert g_);exact k_.h):G:=s ⟨k⟩
theorem trow_set{A:Option Nat}{n c t:Nat}{ts:List ThO}{q1 q2:ThO}{tcs:List Value}(hr:Row A n c 8 ((ts.set t q1).flatMap ThO.v) tcs)(ht:t<ts.length)(j:Nat)(hj:j<8)(v:Value)(h:q2.v=q1.v.set j v):Row A n c 8 ((ts.set t q2).flatMap ThO.v) (tcs.set (t*8+j) v):=by
 have:=hr.set (t*8+j) v
 rwa[flat_set ThO.v 8 ThO.len (ts.set t q1) t j q1 v (List.getElem?_set_self ht) hj q2 h,List.set_set]at this
def MO.upd(y:MO)(t:Nat)(q:ThO)(tcs:List Value)(m:MeO):MO:={y with tcs:=tcs,ts:=y.ts.set t q,m:=m}
theorem MO.upd_ok{y:MO}{t:Nat}{q:ThO}{tcs:List Value}{m:MeO}(hy:y.ok)(hm:m.ok)(hq:q.ok)(hr:Row y.tA y.ts.length y.tc 8 ((y.ts.set t q).flatMap ThO.v) tcs):(y.upd t q tcs m).ok:=
 ⟨hy.b,hm,by show Row y.tA (y.ts.set t q).length y.tc 8 _ _;rw[List.length_set];exact hr,fun z hz=>by
  rcases List.mem_or_eq_of_mem_set hz with h|h
  ·exact hy.tt z h
  ·rw[h];exact hq⟩
theorem MO.upd_vs{y:MO}{t:Nat}{q:ThO}{tcs:List Value}{m:MeO}(h:y.m.like m):(y.upd t q tcs m).vs=y.vs:=by
 unfold MO.upd MO.vs
 dsimp only
 rw[h.cA,h.cc,h.lA,h.lc,h.n,h.l,List.length_set]
theorem ThD.val.up [HB]{q:ThD}{B C:Int}(h:q.val B)(hBC:B≤C):q.val C:=⟨h.st,h.n,h.pc,⟨h.cnt.1,Int.le_trans h.cnt.2 hBC⟩,h.han,h.sav,h.trp,h.cod,h.cv⟩
theorem MO.upd_val [HB]{y:MO}{t:Nat}{q:ThO}{tcs:List Value}{m:MeO}{ss:List Int}{B C:Int}(h:y.d.val ss B)(hBC:B≤C)(hm:m.val)(hq:q.d.val C):(y.upd t q tcs m).d.val ss C:=by
 refine⟨h.gap,h.key,hm.n,(by show(m.ls.map LnO.d).length=4;rw[List.length_map];exact hm.l),?_,hm.cv,fun i hi=>?_,fun z hz=>?_⟩
 ·have:=h.t
  unfold MO.d at this ⊢
  unfold MO.upd
  dsimp only at this ⊢
  rwa[List.length_map,List.length_set,←List.length_map (f:=ThO.d)]
 ·have:=hm.ll i (by have:=hi;unfold MO.d MO.upd at this;dsimp only at this;rwa[List.length_map]at this)
  have hi':i<(m.ls.map LnO.d).length:=hi
  show((m.ls.map LnO.d)[i]'hi').val i
  rw[List.getElem_map]
  exact this
 ·unfold MO.d MO.upd at hz
  dsimp only at hz
  obtain⟨x,hx,rfl⟩:=List.mem_map.1 hz
  rcases List.mem_or_eq_of_mem_set hx with h1|h1
  ·exact(h.tt x.d (List.mem_map.2 ⟨x,h1,rfl⟩)).up hBC
  ·rw[h1];exact hq
theorem MO.upd_mm{y:MO}{t:Nat}{q:ThO}{tcs:List Value}{m:MeO}{S:Nat→Prop}{w0 w:World}(ht:t<y.ts.length)(hm:Mm S w0 (q.hp::⟨y.tA,52,tcs⟩::⟨y.bA,3,y.bcs⟩::(m.hps++(y.ts.eraseIdx t).map ThO.hp)) w):Mm S w0 (y.upd t q tcs m).hps w:=
 Mm.backG ThO.hp (L:=⟨y.tA,52,tcs⟩::⟨y.bA,3,y.bcs⟩::m.hps) ht hm
theorem MO.upd_th{y:MO}{t:Nat}{q:ThO}{tcs:List Value}{m:MeO}(ht:t<y.ts.length):(y.upd t q tcs m).d.ts[t]?=some q.d:=by
 unfold MO.upd MO.d
 dsimp only
 rw[List.getElem?_map,List.getElem?_set_self ht]
 rfl
def OneR(p:PV)(q q':ThD)(s:Int):Prop:=
 (s=-1∧0≤q.pc∧q.pc<(p.code.length:Int)∧q'.st=q.st∧(q'.cnt=q.cnt+1∨(q'.cnt=q.cnt∧q'.pc=q.pc+1)))∨(s=1∧0≤q.pc∧q.pc<(p.code.length:Int)∧q'.pc=q.pc+1∧∃i,p.code[q.pc.toNat]?=some i∧i.op=23)∨s=2
structure ThI(q q':ThD):Prop where
 st:q'.st=q.st
 pc:q'.pc=q.pc
 cnt:q'.cnt=q.cnt
 han:q'.han=q.han
 trp:q'.trp=q.trp
 cod:q'.cod=q.cod
 n:q'.xs.length=8
 cv:∀c∈q'.xs,c.val
 sav:-1≤q'.sav∧q'.sav≤255
theorem reg_cut{A:Option Nat}{n c:Nat}{xs:List CV}{cs:List Value}(h:Row A n c 2 (cvs xs) cs){k:Nat}(hk:k<xs.length):cutF cs (k*2) 2=some [.int .u8 (xs[k]).t,.int .u16 (xs[k]).v]:=by
 have hl:=h.xl
 have hcl:=h.len
 have hle:n*2≤c*2:=Nat.mul_le_mul_right 2 h.le
 rw[cvs_len]at hl
 exact cutF_of cs (k*2) (xs[k]).cs (by rw[CV.cs_len];omega) (fun i v hi=>h.get (by
  unfold cvs
  rw[flat_get CV.cs 2 CV.cs_len xs k i hk (by have:=(List.getElem?_eq_some_iff.1 hi).1;exact this)]
  exact hi))
def ThO.reg(q:ThO)(r:Nat)(c:CV):ThO:={q with cs:=q.cs.take (r*2)++c.cs++q.cs.drop (r*2+2),d:={q.d with xs:=q.d.xs.set r c}}
theorem ThO.reg_ok [HB]{q:ThO}{r:Nat}{c:CV}{B:Int}(h:q.ok)(hv:q.d.val B)(hr:r<8)(hc:c.val):(q.reg r c).ok∧ThI q.d (q.reg r c).d∧(q.reg r c).v=q.v:=by
 refine⟨?_,⟨rfl,rfl,rfl,rfl,rfl,rfl,(by show(q.d.xs.set r c).length=8;rw[List.length_set];exact hv.n),fun x hx=>?_,hv.sav⟩,?_⟩
 ·have hqr:Row q.A q.d.xs.length q.c 2 (cvs q.d.xs) q.cs:=h
  have hsp:=hqr.splice (o:=r*2) (ys:=c.cs) (by rw[CV.cs_len,hv.n];omega)
  rw[CV.cs_len,show(cvs q.d.xs).take (r*2)++c.cs++(cvs q.d.xs).drop (r*2+2)=cvs (q.d.xs.set r c)from flat_splice CV.cs 2 CV.cs_len q.d.xs r c (by rw[hv.n];omega)]at hsp
  show Row q.A (q.d.xs.set r c).length q.c 2 (cvs (q.d.xs.set r c)) _
  rw[List.length_set]
  exact hsp
 ·rcases List.mem_or_eq_of_mem_set hx with h1|h1
  ·exact hv.cv x h1
  ·rw[h1];exact hc
 ·unfold ThO.v ThO.reg
  dsimp only
  rw[List.length_set]
theorem trow_same{ts:List ThO}{t:Nat}{q q':ThO}(ht:t<ts.length)(h:q'.v=q.v):(ts.set t q').flatMap ThO.v=(ts.set t q).flatMap ThO.v:=by
 rw[List.set_eq_take_append_cons_drop,List.set_eq_take_append_cons_drop,if_pos ht,if_pos ht,List.flatMap_append,List.flatMap_append,List.flatMap_cons,List.flatMap_cons,h]
theorem one_c [HB](p:PV)(N gm:Nat)(y:MO)(B:Int)(t:Nat)(wB:World)(hp:p.at wB N)(hpv:p.val)(hN:N≤wB.heap.size)(hM:Mm (own y.hps) wB y.hps wB)(hno:∀b,b<N→¬own y.hps b)(hy:y.ok)(hv:y.d.val p.ss B)(hB:B≤1099511627776)(hh:Ro wB gm 0 y.vs)(hng:¬own y.hps gm)(ht:t<4):
  Ret Tryz.prog 28 [p.v,.pointer (some ⟨gm,0,none⟩),.int .i64 (t:Int)] wB (fun u w'=>∃(z:MO)(s:Int)(q q':ThD),u= .int .i64 s∧z.ok∧z.d.val p.ss (B+1)∧z.vs=y.vs∧y.d.ts[t]?=some q∧z.d.ts[t]?=some q'∧OneR p q q' s∧Mm (own y.hps) wB z.hps w'):=by
 obtain⟨A0,hA0⟩:∃A0,own y.hps=A0:=⟨_,rfl⟩
 rw[hA0]
 have htl:y.ts.length=4:=by have:=hv.t;unfold MO.d at this;dsimp only at this;rwa[List.length_map]at this
 have htk:t<y.ts.length:=by omega
 obtain⟨q,hq⟩:∃q,y.ts[t]?=some q:=⟨_,List.getElem?_eq_getElem htk⟩
 have hqk:y.ts[t]=q:=(List.getElem?_eq_some_iff.1 hq).2
 have hqd:y.d.ts[t]?=some q.d:=by unfold MO.d;dsimp only;rw[List.getElem?_map,hq];rfl
 have hqv:q.d.val B:=hv.tt q.d (List.mem_map.2 ⟨q,List.mem_of_getElem? hq,rfl⟩)
 have hqo:=hy.tt q (List.mem_of_getElem? hq)
 have hrt:=hy.t
 rw[htl]at hrt
 have hm0:Mm A0 wB (q.hp::((⟨y.tA,52,y.tcs⟩::⟨y.bA,3,y.bcs⟩::y.m.hps)++(y.ts.eraseIdx t).map ThO.hp)) wB:=by
  rw[←hA0]
  exact Mm.frontG ThO.hp (L:=⟨y.tA,52,y.tcs⟩::⟨y.bA,3,y.bcs⟩::y.m.hps) hM hq
 obtain⟨gt,hgt⟩:=hrt.some_ (by omega)
 rw[hgt]at hrt hm0
 have hcl:=hrt.len
 have hle:=hrt.le
 have hget:∀j,j<8→(y.ts.flatMap ThO.v)[t*8+j]?=(ThO.v q)[j]?:=fun j hj=>by rw[flat_get ThO.v 8 ThO.len y.ts t j htk hj,hqk]
 have e1:y.tcs[t*8+1]?=some (slv q.A q.d.xs.length q.c):=hrt.get (by rw[hget 1 (by omega)];rfl)
 have e2:y.tcs[t*8+2]?=some (.int .i64 q.d.pc):=hrt.get (by rw[hget 2 (by omega)];rfl)
 have e5:y.tcs[t*8+5]?=some (.int .i64 q.d.sav):=hrt.get (by rw[hget 5 (by omega)];rfl)
 have hqr:Row q.A q.d.xs.length q.c 2 (cvs q.d.xs) q.cs:=hqo
 rw[hqv.n]at hqr e1
 obtain⟨gq,hgq⟩:=hqr.some_ (by omega)
 rw[hgq]at hqr e1
 obtain⟨R,hR⟩:∃R,(y.ts.eraseIdx t).map ThO.hp=R:=⟨_,rfl⟩
 replace hm0:Mm A0 wB (⟨some gq,103,q.cs⟩::⟨some gt,52,y.tcs⟩::⟨y.bA,3,y.bcs⟩::(y.m.hps++R)) wB:=by
  rw[←hR,←hgq]
  exact hm0
 have hh1:Ro wB gm 0 [slv y.bA y.bs.length y.bc,.int .u16 y.key,slv y.m.cA y.m.xs.length y.m.cc,slv y.m.lA y.m.ls.length y.m.lc,slv (some gt) 4 y.tc]:=by rw[←hgt,←htl];exact hh
 obtain⟨W,hW⟩:∃W,y.m.hps++R=W:=⟨_,rfl⟩
 rw[hW]at hm0
 have hnA:∀b,b<N→¬A0 b:=hA0▸hno
 have hngA:¬A0 gm:=hA0▸hng
 have hc1:=hpv.c1
 have hc2:=hpv.c2
 obtain⟨bc,oc,hcA,hbc,rc⟩:=hp.c.ro (by rw[flat_len inV 5 inV_len];omega)
 have hnc:=hnA bc hbc
 obtain⟨pc,hpc⟩:∃pc:Nat,q.d.pc=(pc:Int):=⟨q.d.pc.toNat,by have:=hqv.pc;omega⟩
 rw[hpc]at e2
 have hmv:y.m.val:=⟨hv.n,by have:=hv.l;unfold MO.d at this;dsimp only at this;rwa[List.length_map]at this,hv.cv,fun i hi=>by
  have:=hv.ll i (by unfold MO.d;dsimp only;rw[List.length_map];exact hi)
  unfold MO.d at this
  dsimp only at this
  rwa[List.getElem_map]at this⟩
 have hqi:ThI q.d q.d:=⟨rfl,rfl,rfl,rfl,rfl,rfl,hqv.n,hqv.cv,hqv.sav⟩
 have hrow:Row (some gt) 4 y.tc 8 ((y.ts.set t q).flatMap ThO.v) y.tcs:=by rw[set_self hq];exact hrt
 have hqcl:=hqr.len
 have hqle:=hqr.le
 have htr:∀(why:Int)(w':World),0≤why∧why≤6→Mm A0 wB (⟨some gq,103,q.cs⟩::⟨some gt,52,((y.tcs.set (t*8+0) (.int .i64 4)).set (t*8+6) (.int .i64 why)).set (t*8+7) (.int .u16 0)⟩::⟨y.bA,3,y.bcs⟩::W) w'→∃(z:MO)(s:Int)(qa qb:ThD),Value.int .i64 2= .int .i64 s∧z.ok∧z.d.val p.ss (B+1)∧z.vs=y.vs∧y.d.ts[t]?=some qa∧z.d.ts[t]?=some qb∧OneR p qa qb s∧Mm A0 wB z.hps w':=by
  intro why w' hwh hm
  obtain⟨tcs3,htcs3⟩:∃z,((y.tcs.set (t*8+0) (.int .i64 4)).set (t*8+6) (.int .i64 why)).set (t*8+7) (.int .u16 0)=z:=⟨_,rfl⟩
  have r1:=trow_set hrow htk 0 (by omega) (.int .i64 4) (q2:={q with d:={q.d with st:=4}}) rfl
  have r2:=trow_set r1 htk 6 (by omega) (.int .i64 why) (q2:={q with d:={q.d with st:=4,trp:=why}}) rfl
  have r3:=trow_set r2 htk 7 (by omega) (.int .u16 0) (q2:={q with d:={q.d with st:=4,trp:=why,cod:=0}}) rfl
  rw[htcs3]at r3 hm
  refine⟨y.upd t {q with d:={q.d with st:=4,trp:=why,cod:=0}} tcs3 y.m,2,q.d,{q.d with st:=4,trp:=why,cod:=0},rfl,MO.upd_ok hy hy.m hqo (by rw[hgt,htl];exact r3),MO.upd_val hv (by omega) hmv ⟨⟨by dsimp only;omega,by dsimp only;omega⟩,hqv.n,hqv.pc,⟨hqv.cnt.1,by have:=hqv.cnt.2;dsimp only;omega⟩,hqv.han,hqv.sav,hwh,⟨by dsimp only;omega,by dsimp only;omega⟩,hqv.cv⟩,MO.upd_vs (MeO.like.refl _),hqd,MO.upd_th htk,.inr (.inr rfl),MO.upd_mm htk ?_⟩
  rw[hR,hW,hgt]
  show Mm A0 wB (⟨q.A,103,q.cs⟩::_) w'
  rw[hgq]
  exact hm
 unfold PV.v
 rw[hcA]
 refine enterR Tryz.func28 rfl rfl rfl fun a hs hm=>?_
 clear hm
 have hm:=hm0
 by_cases hpl:pc<p.code.length
 ·have q1:=rc.flat inV_len hpl
  have hi:=hpv.inv p.code[pc] (List.getElem_mem hpl)
  have hju:=hpv.ju p.code[pc] (List.getElem_mem hpl)
  have hci:p.code[pc]?=some p.code[pc]:=List.getElem?_eq_getElem hpl
  generalize p.code[pc]=i at*
  obtain⟨op,a0,b0,c0,m0⟩:=i
  obtain⟨hop,ha0,hb0,hc0,hm0,hlea,hsys⟩:=hi
  unfold inV at q1
  dsimp only at*
  refine gq20dc_ ?_;clear hs hm a;intros;rename_i a hm hs
  obtain⟨g3,rfl⟩:=hs.pp 3
  refine cMid (fun a w=>∃g8:Nat,Sl Tryz.f28.ntmps [(1,.pointer (some ⟨gm,0,none⟩)),(3,.pointer (some ⟨g3,0,none⟩)),(7,.pointer (some ⟨gt,t*8,none⟩)),(8,.pointer (some ⟨g8,0,none⟩))] a∧Mm A0 wB (⟨some g8,54,[.int .i64 op,.int .i64 a0,.int .i64 b0,.int .i64 c0,.int .i64 m0]⟩::⟨some g3,38,[.slice (some ⟨bc,oc,none⟩) p.code.length p.cc,.slice p.sA p.ss.length p.sc,.slice p.dA p.ws.length p.dc]⟩::⟨some gq,103,q.cs⟩::⟨some gt,52,y.tcs⟩::⟨y.bA,3,y.bcs⟩::W) w) ?_ ?_
  ·with_reducible repeat(first|apply gThen|apply wp_seq)
   refine cDrawT (n:=10) (.s [0,1,2,3,4,5,6,7]<| .o 8<| .o 9<| .d) [⟨some g3,38,[.slice (some ⟨bc,oc,none⟩) p.code.length p.cc,.slice p.sA p.ss.length p.sc,.slice p.dA p.ws.length p.dc]⟩,⟨some gq,103,q.cs⟩,⟨some gt,52,y.tcs⟩] hm rfl rfl ?_
   clear hm;intro t_ w1_ hm
   repeat' (first|(refine dgd799_ ?_;clear t_ hs hm a;intros;rename_i a hm hs t_)|refine tE t_ ?_|refine tC ?_ ?_|exact tN|intro t_|(refine tD t_ ?_;(obtain⟨g8,rfl⟩:=hs.pp 8);(exact And.intro rfl ⟨g8,(sb_ hs),hm⟩))|fail)
  clear hs hm a
  rintro a w ⟨g8,hs,hm⟩
  obtain⟨ra,rfl⟩:∃r:Nat,a0=(r:Int):=⟨a0.toNat,by omega⟩
  obtain⟨rb,rfl⟩:∃r:Nat,b0=(r:Int):=⟨b0.toNat,by omega⟩
  obtain⟨rd,rfl⟩:∃r:Nat,c0=(r:Int):=⟨c0.toNat,by omega⟩
  obtain⟨mi,rfl⟩:∃r:Nat,m0=(r:Int):=⟨m0.toNat,by omega⟩
  have hxl:=hqv.n
  have ka:=reg_cut hqr (k:=ra) (by omega)
  have kb:=reg_cut hqr (k:=rb) (by omega)
  have kd:=reg_cut hqr (k:=rd) (by omega)
  have hva:=hqv.cv _ (List.getElem_mem (show ra<q.d.xs.length by omega))
  have hvb:=hqv.cv _ (List.getElem_mem (show rb<q.d.xs.length by omega))
  have hvd:=hqv.cv _ (List.getElem_mem (show rd<q.d.xs.length by omega))
  obtain⟨ca,hca⟩:∃c,q.d.xs[ra]'(by omega)=c:=⟨_,rfl⟩
  obtain⟨cb,hcb⟩:∃c,q.d.xs[rb]'(by omega)=c:=⟨_,rfl⟩
  obtain⟨cd,hcd⟩:∃c,q.d.xs[rd]'(by omega)=c:=⟨_,rfl⟩
  rw[hca]at ka hva
  rw[hcb]at kb hvb
  rw[hcd]at kd hvd
  have hp1:(pc:Int)+1=((pc+1:Nat):Int):=by omega
  have l2:t*8+2<y.tcs.length:=by omega
  refine gsc5af_ ?_;clear hs hm a;intros;rename_i a hm hs
  refine cMid (fun a w=>∃g10 g11:Nat,Sl Tryz.f28.ntmps [(1,.pointer (some ⟨gm,0,none⟩)),(3,.pointer (some ⟨g3,0,none⟩)),(7,.pointer (some ⟨gt,t*8,none⟩)),(8,.pointer (some ⟨g8,0,none⟩)),(9,.int .i64 ((pc+1:Nat):Int)),(10,.pointer (some ⟨g10,0,none⟩)),(11,.pointer (some ⟨g11,0,none⟩))] a∧Mm A0 wB (⟨some g11,103,[.int .u8 cb.t,.int .u16 cb.v]⟩::⟨some g10,103,[.int .u8 ca.t,.int .u16 ca.v]⟩::⟨some g8,54,[.int .i64 op,.int .i64 (ra:Int),.int .i64 (rb:Int),.int .i64 (rd:Int),.int .i64 (mi:Int)]⟩::⟨some g3,38,[.slice (some ⟨bc,oc,none⟩) p.code.length p.cc,.slice p.sA p.ss.length p.sc,.slice p.dA p.ws.length p.dc]⟩::⟨some gq,103,q.cs⟩::⟨some gt,52,y.tcs⟩::⟨y.bA,3,y.bcs⟩::W) w) ?_ ?_
  ·with_reducible repeat(first|apply gThen|apply wp_seq)
   refine cDrawT (n:=20) (.s [0,1,2,3,4,5,6,7,8,9,10,11,12,13,14,15]<| .e [(16,.o 17<| .o 18<| .o 19<| .d),(17,.o 16<| .o 18<| .o 19<| .d)]) [⟨some g8,54,[.int .i64 op,.int .i64 (ra:Int),.int .i64 (rb:Int),.int .i64 (rd:Int),.int .i64 (mi:Int)]⟩,⟨some gq,103,q.cs⟩,⟨some gt,52,y.tcs⟩] hm rfl rfl ?_
   clear hm;intro t_ w1_ hm
   repeat' (first|(refine dgd799_ ?_;clear t_ hs hm a;intros;rename_i a hm hs t_)|refine tE t_ ?_|refine tC ?_ ?_|exact tN|intro t_|(refine tD t_ ?_;(obtain⟨g10,rfl⟩:=hs.pp 10);(obtain⟨g11,rfl⟩:=hs.pp 11);(first|exact And.intro rfl ⟨g10,g11,(sb_ hs),hm⟩|exact And.intro rfl ⟨g10,g11,(sb_ hs),hm.perm (List.Perm.swap _ _ _)⟩))|fail)
  clear hs hm a
  rintro a w ⟨g10,g11,hs,hm⟩
  refine gsc5af_ ?_;clear hs hm a;intros;rename_i a hm hs
  refine cMidR (fun a w=>∃(m':MeO)(q':ThO)(tcs':List Value)(nx:Nat),m'.ok∧m'.val∧y.m.like m'∧q'.ok∧q'.A=some gq∧ThI q.d q'.d∧Row (some gt) 4 y.tc 8 ((y.ts.set t q').flatMap ThO.v) tcs'∧nx≤255∧(branB op=false→nx=pc+1)∧Sl Tryz.f28.ntmps [(7,.pointer (some ⟨gt,t*8,none⟩)),(8,.pointer (some ⟨g8,0,none⟩)),(9,.int .i64 (nx:Int))] a∧Mm A0 wB (⟨some g8,54,[.int .i64 op,.int .i64 (ra:Int),.int .i64 (rb:Int),.int .i64 (rd:Int),.int .i64 (mi:Int)]⟩::⟨some gq,103,q'.cs⟩::⟨some gt,52,tcs'⟩::⟨y.bA,3,y.bcs⟩::(m'.hps++R)) w) ?_ ?_
  rotate_left
  ·clear hs hm a
   rintro a w ⟨m',q',tcs',nx,i1,i2,i3,i4,i5,i6,i7,i8,i9,hs,hm⟩
   have hcl':=i7.len
   have hle':=i7.le
   have l2':t*8+2<tcs'.length:=by omega
   have l3':t*8+3<(tcs'.set (t*8+2) (.int .i64 (nx:Int))).length:=by rw[List.length_set];omega
   have e3:(tcs'.set (t*8+2) (.int .i64 (nx:Int)))[t*8+3]?=some (.int .i64 q.d.cnt):=by
    rw[List.getElem?_set_ne (by omega)]
    refine i7.get ?_
    rw[flat_get ThO.v 8 ThO.len (y.ts.set t q') t 3 (by rw[List.length_set];exact htk) (by omega),List.getElem_set_self]
    unfold ThO.v
    rw[i6.cnt]
    rfl
   have hcb:=hqv.cnt
   have hbr:=fun w=>bran_c op w
   have r1:=trow_set i7 htk 2 (by omega) (.int .i64 (nx:Int)) (q2:={q' with d:={q'.d with pc:=(nx:Int)}}) rfl
   have r2:=trow_set r1 htk 3 (by omega) (.int .i64 (q.d.cnt+1)) (q2:={q' with d:={q'.d with pc:=(nx:Int),cnt:=q.d.cnt+1}}) rfl
   have hqv':∀k:Int,0≤k∧k≤B+1→ThD.val {q'.d with pc:=(nx:Int),cnt:=k} (B+1):=fun k hk=>⟨i6.st▸hqv.st,i6.n,⟨by dsimp only;omega,by dsimp only;omega⟩,hk,i6.han▸hqv.han,i6.sav,i6.trp▸hqv.trp,i6.cod▸hqv.cod,i6.cv⟩
   generalize hbb:branB op=bb at hbr i9
   cases bb
   ·refine gcSgn0_ ?_;clear hs hm a;intros;rename_i a hm hs
    refine gRet1 hs rfl rfl ⟨y.upd t {q' with d:={q'.d with pc:=(nx:Int)}} _ m',-1,q.d,{q'.d with pc:=(nx:Int)},rfl,MO.upd_ok hy i1 i4 (by rw[hgt,htl];exact r1),MO.upd_val hv (by omega) i2 ?_,MO.upd_vs i3,hqd,MO.upd_th htk,.inl ⟨rfl,by omega,by omega,i6.st,.inr ⟨i6.cnt,?_⟩⟩,MO.upd_mm htk ?_⟩
    ·have:=hqv' q.d.cnt ⟨hcb.1,by omega⟩
     have e:=i6.cnt
     rw[←e]at this
     exact this
    ·have:=i9 rfl
     dsimp only
     omega
    ·rw[hR,hgt]
     show Mm A0 wB (⟨q'.A,103,q'.cs⟩::_) _
     rw[i5]
     exact hm.sub sub_
   ·refine gcSgn0_ ?_;clear hs hm a;intros;rename_i a hm hs
    refine gRet1 hs rfl rfl ⟨y.upd t {q' with d:={q'.d with pc:=(nx:Int),cnt:=q.d.cnt+1}} _ m',-1,q.d,{q'.d with pc:=(nx:Int),cnt:=q.d.cnt+1},rfl,MO.upd_ok hy i1 i4 (by rw[hgt,htl];exact r2),MO.upd_val hv (by omega) i2 (hqv' _ ⟨by omega,by omega⟩),MO.upd_vs i3,hqd,MO.upd_th htk,.inl ⟨rfl,by omega,by omega,i6.st,.inl rfl⟩,MO.upd_mm htk ?_⟩
    rw[hR,hgt]
    show Mm A0 wB (⟨q'.A,103,q'.cs⟩::_) _
    rw[i5]
    exact hm.sub sub_
  have end0:∀(nx:Nat)(a:Act)(w:World),nx≤255→(branB op=false→nx=pc+1)→Sl Tryz.f28.ntmps [(7,.pointer (some ⟨gt,t*8,none⟩)),(8,.pointer (some ⟨g8,0,none⟩)),(9,.int .i64 (nx:Int))] a→Mm A0 wB (⟨some g8,54,[.int .i64 op,.int .i64 (ra:Int),.int .i64 (rb:Int),.int .i64 (rd:Int),.int .i64 (mi:Int)]⟩::⟨some gq,103,q.cs⟩::⟨some gt,52,y.tcs⟩::⟨y.bA,3,y.bcs⟩::W) w→∃(m':MeO)(q':ThO)(tcs':List Value)(nx:Nat),m'.ok∧m'.val∧y.m.like m'∧q'.ok∧q'.A=some gq∧ThI q.d q'.d∧Row (some gt) 4 y.tc 8 ((y.ts.set t q').flatMap ThO.v) tcs'∧nx≤255∧(branB op=false→nx=pc+1)∧Sl Tryz.f28.ntmps [(7,.pointer (some ⟨gt,t*8,none⟩)),(8,.pointer (some ⟨g8,0,none⟩)),(9,.int .i64 (nx:Int))] a∧Mm A0 wB (⟨some g8,54,[.int .i64 op,.int .i64 (ra:Int),.int .i64 (rb:Int),.int .i64 (rd:Int),.int .i64 (mi:Int)]⟩::⟨some gq,103,q'.cs⟩::⟨some gt,52,tcs'⟩::⟨y.bA,3,y.bcs⟩::(m'.hps++R)) w:=
   fun nx a w h1 h2 hs hm=>⟨y.m,q,y.tcs,nx,hy.m,hmv,MeO.like.refl _,hqo,hgq,hqi,hrow,h1,h2,hs,by rw[hW];exact hm⟩
  have endR:∀(c:CV)(nx:Nat)(a:Act)(w:World),c.val→nx≤255→(branB op=false→nx=pc+1)→Sl Tryz.f28.ntmps [(7,.pointer (some ⟨gt,t*8,none⟩)),(8,.pointer (some ⟨g8,0,none⟩)),(9,.int .i64 (nx:Int))] a→Mm A0 wB (⟨some g8,54,[.int .i64 op,.int .i64 (ra:Int),.int .i64 (rb:Int),.int .i64 (rd:Int),.int .i64 (mi:Int)]⟩::⟨some gq,103,q.cs.take (ra*2)++c.cs++q.cs.drop (ra*2+2)⟩::⟨some gt,52,y.tcs⟩::⟨y.bA,3,y.bcs⟩::W) w→∃(m':MeO)(q':ThO)(tcs':List Value)(nx:Nat),m'.ok∧m'.val∧y.m.like m'∧q'.ok∧q'.A=some gq∧ThI q.d q'.d∧Row (some gt) 4 y.tc 8 ((y.ts.set t q').flatMap ThO.v) tcs'∧nx≤255∧(branB op=false→nx=pc+1)∧Sl Tryz.f28.ntmps [(7,.pointer (some ⟨gt,t*8,none⟩)),(8,.pointer (some ⟨g8,0,none⟩)),(9,.int .i64 (nx:Int))] a∧Mm A0 wB (⟨some g8,54,[.int .i64 op,.int .i64 (ra:Int),.int .i64 (rb:Int),.int .i64 (rd:Int),.int .i64 (mi:Int)]⟩::⟨some gq,103,q'.cs⟩::⟨some gt,52,tcs'⟩::⟨y.bA,3,y.bcs⟩::(m'.hps++R)) w:=
   fun c nx a w hc h1 h2 hs hm=>by
    obtain⟨k1,k2,k3⟩:=ThO.reg_ok hqo hqv (r:=ra) (by omega) hc
    exact⟨y.m,q.reg ra c,y.tcs,nx,hy.m,hmv,MeO.like.refl _,k1,hgq,k2,by rw[trow_same htk k3];exact hrow,h1,h2,hs,by rw[hW];exact hm⟩
  have endM:∀(z:MeO)(c:CV)(a:Act)(w:World),c.val→z.ok→z.val→y.m.like z→Sl Tryz.f28.ntmps [(7,.pointer (some ⟨gt,t*8,none⟩)),(8,.pointer (some ⟨g8,0,none⟩)),(9,.int .i64 ((pc+1:Nat):Int))] a→Mm A0 wB (⟨some g8,54,[.int .i64 op,.int .i64 (ra:Int),.int .i64 (rb:Int),.int .i64 (rd:Int),.int .i64 (mi:Int)]⟩::⟨some gq,103,q.cs.take (ra*2)++c.cs++q.cs.drop (ra*2+2)⟩::⟨some gt,52,y.tcs⟩::⟨y.bA,3,y.bcs⟩::(z.hps++R)) w→∃(m':MeO)(q':ThO)(tcs':List Value)(nx:Nat),m'.ok∧m'.val∧y.m.like m'∧q'.ok∧q'.A=some gq∧ThI q.d q'.d∧Row (some gt) 4 y.tc 8 ((y.ts.set t q').flatMap ThO.v) tcs'∧nx≤255∧(branB op=false→nx=pc+1)∧Sl Tryz.f28.ntmps [(7,.pointer (some ⟨gt,t*8,none⟩)),(8,.pointer (some ⟨g8,0,none⟩)),(9,.int .i64 (nx:Int))] a∧Mm A0 wB (⟨some g8,54,[.int .i64 op,.int .i64 (ra:Int),.int .i64 (rb:Int),.int .i64 (rd:Int),.int .i64 (mi:Int)]⟩::⟨some gq,103,q'.cs⟩::⟨some gt,52,tcs'⟩::⟨y.bA,3,y.bcs⟩::(m'.hps++R)) w:=
   fun z c a w hc h1 h2 h3 hs hm=>by
    obtain⟨k1,k2,k3⟩:=ThO.reg_ok hqo hqv (r:=ra) (by omega) hc
    exact⟨z,q.reg ra c,y.tcs,pc+1,h1,h2,h3,k1,hgq,k2,by rw[trow_same htk k3];exact hrow,by omega,fun _=>rfl,hs,hm⟩
  have endN:∀(z:MeO)(a:Act)(w:World),z.ok→z.val→y.m.like z→Sl Tryz.f28.ntmps [(7,.pointer (some ⟨gt,t*8,none⟩)),(8,.pointer (some ⟨g8,0,none⟩)),(9,.int .i64 ((pc+1:Nat):Int))] a→Mm A0 wB (⟨some g8,54,[.int .i64 op,.int .i64 (ra:Int),.int .i64 (rb:Int),.int .i64 (rd:Int),.int .i64 (mi:Int)]⟩::⟨some gq,103,q.cs⟩::⟨some gt,52,y.tcs⟩::⟨y.bA,3,y.bcs⟩::(z.hps++R)) w→∃(m':MeO)(q':ThO)(tcs':List Value)(nx:Nat),m'.ok∧m'.val∧y.m.like m'∧q'.ok∧q'.A=some gq∧ThI q.d q'.d∧Row (some gt) 4 y.tc 8 ((y.ts.set t q').flatMap ThO.v) tcs'∧nx≤255∧(branB op=false→nx=pc+1)∧Sl Tryz.f28.ntmps [(7,.pointer (some ⟨gt,t*8,none⟩)),(8,.pointer (some ⟨g8,0,none⟩)),(9,.int .i64 (nx:Int))] a∧Mm A0 wB (⟨some g8,54,[.int .i64 op,.int .i64 (ra:Int),.int .i64 (rb:Int),.int .i64 (rd:Int),.int .i64 (mi:Int)]⟩::⟨some gq,103,q'.cs⟩::⟨some gt,52,tcs'⟩::⟨y.bA,3,y.bcs⟩::(m'.hps++R)) w:=
   fun z a w h1 h2 h3 hs hm=>⟨z,q,y.tcs,pc+1,h1,h2,h3,hqo,hgq,hqi,hrow,by omega,fun _=>rfl,hs,hm⟩
  by_cases h0:op=0
  ·subst h0
   repeat refine sc_ ?_
   exact end0 (pc+1) _ _ (by omega) (fun _=>rfl) ((sb_ hs)) (hm.sub sub_)
  by_cases h1:op=1
  ·subst h1
   refine gsc5af_ ?_;clear hs hm a;intros;rename_i a hm hs
   refine cDrawT (n:=12) (.s [0,1,2,3,4,5,6,7,8,9,10]<| .o 11<| .x<| .d) [⟨some g8,54,[.int .i64 1,.int .i64 (ra:Int),.int .i64 (rb:Int),.int .i64 (rd:Int),.int .i64 (mi:Int)]⟩,⟨some gt,52,y.tcs⟩] hm rfl rfl ?_
   clear hm;intro t_ w1_ hm
   repeat' (first|(refine dgd799_ ?_;clear t_ hs hm a;intros;rename_i a hm hs t_)|refine tE t_ ?_|refine tC ?_ ?_|exact tN|intro t_|(refine oDoN (i:=11) hs rfl (Wnt.none rfl) rfl (by exact d_store hs rfl rfl rfl tab rfl rfl rfl rfl hm rep_ (putG (by show ra*2+2≤_;omega))) ?_;clear hs;rintro-w1 hm a hs;replace t_:=tX t_;refine⟨(hm.sub sub_),?_⟩)|(refine tD t_ ?_;(refine gThen ?_);(exact endR ⟨0,IntKind.u16.wrap (mi:Int)⟩ (pc+1) _ _ ⟨.inl rfl,u16_bd _⟩ (by omega) (fun _=>rfl) ((sb_ hs)) (hm.sub sub_)))|fail)
  by_cases h2:op=2
  ·subst h2
   refine gsc5af_ ?_;clear hs hm a;intros;rename_i a hm hs
   refine cDrawT (n:=9) (.s [0,1,2,3,4,5,6,7]<| .o 8<| .x<| .d) [⟨some g11,103,[.int .u8 cb.t,.int .u16 cb.v]⟩,⟨some g8,54,[.int .i64 2,.int .i64 (ra:Int),.int .i64 (rb:Int),.int .i64 (rd:Int),.int .i64 (mi:Int)]⟩,⟨some gt,52,y.tcs⟩] hm rfl rfl ?_
   clear hm;intro t_ w1_ hm
   repeat' (first|(refine dgd799_ ?_;clear t_ hs hm a;intros;rename_i a hm hs t_)|refine tE t_ ?_|refine tC ?_ ?_|exact tN|intro t_|(refine oDoN (i:=8) hs rfl (Wnt.none rfl) rfl (by exact d_store hs rfl rfl rfl tab rfl rfl rfl rfl hm rep_ (putG (by show ra*2+2≤_;omega))) ?_;clear hs;rintro-w1 hm a hs;replace t_:=tX t_;refine⟨(hm.sub sub_),?_⟩)|(refine tD t_ ?_;(refine gThen ?_);(exact endR cb (pc+1) _ _ hvb (by omega) (fun _=>rfl) ((sb_ hs)) (hm.sub sub_)))|fail)
  by_cases h18:op=18
  ·subst h18
   have hj:=hju rfl
   refine gsc5af_ ?_;clear hs hm a;intros;rename_i a hm hs
   exact end0 mi _ _ (by omega) (fun h=>by cases h) ((sb_ hs)) (hm.sub sub_)
  by_cases h19:op=19
  ·subst h19
   have hj:=hju rfl
   by_cases hct:ca.t=0
   ·by_cases hcv:ca.v=0
    ·refine gsc5af_ ?_;clear hs hm a;intros;rename_i a hm hs
     first|exact end0 mi _ _ (by omega) (fun h=>by cases h) (hs.sub (Has.all (by exact⟨rfl,rfl,rfl,trivial⟩))) (hm.sub sub_)|exact end0 (pc+1) _ _ (by omega) (fun _=>rfl) (hs.sub (Has.all (by exact⟨rfl,rfl,rfl,trivial⟩))) (hm.sub sub_)
    ·refine gsc5af_ ?_;clear hs hm a;intros;rename_i a hm hs
     first|exact end0 mi _ _ (by omega) (fun h=>by cases h) (hs.sub (Has.all (by exact⟨rfl,rfl,rfl,trivial⟩))) (hm.sub sub_)|exact end0 (pc+1) _ _ (by omega) (fun _=>rfl) (hs.sub (Has.all (by exact⟨rfl,rfl,rfl,trivial⟩))) (hm.sub sub_)
   ·refine gsc5af_ ?_;clear hs hm a;intros;rename_i a hm hs
    refine st hs rfl rfl rfl (d_call hs rfl rfl rfl (pl 42 rfl) ((trap_c gt t y.tcs 3 _ (hm.me _ mem_) (by omega)))) ?_;clear hs a;rintro _ w1 ⟨rfl,hk⟩ a hs
    replace hm:=hm.into hk rfl rep_
    clear hk
    refine gsc5af_ ?_;clear hs hm a;intros;rename_i a hm hs
    exact gRet1 hs rfl rfl (htr 3 _ (by omega) (hm.sub sub_))
  by_cases h20:op=20
  ·subst h20
   have hj:=hju rfl
   by_cases hct:ca.t=0
   ·by_cases hcv:ca.v=0
    ·refine gsc5af_ ?_;clear hs hm a;intros;rename_i a hm hs
     first|exact end0 mi _ _ (by omega) (fun h=>by cases h) (hs.sub (Has.all (by exact⟨rfl,rfl,rfl,trivial⟩))) (hm.sub sub_)|exact end0 (pc+1) _ _ (by omega) (fun _=>rfl) (hs.sub (Has.all (by exact⟨rfl,rfl,rfl,trivial⟩))) (hm.sub sub_)
    ·refine gsc5af_ ?_;clear hs hm a;intros;rename_i a hm hs
     first|exact end0 mi _ _ (by omega) (fun h=>by cases h) (hs.sub (Has.all (by exact⟨rfl,rfl,rfl,trivial⟩))) (hm.sub sub_)|exact end0 (pc+1) _ _ (by omega) (fun _=>rfl) (hs.sub (Has.all (by exact⟨rfl,rfl,rfl,trivial⟩))) (hm.sub sub_)
   ·refine gsc5af_ ?_;clear hs hm a;intros;rename_i a hm hs
    refine st hs rfl rfl rfl (d_call hs rfl rfl rfl (pl 42 rfl) ((trap_c gt t y.tcs 3 _ (hm.me _ mem_) (by omega)))) ?_;clear hs a;rintro _ w1 ⟨rfl,hk⟩ a hs
    replace hm:=hm.into hk rfl rep_
    clear hk
    refine gsc5af_ ?_;clear hs hm a;intros;rename_i a hm hs
    exact gRet1 hs rfl rfl (htr 3 _ (by omega) (hm.sub sub_))
  by_cases h21:op=21
  ·subst h21
   have hj:=hju rfl
   refine gsc5af_ ?_;clear hs hm a;intros;rename_i a hm hs
   refine cDrawT (n:=11) (.s [0,1,2,3,4,5,6,7,8,9]<| .o 10<| .x<| .d) [⟨some g8,54,[.int .i64 21,.int .i64 (ra:Int),.int .i64 (rb:Int),.int .i64 (rd:Int),.int .i64 (mi:Int)]⟩,⟨some gt,52,y.tcs⟩] hm rfl rfl ?_
   clear hm;intro t_ w1_ hm
   repeat' (first|(refine dgd799_ ?_;clear t_ hs hm a;intros;rename_i a hm hs t_)|refine tE t_ ?_|refine tC ?_ ?_|exact tN|intro t_|(refine oDoN (i:=10) hs rfl (Wnt.none rfl) rfl (by exact d_store hs rfl rfl rfl tab rfl rfl rfl rfl hm rep_ (putG (by show ra*2+2≤_;omega))) ?_;clear hs;rintro-w1 hm a hs;replace t_:=tX t_;refine⟨(hm.sub sub_),?_⟩)|(refine tD t_ ?_;(refine gsc5af_ ?_;clear hs hm a;intros;rename_i a hm hs);(exact endR ⟨0,IntKind.u16.wrap ((pc+1:Nat):Int)⟩ mi _ _ ⟨.inl rfl,u16_bd _⟩ (by omega) (fun h=>by cases h) ((sb_ hs)) (hm.sub sub_)))|fail)
  by_cases h22:op=22
  ·subst h22
   by_cases hct:ca.t=0
   ·by_cases hcv:255<ca.v
    ·refine gsc5af_ ?_;clear hs hm a;intros;rename_i a hm hs
     refine st hs rfl rfl rfl (d_call hs rfl rfl rfl (pl 42 rfl) ((trap_c gt t y.tcs 2 _ (hm.me _ mem_) (by omega)))) ?_;clear hs a;rintro _ w1 ⟨rfl,hk⟩ a hs
     replace hm:=hm.into hk rfl rep_
     clear hk
     refine gsc5af_ ?_;clear hs hm a;intros;rename_i a hm hs
     exact gRet1 hs rfl rfl (htr 2 _ (by omega) (hm.sub sub_))
    ·refine gsc5af_ ?_;clear hs hm a;intros;rename_i a hm hs
     have hcw:IntKind.i64.wrap ca.v=((ca.v.toNat:Nat):Int):=by
      have:=hva.2
      rw[wrap_idP (by omega)]
      omega
     rw[hcw]at hs
     exact end0 ca.v.toNat _ _ (by omega) (fun h=>by cases h) ((sb_ hs)) (hm.sub sub_)
   ·refine gsc5af_ ?_;clear hs hm a;intros;rename_i a hm hs
    refine st hs rfl rfl rfl (d_call hs rfl rfl rfl (pl 42 rfl) ((trap_c gt t y.tcs 3 _ (hm.me _ mem_) (by omega)))) ?_;clear hs a;rintro _ w1 ⟨rfl,hk⟩ a hs
    replace hm:=hm.into hk rfl rep_
    clear hk
    refine gsc5af_ ?_;clear hs hm a;intros;rename_i a hm hs
    exact gRet1 hs rfl rfl (htr 3 _ (by omega) (hm.sub sub_))
  by_cases h24:op=24
  ·subst h24
   by_cases hsv:q.d.sav=-1
   ·refine gsc5af_ ?_;clear hs hm a;intros;rename_i a hm hs
    refine st hs rfl rfl rfl (d_call hs rfl rfl rfl (pl 42 rfl) ((trap_c gt t y.tcs 1 _ (hm.me _ mem_) (by omega)))) ?_;clear hs a;rintro _ w1 ⟨rfl,hk⟩ a hs
    replace hm:=hm.into hk rfl rep_
    clear hk
    refine gsc5af_ ?_;clear hs hm a;intros;rename_i a hm hs
    exact gRet1 hs rfl rfl (htr 1 _ (by omega) (hm.sub sub_))
   ·obtain⟨sv,hsv2⟩:∃sv:Nat,q.d.sav=(sv:Int):=⟨q.d.sav.toNat,by have:=hqv.sav;omega⟩
    have hsb:=hqv.sav
    rw[hsv2]at e5
    have l5:t*8+5<y.tcs.length:=by omega
    refine gsc5af_ ?_;clear hs hm a;intros;rename_i a hm hs
    have r1:=trow_set hrow htk 5 (by omega) (.int .i64 (-1)) (q2:={q with d:={q.d with sav:=-1}}) rfl
    exact⟨y.m,{q with d:={q.d with sav:=-1}},_,sv,hy.m,hmv,MeO.like.refl _,hqo,hgq,⟨rfl,rfl,rfl,rfl,rfl,rfl,hqv.n,hqv.cv,⟨by dsimp only;omega,by dsimp only;omega⟩⟩,r1,by omega,fun h=>(by cases h),(sb_ hs),by rw[hW];exact hm.sub sub_⟩
  by_cases h23:op=23
  ·subst h23
   have l0:t*8+0<y.tcs.length:=by omega
   have l2b:t*8+2<(y.tcs.set (t*8+0) (.int .i64 2)).length:=by rw[List.length_set];omega
   refine gsc5af_ ?_;clear hs hm a;intros;rename_i a hm hs
   have r1:=trow_set hrow htk 0 (by omega) (.int .i64 2) (q2:={q with d:={q.d with st:=2}}) rfl
   have r2:=trow_set r1 htk 2 (by omega) (.int .i64 ((pc+1:Nat):Int)) (q2:={q with d:={q.d with st:=2,pc:=((pc+1:Nat):Int)}}) rfl
   refine gRet1 hs rfl rfl ⟨y.upd t {q with d:={q.d with st:=2,pc:=((pc+1:Nat):Int)}} _ y.m,1,q.d,{q.d with st:=2,pc:=((pc+1:Nat):Int)},rfl,MO.upd_ok hy hy.m hqo (by rw[hgt,htl];exact r2),MO.upd_val hv (by omega) hmv ⟨⟨by dsimp only;omega,by dsimp only;omega⟩,hqv.n,⟨by dsimp only;omega,by dsimp only;omega⟩,⟨hqv.cnt.1,by have:=hqv.cnt.2;dsimp only;omega⟩,hqv.han,hqv.sav,hqv.trp,hqv.cod,hqv.cv⟩,MO.upd_vs (MeO.like.refl _),hqd,MO.upd_th htk,.inr (.inl ⟨rfl,by omega,by omega,by dsimp only;omega,_,by rw[hpc,Int.toNat_natCast];exact hci,rfl⟩),MO.upd_mm htk ?_⟩
   rw[hR,hW,hgt]
   show Mm A0 wB (⟨q.A,103,q.cs⟩::_) _
   rw[hgq]
   exact hm.sub sub_
  have hgp:LGap y.bs p.ss:=hv.gap
  have hbl:y.bs.length=p.ss.length:=hgp.len
  have hsz:=hpv.sz
  have hrb:=hy.b
  obtain⟨gb,hgb⟩:=hrb.some_ (by have:=hsz.one;omega)
  rw[hgb]at hrb
  have hbe:=hrb.le
  by_cases h15:op=15
  ·subst h15
   have hl:=hlea rfl
   have eb:y.bcs[mi]?=some (.int .i64 (y.bs[mi]'(by omega))):=hrb.get (ints_some (by omega))
   generalize y.bs[mi]'(_)=bm at eb
   rw[hgb]at hm hh1
   refine gsc5af_ ?_;clear hs hm a;intros;rename_i a hm hs
   refine cDrawT (n:=19) (.s [0,1,2,3,4,5,6,7,8,9,10,11,12,13,14,15,16,17]<| .o 18<| .x<| .d) [⟨some g8,54,[.int .i64 15,.int .i64 (ra:Int),.int .i64 (rb:Int),.int .i64 (rd:Int),.int .i64 (mi:Int)]⟩,⟨some gt,52,y.tcs⟩,⟨some gb,3,y.bcs⟩] hm rfl rfl ?_
   clear hm;intro t_ w1_ hm
   repeat' (first|(refine dgd799_ ?_;clear t_ hs hm a;intros;rename_i a hm hs t_)|refine tE t_ ?_|refine tC ?_ ?_|exact tN|intro t_|(refine oDoN (i:=18) hs rfl (Wnt.none rfl) rfl (by exact d_store hs rfl rfl rfl tab rfl rfl rfl rfl hm rep_ (putG (by show ra*2+2≤_;omega))) ?_;clear hs;rintro-w1 hm a hs;replace t_:=tX t_;refine⟨(hm.sub sub_),?_⟩)|(refine tD t_ ?_;(refine gThen ?_);(rw[←hgb]at hm);(exact endR ⟨1,IntKind.u16.wrap bm⟩ (pc+1) _ _ ⟨.inr (.inl rfl),u16_bd _⟩ (by omega) (fun _=>rfl) ((sb_ hs)) (hm.sub sub_)))|fail)
  obtain⟨X,hX⟩:∃X:LS,X=⟨y.bA.map fun g=>⟨g,0,none⟩,p.ss.length,y.bc,y.bs,y.key,p.sA,p.sc,p.ss⟩:=⟨_,rfl⟩
  have hXg:LGap X.bs X.ss:=by rw[hX];exact hgp
  have lsok:∀(w:World)(M:List Hp),Mm A0 wB M w→(⟨y.bA,3,y.bcs⟩:Hp)∈M→X.ok w:=fun w M hm hM=>by
   have h1:=hm.rd_row hM (by rw[hgb];exact hrb)
   rw[hX]
   refine⟨hbl,rfl,h1,(hm.fr.rd hp.s hN hnA).more (Nat.le_trans hN hm.fr.size),fun z hz=>?_,hsz.bd,hsz.four⟩
   replace hz:z∈y.bs:=hz
   obtain⟨k,hk,rfl⟩:=List.mem_iff_getElem.1 hz
   have h2:=hgp.b k hk
   have h3:=hsz.bd _ (List.getElem_mem (show k<p.ss.length by omega))
   rw[getI hk,getI (l:=p.ss) (k:=k) (by omega)]at h2
   omega
  have hXl:X.l= .agg #[slv y.bA y.bs.length y.bc,.int .u16 y.key]:=by rw[hX,hbl];rfl
  have hXs:X.s= .slice p.sA p.ss.length p.sc:=by rw[hX];rfl
  have hhL:Ro wB gm 0 [slv y.bA y.bs.length y.bc,.int .u16 y.key]:=fun j v hj=>hh1 j v (by
   have:=(List.getElem?_eq_some_iff.1 hj).1
   rcases(by simp at this;omega:j=0∨j=1)with rfl|rfl<;>exact hj)
  have hhM:Ro wB gm (0+2) [slv y.m.cA y.m.xs.length y.m.cc,slv y.m.lA y.m.ls.length y.m.lc]:=Ro.sub (d:=2) hh1 (fun j v hj=>by
   have:=(List.getElem?_eq_some_iff.1 hj).1
   rcases(by simp at this;omega:j=0∨j=1)with rfl|rfl<;>exact hj)
  clear hh1 hh
  have hhM2:∀_:Unit,Ro wB gm (0+2) [slv y.m.cA y.m.xs.length y.m.cc,slv y.m.lA y.m.ls.length y.m.lc]:=fun _=>hhM
  clear hhM
  have hgm2:¬own y.m.hps gm:=fun⟨x,hx,e⟩=>hng ⟨x,List.mem_cons_of_mem _ (List.mem_cons_of_mem _ (List.mem_append_left _ hx)),e⟩
  by_cases h16:op=16
  ·subst h16
   refine gsc5af_ ?_;clear hs hm a;intros;rename_i a hm hs
   obtain⟨g12,rfl⟩:=hs.pp 12
   refine cMid (fun a w=>∃g13:Nat,Sl Tryz.f28.ntmps [(1,.pointer (some ⟨gm,0,none⟩)),(3,.pointer (some ⟨g3,0,none⟩)),(7,.pointer (some ⟨gt,t*8,none⟩)),(8,.pointer (some ⟨g8,0,none⟩)),(9,.int .i64 ((pc+1:Nat):Int)),(10,.pointer (some ⟨g10,0,none⟩)),(11,.pointer (some ⟨g11,0,none⟩)),(12,.pointer (some ⟨g12,0,none⟩)),(13,.pointer (some ⟨g13,0,none⟩)),(14,.int .i64 (movF X cb.t cb.v (IntKind.u16.wrap (mi:Int)) false).2)] a∧Mm A0 wB (⟨some g13,103,[.int .u8 (movF X cb.t cb.v (IntKind.u16.wrap (mi:Int)) false).1.1,.int .u16 (movF X cb.t cb.v (IntKind.u16.wrap (mi:Int)) false).1.2]⟩::⟨some g12,103,[.int .u8 cb.t,.int .u16 cb.v]⟩::⟨some g11,103,[.int .u8 cb.t,.int .u16 cb.v]⟩::⟨some g10,103,[.int .u8 ca.t,.int .u16 ca.v]⟩::⟨some g8,54,[.int .i64 16,.int .i64 (ra:Int),.int .i64 (rb:Int),.int .i64 (rd:Int),.int .i64 (mi:Int)]⟩::⟨some g3,38,[.slice (some ⟨bc,oc,none⟩) p.code.length p.cc,.slice p.sA p.ss.length p.sc,.slice p.dA p.ws.length p.dc]⟩::⟨some gq,103,q.cs⟩::⟨some gt,52,y.tcs⟩::⟨y.bA,3,y.bcs⟩::W) w) ?_ ?_
   ·with_reducible repeat(first|apply gThen|apply wp_seq)
    refine cDrawT (n:=17) (.s [0,1,2,3,4,5,6,7,8,9]<| .e [(10,.x<| .s [11,12,13]<| .o 14<| .o 15<| .t 16<| .d),(14,.o 10<| .x<| .s [11,12,13]<| .o 15<| .t 16<| .d)]) [⟨some g12,103,[.int .u8 cb.t,.int .u16 cb.v]⟩,⟨some g8,54,[.int .i64 16,.int .i64 (ra:Int),.int .i64 (rb:Int),.int .i64 (rd:Int),.int .i64 (mi:Int)]⟩,⟨some g3,38,[.slice (some ⟨bc,oc,none⟩) p.code.length p.cc,.slice p.sA p.ss.length p.sc,.slice p.dA p.ws.length p.dc]⟩] hm rfl rfl ?_
    clear hm;intro t_ w1_ hm
    repeat' (first|(refine dgd799_ ?_;clear t_ hs hm a;intros;rename_i a hm hs t_)|refine tE t_ ?_|refine tC ?_ ?_|exact tN|intro t_|(refine oDo (i:=10) hs rfl (Wnt.none rfl) rfl rfl (by exact d_call hs rfl rfl rfl (pl 43 rfl) ((by have h:=rmov_c X cb.t cb.v (IntKind.u16.wrap (mi:Int)) false _ (lsok _ _ hm mem_) hvb.2 (u16_bd _);rw[hXl,hXs]at h;exact h))) ?_;clear hs;rintro _ w1 ⟨rfl,hf⟩ a hs;(replace hm:=hm.pu hf);(clear hf);(unfold clV at hs);replace t_:=tX t_;refine⟨(hm.sub sub_),?_⟩)|(refine tD t_ ?_;(obtain⟨g13,rfl⟩:=hs.pp 13);(exact And.intro rfl ⟨g13,(sb_ hs),hm⟩))|fail)
   clear hs hm a
   rintro a w ⟨g13,hs,hm⟩
   obtain⟨hmo1,hmo2,hmo3⟩:=movF_ok hXg cb.t cb.v (IntKind.u16.wrap (mi:Int)) false
   generalize movF X cb.t cb.v (IntKind.u16.wrap (mi:Int)) false=mr at*
   obtain⟨⟨rt,rv⟩,e⟩:=mr
   dsimp only at hmo1 hmo2 hmo3 hs hm
   by_cases he:e=0
   ·subst he
    obtain⟨ad,had,rfl⟩:=hmo3 rfl
    have hwr:IntKind.i64.wrap (ad:Int)=(ad:Int):=wrap_idP (by omega)
    refine gsc5af_ ?_;clear hs hm a;intros;rename_i a hm hs
    rw[←hW]at hm
    refine cDrawT (n:=15) (.s [0,1,2,3,4,5,6,7,8,9,10,11]<| .o 12<| .x<| .t 13<| .o 14<| .x<| .d) [⟨some g13,103,[.int .u8 rt,.int .u16 (ad:Int)]⟩,⟨some g8,54,[.int .i64 16,.int .i64 (ra:Int),.int .i64 (rb:Int),.int .i64 (rd:Int),.int .i64 (mi:Int)]⟩,⟨some gt,52,y.tcs⟩] hm rfl rfl ?_
    clear hm;intro t_ w1_ hm
    repeat' (first|(refine dgd799_ ?_;clear t_ hs hm a;intros;rename_i a hm hs t_)|refine tE t_ ?_|refine tC ?_ ?_|exact tN|intro t_|(refine oDo (i:=12) hs rfl (Wnt.none rfl) rfl rfl (by exact d_call hs rfl rfl rfl (pl 44 rfl) ((by rw[hwr];exact load_c gm (0+2) y.m ad _ hm.part9 hy.m hmv ((hhM2 ()).ro hm hngA) hgm2 had))) ?_;clear hs;rintro _ w1 ⟨z,c,rfl,hcv,hzo,hzv,hzl,hk⟩ a hs;(replace hm:=hm.swap9 hk);(clear hk);replace t_:=tX t_;refine⟨(hm.sub sub_),?_⟩)|(refine oDoN (i:=14) hs rfl (Wnt.none rfl) rfl (by exact d_store hs rfl rfl rfl tab rfl rfl rfl rfl hm rep_ (putG (by show ra*2+2≤_;omega))) ?_;clear hs;rintro-w1 hm a hs;replace t_:=tX t_;refine⟨(hm.sub sub_),?_⟩)|(refine tD t_ ?_;(refine gThen ?_);(exact endM z c _ _ hcv hzo hzv hzl ((sb_ hs)) (hm.sub sub_)))|fail)
   ·refine gsc5af_ ?_;clear hs hm a;intros;rename_i a hm hs
    refine st hs rfl rfl rfl (d_call hs rfl rfl rfl (pl 42 rfl) ((trap_c gt t y.tcs e _ (hm.me _ mem_) (by omega)))) ?_;clear hs a;rintro _ w1 ⟨rfl,hk⟩ a hs
    replace hm:=hm.into hk rfl rep_
    clear hk
    refine gsc5af_ ?_;clear hs hm a;intros;rename_i a hm hs
    exact gRet1 hs rfl rfl (htr e _ (by omega) (hm.sub sub_))
  by_cases h17:op=17
  ·subst h17
   refine gsc5af_ ?_;clear hs hm a;intros;rename_i a hm hs
   obtain⟨g12,rfl⟩:=hs.pp 12
   refine cMid (fun a w=>∃g13:Nat,Sl Tryz.f28.ntmps [(1,.pointer (some ⟨gm,0,none⟩)),(3,.pointer (some ⟨g3,0,none⟩)),(7,.pointer (some ⟨gt,t*8,none⟩)),(8,.pointer (some ⟨g8,0,none⟩)),(9,.int .i64 ((pc+1:Nat):Int)),(10,.pointer (some ⟨g10,0,none⟩)),(11,.pointer (some ⟨g11,0,none⟩)),(12,.pointer (some ⟨g12,0,none⟩)),(13,.pointer (some ⟨g13,0,none⟩)),(14,.int .i64 (movF X ca.t ca.v (IntKind.u16.wrap (mi:Int)) false).2)] a∧Mm A0 wB (⟨some g13,103,[.int .u8 (movF X ca.t ca.v (IntKind.u16.wrap (mi:Int)) false).1.1,.int .u16 (movF X ca.t ca.v (IntKind.u16.wrap (mi:Int)) false).1.2]⟩::⟨some g12,103,[.int .u8 ca.t,.int .u16 ca.v]⟩::⟨some g11,103,[.int .u8 cb.t,.int .u16 cb.v]⟩::⟨some g10,103,[.int .u8 ca.t,.int .u16 ca.v]⟩::⟨some g8,54,[.int .i64 17,.int .i64 (ra:Int),.int .i64 (rb:Int),.int .i64 (rd:Int),.int .i64 (mi:Int)]⟩::⟨some g3,38,[.slice (some ⟨bc,oc,none⟩) p.code.length p.cc,.slice p.sA p.ss.length p.sc,.slice p.dA p.ws.length p.dc]⟩::⟨some gq,103,q.cs⟩::⟨some gt,52,y.tcs⟩::⟨y.bA,3,y.bcs⟩::W) w) ?_ ?_
   ·with_reducible repeat(first|apply gThen|apply wp_seq)
    refine cDrawT (n:=17) (.s [0,1,2,3,4,5,6,7,8,9]<| .e [(10,.x<| .s [11,12,13]<| .o 14<| .o 15<| .t 16<| .d),(14,.o 10<| .x<| .s [11,12,13]<| .o 15<| .t 16<| .d)]) [⟨some g12,103,[.int .u8 ca.t,.int .u16 ca.v]⟩,⟨some g8,54,[.int .i64 17,.int .i64 (ra:Int),.int .i64 (rb:Int),.int .i64 (rd:Int),.int .i64 (mi:Int)]⟩,⟨some g3,38,[.slice (some ⟨bc,oc,none⟩) p.code.length p.cc,.slice p.sA p.ss.length p.sc,.slice p.dA p.ws.length p.dc]⟩] hm rfl rfl ?_
    clear hm;intro t_ w1_ hm
    repeat' (first|(refine dgd799_ ?_;clear t_ hs hm a;intros;rename_i a hm hs t_)|refine tE t_ ?_|refine tC ?_ ?_|exact tN|intro t_|(refine oDo (i:=10) hs rfl (Wnt.none rfl) rfl rfl (by exact d_call hs rfl rfl rfl (pl 43 rfl) ((by have h:=rmov_c X ca.t ca.v (IntKind.u16.wrap (mi:Int)) false _ (lsok _ _ hm mem_) hva.2 (u16_bd _);rw[hXl,hXs]at h;exact h))) ?_;clear hs;rintro _ w1 ⟨rfl,hf⟩ a hs;(replace hm:=hm.pu hf);(clear hf);(unfold clV at hs);replace t_:=tX t_;refine⟨(hm.sub sub_),?_⟩)|(refine tD t_ ?_;(obtain⟨g13,rfl⟩:=hs.pp 13);(exact And.intro rfl ⟨g13,(sb_ hs),hm⟩))|fail)
   clear hs hm a
   rintro a w ⟨g13,hs,hm⟩
   obtain⟨hmo1,hmo2,hmo3⟩:=movF_ok hXg ca.t ca.v (IntKind.u16.wrap (mi:Int)) false
   generalize movF X ca.t ca.v (IntKind.u16.wrap (mi:Int)) false=mr at*
   obtain⟨⟨rt,rv⟩,e⟩:=mr
   dsimp only at hmo1 hmo2 hmo3 hs hm
   by_cases he:e=0
   ·subst he
    obtain⟨ad,had,rfl⟩:=hmo3 rfl
    have hwr:IntKind.i64.wrap (ad:Int)=(ad:Int):=wrap_idP (by omega)
    refine gsc5af_ ?_;clear hs hm a;intros;rename_i a hm hs
    rw[←hW]at hm
    refine cDrawT (n:=8) (.s [0,1,2,3,4,5,6]<| .o 7<| .x<| .d) [⟨some g13,103,[.int .u8 rt,.int .u16 (ad:Int)]⟩,⟨some g11,103,[.int .u8 cb.t,.int .u16 cb.v]⟩] hm rfl rfl ?_
    clear hm;intro t_ w1_ hm
    repeat' (first|(refine dgd799_ ?_;clear t_ hs hm a;intros;rename_i a hm hs t_)|refine tE t_ ?_|refine tC ?_ ?_|exact tN|intro t_|(refine oDo (i:=7) hs rfl (Wnt.none rfl) rfl rfl (by exact d_call hs rfl rfl rfl (pl 45 rfl) ((by rw[hwr];exact store_c gm (0+2) y.m ad cb _ hm.part9 hy.m hmv ((hhM2 ()).ro hm hngA) hgm2 had hvb))) ?_;clear hs;rintro _ w1 ⟨z,hzo,hzv,hzl,hk⟩ a hs;(replace hm:=hm.swap9 hk);(clear hk);replace t_:=tX t_;refine⟨(hm.sub sub_),?_⟩)|(refine tD t_ ?_;(refine gThen ?_);(exact endN z _ _ hzo hzv hzl ((sb_ hs)) (hm.sub sub_)))|fail)
   ·refine gsc5af_ ?_;clear hs hm a;intros;rename_i a hm hs
    refine st hs rfl rfl rfl (d_call hs rfl rfl rfl (pl 42 rfl) ((trap_c gt t y.tcs e _ (hm.me _ mem_) (by omega)))) ?_;clear hs a;rintro _ w1 ⟨rfl,hk⟩ a hs
    replace hm:=hm.into hk rfl rep_
    clear hk
    refine gsc5af_ ?_;clear hs hm a;intros;rename_i a hm hs
    exact gRet1 hs rfl rfl (htr e _ (by omega) (hm.sub sub_))
  have hop2:3≤op∧op≤14:=by omega
  refine gsc5af_ ?_;clear hs hm a;intros;rename_i a hm hs
  refine cMid (fun a w=>∃g15:Nat,Sl Tryz.f28.ntmps [(7,.pointer (some ⟨gt,t*8,none⟩)),(8,.pointer (some ⟨g8,0,none⟩)),(9,.int .i64 ((pc+1:Nat):Int)),(15,.pointer (some ⟨g15,0,none⟩)),(16,.int .i64 (doF X op cb.t cb.v cd.t cd.v).2)] a∧Mm A0 wB (⟨some g15,103,[.int .u8 (doF X op cb.t cb.v cd.t cd.v).1.1,.int .u16 (doF X op cb.t cb.v cd.t cd.v).1.2]⟩::⟨some g8,54,[.int .i64 op,.int .i64 (ra:Int),.int .i64 (rb:Int),.int .i64 (rd:Int),.int .i64 (mi:Int)]⟩::⟨some gq,103,q.cs⟩::⟨some gt,52,y.tcs⟩::⟨y.bA,3,y.bcs⟩::W) w) ?_ ?_
  ·with_reducible repeat(first|apply gThen|apply wp_seq)
   refine cDrawT (n:=24) (.s [0,1,2,3,4,5,6,7,8,9,10,11,12,13,14,15,16]<| .e [(17,.x<| .s [18,19,20]<| .o 21<| .o 22<| .t 23<| .d),(21,.o 17<| .x<| .s [18,19,20]<| .o 22<| .t 23<| .d)]) [⟨some g11,103,[.int .u8 cb.t,.int .u16 cb.v]⟩,⟨some g8,54,[.int .i64 op,.int .i64 (ra:Int),.int .i64 (rb:Int),.int .i64 (rd:Int),.int .i64 (mi:Int)]⟩,⟨some g3,38,[.slice (some ⟨bc,oc,none⟩) p.code.length p.cc,.slice p.sA p.ss.length p.sc,.slice p.dA p.ws.length p.dc]⟩,⟨some gq,103,q.cs⟩,⟨some gt,52,y.tcs⟩] hm rfl rfl ?_
   clear hm;intro t_ w1_ hm
   repeat' (first|(refine dgd799_ ?_;clear t_ hs hm a;intros;rename_i a hm hs t_)|refine tE t_ ?_|refine tC ?_ ?_|exact tN|intro t_|(refine oDo (i:=17) hs rfl (Wnt.none rfl) rfl rfl (by exact d_call hs rfl rfl rfl (pl 46 rfl) ((by have h:=rdo_c X op cb.t cb.v cd.t cd.v _ (lsok _ _ hm mem_) hvb.1 hvd.1 hvb.2 hvd.2;rw[hXl,hXs]at h;exact h))) ?_;clear hs;rintro _ w1 ⟨rfl,hf⟩ a hs;(replace hm:=hm.pu hf);(clear hf);(unfold dV clV at hs);replace t_:=tX t_;refine⟨(hm.sub sub_),?_⟩)|(refine tD t_ ?_;(obtain⟨g15,rfl⟩:=hs.pp 15);(exact And.intro rfl ⟨g15,(sb_ hs),hm.sub sub_⟩))|fail)
  clear hs hm a
  rintro a w ⟨g15,hs,hm⟩
  have hdo:=doF_ok hXg (op:=op) (t:=cb.t) (s:=cd.t) hvb.2 hvd.2
  generalize doF X op cb.t cb.v cd.t cd.v=dr at*
  obtain⟨⟨rt,rv⟩,e⟩:=dr
  dsimp only at hdo hs hm
  by_cases he:e=0
  ·subst he
   refine gsc5af_ ?_;clear hs hm a;intros;rename_i a hm hs
   refine cDrawT (n:=9) (.s [0,1,2,3,4,5,6,7]<| .o 8<| .x<| .d) [⟨some g15,103,[.int .u8 rt,.int .u16 rv]⟩,⟨some g8,54,[.int .i64 op,.int .i64 (ra:Int),.int .i64 (rb:Int),.int .i64 (rd:Int),.int .i64 (mi:Int)]⟩,⟨some gt,52,y.tcs⟩] hm rfl rfl ?_
   clear hm;intro t_ w1_ hm
   repeat' (first|(refine dgd799_ ?_;clear t_ hs hm a;intros;rename_i a hm hs t_)|refine tE t_ ?_|refine tC ?_ ?_|exact tN|intro t_|(refine oDoN (i:=8) hs rfl (Wnt.none rfl) rfl (by exact d_store hs rfl rfl rfl tab rfl rfl rfl rfl hm rep_ (putG (by show ra*2+2≤_;omega))) ?_;clear hs;rintro-w1 hm a hs;replace t_:=tX t_;refine⟨(hm.sub sub_),?_⟩)|(refine tD t_ ?_;(refine gThen ?_);(exact endR ⟨rt,rv⟩ (pc+1) _ _ hdo.1 (by omega) (fun _=>rfl) ((sb_ hs)) (hm.sub sub_)))|fail)
  ·refine gsc5af_ ?_;clear hs hm a;intros;rename_i a hm hs
   refine st hs rfl rfl rfl (d_call hs rfl rfl rfl (pl 42 rfl) ((trap_c gt t y.tcs e _ (hm.me _ mem_) (by omega)))) ?_;clear hs a;rintro _ w1 ⟨rfl,hk⟩ a hs
   replace hm:=hm.into hk rfl rep_
   clear hk
   refine gsc5af_ ?_;clear hs hm a;intros;rename_i a hm hs
   exact gRet1 hs rfl rfl (htr e _ (by omega) (hm.sub sub_))
 ·refine gq20dc_ ?_;clear hs hm a;intros;rename_i a hm hs
  refine st hs rfl rfl rfl (d_call hs rfl rfl rfl (pl 42 rfl) ((trap_c gt t y.tcs 2 _ (hm.me _ mem_) (by omega)))) ?_;clear hs a;rintro _ w1 ⟨rfl,hk⟩ a hs
  replace hm:=hm.into hk rfl rep_
  clear hk
  refine gsc5af_ ?_;clear hs hm a;intros;rename_i a hm hs
  exact gRet1 hs rfl rfl (htr 2 _ (by omega) (hm.sub sub_))
end Go.Proofs.YtbjffoojenpmfaaGreat
