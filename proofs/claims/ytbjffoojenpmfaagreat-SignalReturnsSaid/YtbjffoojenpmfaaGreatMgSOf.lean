/- Texts put together: Sgi, Sgj, Sgb, Lk, Lk2, Sgd, Eng23, Eng24, Sgk, Sgc. -/
import Derived.Laws.CopyRow
import Derived.Laws.IdiomCopy
import Derived.Test.YtbjffoojenpmfaaGreatMgSOe
set_option maxRecDepth 20000
set_option maxHeartbeats 64000000
namespace Go.Proofs.YtbjffoojenpmfaaGreat
open Go.RowKit
theorem gpSgi0_{G H:Prop}(k:H)(s:Bx H→G:=by intro k_;(repeat(first|(refine ovR_ ?_;(try clear hs a);intro a hs)|((with_reducible apply lCons);first|(refine dv hs gw_ rfl rfl da_ ?_;(try clear hs hm a);rintro _ w_ ⟨g_,rfl,-,hm⟩ a hs)|(refine stn hs rfl rfl ds_ ?_;(try clear hs hm a);rintro-w_ hm a hs))|refine sc_ ?_));have m_:=hm;have s_:=hs;clear hs;(try clear hm);revert m_ s_ a;(try revert w_);(repeat revert g_);exact k_.h):G:=s ⟨k⟩
theorem gcSgi1_{G H:Prop}(k:H)(s:Bx H→G:=by intro k_;(repeat(first|(refine ovR_ ?_;(try clear hs a);intro a hs)|((with_reducible apply lCons);first|(refine dv hs gw_ rfl rfl da_ ?_;(try clear hs hm a);rintro _ w_ ⟨g_,rfl,-,hm⟩ a hs)|(refine stn hs rfl rfl ds_ ?_;(try clear hs hm a);rintro-w_ hm a hs))|refine sc_ ?_|((with_reducible apply lCons);first|(refine dvc hs hm gw_ rfl rfl rfl rfl rfl (pl 68 rfl) (hjm _) ?_;(try clear hs hm a);intro w_ hm a hs))));(first|(have m_:=hm;have s_:=hs;clear hs;(try clear hm);revert m_ s_ a)|((first|refine rexc_ hs hm ?_|refine rexl_ hs hm ?_|refine rexg_ hs hm ?_|refine rexq_ hs hm ?_);intro a hm hs;revert hm hs a));(try revert w_);(repeat revert g_);exact k_.h):G:=s ⟨k⟩
theorem gpSgi2_{G H:Prop}(k:H)(s:Bx H→G:=by intro k_;(repeat(first|(refine ov6fb2_ ?_;(try clear hs a);intro a hs)|((with_reducible apply lCons);first|(refine dv hs gw_ rfl rfl da_ ?_;(try clear hs hm a);rintro _ w_ ⟨g_,rfl,-,hm⟩ a hs)|(refine stn hs rfl rfl ds_ ?_;(try clear hs hm a);rintro-w_ hm a hs))|refine sc_ ?_));have m_:=hm;have s_:=hs;clear hs;(try clear hm);revert m_ s_ a;(try revert w_);(repeat revert g_);exact k_.h):G:=s ⟨k⟩
theorem gcSgi3_{G H:Prop}(k:H)(s:Bx H→G:=by intro k_;(repeat(first|(refine ovR_ ?_;(try clear hs a);intro a hs)|((with_reducible apply lCons);first|(refine dv hs gw_ rfl rfl da_ ?_;(try clear hs hm a);rintro _ w_ ⟨g_,rfl,-,hm⟩ a hs)|(refine stn hs rfl rfl ds_ ?_;(try clear hs hm a);rintro-w_ hm a hs))|refine sc_ ?_|((with_reducible apply lCons);first|(refine dvc hs hm gw_ rfl rfl rfl rfl rfl (pl 68 rfl) (hv _) ?_;(try clear hs hm a);intro w_ hm a hs))));(first|(have m_:=hm;have s_:=hs;clear hs;(try clear hm);revert m_ s_ a)|((first|refine rexc_ hs hm ?_|refine rexl_ hs hm ?_|refine rexg_ hs hm ?_|refine rexq_ hs hm ?_);intro a hm hs;revert hm hs a));(try revert w_);(repeat revert g_);exact k_.h):G:=s ⟨k⟩
def CV.val(c:CV):Prop:=(c.t=0∨c.t=1∨c.t=2)∧0≤c.v∧c.v≤65535
theorem wval_c(c:CV)(wB:World)(h:c.val):Ret Tryz.prog 70 [.agg #[.int .u8 c.t,.int .u16 c.v]] wB (fun u w'=>u= .bool true∧Pu wB w'):=by
 obtain⟨t,v⟩:=c
 obtain⟨h1,h2⟩:=h
 dsimp only at*
 refine enterR Tryz.func70 rfl rfl rfl fun a hs hm=>?_
 refine gsce98_ ?_;clear hs hm a;intros;rename_i a hm hs
 exact gRet1 hs rfl rfl ⟨rfl,hm.fr⟩
theorem all_c(A:Option Addr)(c:Nat)(l:List CV)(wB:World)(hr:Rd wB wB.heap.size A (cvs l))(h:∀x∈l,x.val)(hn:l.length≤1000000):Ret Tryz.prog 69 [.slice A l.length c] wB (fun u w'=>u= .bool true∧Pu wB w'):=by
 refine enterR Tryz.func69 rfl rfl rfl fun a hs hm=>?_
 refine gsce98_ ?_;clear hs hm a;intros;rename_i a hm hs
 refine cLoop (X:=Nat) (fun k a w'=>Sl Tryz.f69.ntmps [(5,.slice A l.length c),(6,.int .i64 (l.length:Int)),(7,.int .i64 (k:Int))] a∧Mm (fun _=>False) wB [] w'∧k≤l.length) (fun k=>l.length-k) 0 ⟨(sb_ hs),hm,Nat.zero_le _⟩ ?_
 clear hs hm a
 rintro k a w' ⟨hs,hm,hk⟩
 by_cases hlt:k<l.length
 ·obtain⟨b1,o1,hA1,hb1,r1⟩:=hr.ro (by rw[cvs_len];omega)
  subst hA1
  have q1:=r1.flat CV.cs_len hlt
  have hv:=fun w=>wval_c l[k] w (h _ (List.getElem_mem hlt))
  generalize l[k]'(_)=x at*
  obtain⟨t,v⟩:=x
  unfold CV.cs at q1
  dsimp only at*
  repeat(first|(refine gpSgi0_ ?_;clear hs hm a;intros;rename_i a hm hs)|refine sc_ ?_|((with_reducible apply lCons);first|(refine dvc hs hm gw_ rfl rfl rfl rfl rfl (pl 70 rfl) (hv _) ?_;clear hs hm a;intro w hm a hs)))
  exact ze382_
 ·refine gsce98_ ?_;clear hs hm a;intros;rename_i a hm hs
  exact gRet1 hs rfl rfl ⟨rfl,hm.fr⟩
theorem iv_c(i:In)(wB:World)(h:InV i 4)(hj:jumpB i.op=true→i.m<64):Ret Tryz.prog 67 [inA i] wB (fun u w'=>u= .bool true∧Pu wB w'):=by
 have hus:=fun w=>uses_c i.op w
 have hjm:=fun w=>jump_c i.op w
 obtain⟨⟨u1,u2,u3,u4⟩,hu⟩:∃u,usesF i.op=u:=⟨_,rfl⟩
 obtain⟨jb,hjb⟩:∃b,jumpB i.op=b:=⟨_,rfl⟩
 obtain⟨hop,ha,hb,hc,hm',hlea,hsys⟩:=h
 rw[hu]at hus ha hb hc hm'
 rw[hjb]at hj hjm
 unfold u4V at hus
 clear hu hjb
 obtain⟨op,a0,b0,c0,m0⟩:=i
 unfold inA
 dsimp only at*
 refine enterR Tryz.func67 rfl rfl rfl fun a hs hm=>?_
 repeat(first|(refine gpSgi0_ ?_;clear hs hm a;intros;rename_i a hm hs)|refine sc_ ?_|((with_reducible apply lCons);first|(refine dvc hs hm gw_ rfl rfl rfl rfl rfl (pl 97 rfl) (hus _) ?_;clear hs hm a;intro w hm a hs)))
 obtain⟨g1,rfl⟩:=hs.pp 1
 obtain⟨g3,rfl⟩:=hs.pp 3
 obtain⟨g23,rfl⟩:=hs.qq 23
 refine cLoop (X:=Nat) (fun k a w'=>Sl Tryz.f67.ntmps [(1,pt g1),(3,pt g3),(23,.slice (some ⟨g23,0,none⟩) 3 3),(24,.int .i64 3),(25,.int .i64 (k:Int))] a∧Mm (fun _=>False) wB [⟨some g23,3,[.int .i64 a0,.int .i64 b0,.int .i64 c0]⟩,⟨some g3,186,[.bool u1,.bool u2,.bool u3,.bool u4]⟩,⟨some g1,54,[.int .i64 op,.int .i64 a0,.int .i64 b0,.int .i64 c0,.int .i64 m0]⟩] w'∧k≤3) (fun k=>3-k) 0 ⟨(sb_ hs),hm,Nat.zero_le _⟩ ?_
 clear hs hm a
 rintro k a w' ⟨hs,hm,hk⟩
 by_cases hlt:k<3
 ·skip
  by_cases e0:k=0
  ·subst e0
   cases u1
   ·obtain rfl:a0=0:=ha.2.2 rfl
    refine gsce98_ ?_;clear hs hm a;intros;rename_i a hm hs
    exact⟨0+1,by omega,(sb_ hs),hm,by omega⟩
   ·refine gsce98_ ?_;clear hs hm a;intros;rename_i a hm hs
    exact⟨0+1,by omega,(sb_ hs),hm,by omega⟩
  by_cases e1:k=1
  ·subst e1
   cases u2
   ·obtain rfl:b0=0:=hb.2.2 rfl
    refine gsce98_ ?_;clear hs hm a;intros;rename_i a hm hs
    exact⟨1+1,by omega,(sb_ hs),hm,by omega⟩
   ·refine gsce98_ ?_;clear hs hm a;intros;rename_i a hm hs
    exact⟨1+1,by omega,(sb_ hs),hm,by omega⟩
  by_cases e2:k=2
  ·subst e2
   cases u3
   ·obtain rfl:c0=0:=hc.2.2 rfl
    refine gsce98_ ?_;clear hs hm a;intros;rename_i a hm hs
    exact⟨2+1,by omega,(sb_ hs),hm,by omega⟩
   ·refine gsce98_ ?_;clear hs hm a;intros;rename_i a hm hs
    exact⟨2+1,by omega,(sb_ hs),hm,by omega⟩
  omega
 ·obtain rfl:k=3:=by omega
  have fin:(u4=false→m0=0):=hm'.2.2
  cases u4
  ·obtain rfl:m0=0:=fin rfl
   cases jb
   ·by_cases h15:op=15
    ·subst h15
     refine gcSgi1_ ?_;clear hs hm a;intros;rename_i a hm hs
     exact gRet1 hs rfl rfl ⟨rfl,hm.fr⟩
    ·by_cases h23:op=23
     ·subst h23
      refine gcSgi1_ ?_;clear hs hm a;intros;rename_i a hm hs
      exact gRet1 hs rfl rfl ⟨rfl,hm.fr⟩
     ·refine gcSgi1_ ?_;clear hs hm a;intros;rename_i a hm hs
      exact gRet1 hs rfl rfl ⟨rfl,hm.fr⟩
   ·refine gcSgi1_ ?_;clear hs hm a;intros;rename_i a hm hs
    exact gRet1 hs rfl rfl ⟨rfl,hm.fr⟩
  ·cases jb
   ·by_cases h15:op=15
    ·subst h15
     have:=hlea rfl
     refine gcSgi1_ ?_;clear hs hm a;intros;rename_i a hm hs
     exact gRet1 hs rfl rfl ⟨rfl,hm.fr⟩
    ·by_cases h23:op=23
     ·subst h23
      have:=hsys rfl
      refine gcSgi1_ ?_;clear hs hm a;intros;rename_i a hm hs
      exact gRet1 hs rfl rfl ⟨rfl,hm.fr⟩
     ·refine gcSgi1_ ?_;clear hs hm a;intros;rename_i a hm hs
      exact gRet1 hs rfl rfl ⟨rfl,hm.fr⟩
   ·have:=hj rfl
    refine gcSgi1_ ?_;clear hs hm a;intros;rename_i a hm hs
    exact gRet1 hs rfl rfl ⟨rfl,hm.fr⟩
theorem lv_c(A:Option Addr)(n c:Nat)(bs:List Int)(key:Int)(B:Option Addr)(d:Nat)(ss:List Int)(wB:World)(hl:ss.length=n)(hnc:n≤c)(hA:Rd wB wB.heap.size A (ints bs))(hB:Rd wB wB.heap.size B (ints ss))(ho:SzOk ss)(h:LGap bs ss):Ret Tryz.prog 39 [.agg #[.slice A n c,.int .u16 key],.slice B n d] wB (fun u w'=>u= .bool true∧Pu wB w'):=by
 have hvl:=fun w'' (hf:Pu wB w'')=>vld_c B n d ss w'' hl (hf.rd' hB) ho
 obtain⟨o1,o4,obd⟩:=ho
 obtain⟨g1,g2,g3⟩:=h
 rw[hl]at g1
 obtain⟨b1,o1',rfl,hb1,r1⟩:=hA.ro (by rw[ints_len];omega)
 obtain⟨b2,o2',rfl,hb2,r2⟩:=hB.ro (by rw[ints_len];omega)
 have hget:∀j,j<n→∃v s:Int,(ints bs)[j]?=some (.int .i64 v)∧(ints ss)[j]?=some (.int .i64 s)∧bs.getD j 0=v∧ss.getD j 0=s∧0≤v∧v+s≤512∧1≤s∧s≤32:=fun j hj=>by
  have h1:=g2 j (by omega)
  have h2:=obd ss[j] (List.getElem_mem (by omega))
  rw[getI (l:=bs) (by omega),getI (l:=ss) (by omega)]at h1
  exact⟨bs[j],ss[j],ints_some (by omega),ints_some (by omega),getI (by omega),getI (by omega),h1.1,h1.2,h2.1,h2.2⟩
 refine enterR Tryz.func39 rfl rfl rfl fun a hs hm=>?_
 repeat(first|(refine gpSgi2_ ?_;clear hs hm a;intros;rename_i a hm hs)|refine sc_ ?_|((with_reducible apply lCons);first|(refine dvc hs hm gw_ rfl rfl rfl rfl rfl (pl 66 rfl) (hvl _ hm.fr) ?_;clear hs hm a;intro w hm a hs)))
 obtain⟨g2,rfl⟩:=hs.pp 2
 refine cLoop (X:=Nat) (fun k a w'=>Sl Tryz.f39.ntmps [(1,.slice (some ⟨b2,o2',none⟩) n d),(2,pt g2),(21,.slice (some ⟨b1,o1',none⟩) n c),(22,.int .i64 (n:Int)),(23,.int .i64 (k:Int))] a∧Mm (fun _=>False) wB [⟨some g2,25,[.slice (some ⟨b1,o1',none⟩) n c,.int .u16 key]⟩] w'∧k≤n) (fun k=>n-k) 0 ⟨(sb_ hs),hm,Nat.zero_le _⟩ ?_
 clear hs hm a
 rintro k a w' ⟨hs,hm,hk⟩
 by_cases hlt:k<n
 ·obtain⟨v,s,e1,e2,f1,f2,h1,h2,h3,h4⟩:=hget k hlt
  refine gs6b74_ ?_;clear hs hm a;intros;rename_i a hm hs
  refine cLoop (X:=Nat) (fun j a w'=>Sl Tryz.f39.ntmps [(1,.slice (some ⟨b2,o2',none⟩) n d),(2,pt g2),(5,.int .i64 (k:Int)),(6,.int .i64 v),(21,.slice (some ⟨b1,o1',none⟩) n c),(22,.int .i64 (n:Int)),(23,.int .i64 (k:Int)),(42,.slice (some ⟨b1,o1',none⟩) k c),(43,.int .i64 (k:Int)),(44,.int .i64 (j:Int))] a∧Mm (fun _=>False) wB [⟨some g2,25,[.slice (some ⟨b1,o1',none⟩) n c,.int .u16 key]⟩] w'∧j≤k) (fun j=>k-j) 0 ⟨(sb_ hs),hm,Nat.zero_le _⟩ ?_
  clear hs hm a
  rintro j a w2 ⟨hs,hm,hj⟩
  by_cases hjt:j<k
  ·obtain⟨v2,s2,e3,e4,f3,f4,i1,i2,i3,i4⟩:=hget j (by omega)
   have hap:=g3 k j (by omega) (by omega) (by omega)
   rw[f1,f2,f3,f4]at hap
   rcases hap with hap|hap
   ·refine gs6b74_ ?_;clear hs hm a;intros;rename_i a hm hs
    exact⟨j+1,by omega,(sb_ hs),hm,by omega⟩
   ·refine gs6b74_ ?_;clear hs hm a;intros;rename_i a hm hs
    exact⟨j+1,by omega,(sb_ hs),hm,by omega⟩
  ·refine gs6b74_ ?_;clear hs hm a;intros;rename_i a hm hs
   exact z0359_
 ·refine gs6b74_ ?_;clear hs hm a;intros;rename_i a hm hs
  exact gRet1 hs rfl rfl ⟨rfl,hm.fr⟩
structure WV where
 A:Option Addr
 c:Nat
 xs:List Int
def WV.v(r:WV):Value:= .slice r.A r.xs.length r.c
structure PV where
 cA:Option Addr
 cc:Nat
 code:List In
 sA:Option Addr
 sc:Nat
 ss:List Int
 dA:Option Addr
 dc:Nat
 ws:List WV
def PV.v(p:PV):Value:= .agg #[.slice p.cA p.code.length p.cc,.slice p.sA p.ss.length p.sc,.slice p.dA p.ws.length p.dc]
abbrev PV.cl(p:PV)(t:List Value):List Value:= .slice p.cA p.code.length p.cc:: .slice p.sA p.ss.length p.sc:: .slice p.dA p.ws.length p.dc::t
structure PV.ok(p:PV)(w:World):Prop where
 c:Rd w w.heap.size p.cA (p.code.flatMap inV)
 s:Rd w w.heap.size p.sA (ints p.ss)
 d:Rd w w.heap.size p.dA (p.ws.map WV.v)
 dd:∀r∈p.ws,Rd w w.heap.size r.A (wds r.xs)
theorem PV.ok.pu{x:PV}{w w':World}(h:x.ok w)(hf:Pu w w'):x.ok w':=
 ⟨hf.rd' h.c,hf.rd' h.s,hf.rd' h.d,fun y hy=>hf.rd' (h.dd y hy)⟩
class HB where
 h:Int
 ge:0≤h
 le:h≤255
set_option linter.unusedSectionVars false
structure PV.val [HB](p:PV):Prop where
 sz:SzOk p.ss
 wl:p.ws.length=p.ss.length
 fit:∀k (h1:k<p.ws.length) (h2:k<p.ss.length),((p.ws[k]).xs.length:Int)≤p.ss[k]
 bd:∀r∈p.ws,∀y∈r.xs,0≤y∧y≤65535
 c1:1≤p.code.length
 c2:p.code.length≤64
 inv:∀i∈p.code,InV i (p.ss.length:Int)
 ju:∀i∈p.code,jumpB i.op=true→i.m<(p.code.length:Int)
 hb:(p.code.length:Int)≤HB.h+1
theorem chk_c [HB](p:PV)(wB:World)(hx:p.ok wB)(h:p.val):Ret Tryz.prog 38 [p.v] wB (fun u w'=>u= .int .i64 0∧Pu wB w'):=by
 obtain⟨cA,cc,code,sA,sc,ss,dA,dc,ws⟩:=p
 obtain⟨x1,x2,x3,x4⟩:=hx
 obtain⟨sz,wl,fit,bd,c1,c2,inv,ju⟩:=h
 unfold PV.v
 dsimp only at*
 have hvl:=fun w'' (hf:Pu wB w'')=>vld_c sA ss.length sc ss w'' rfl (hf.rd' x2) sz
 obtain⟨s1,s4,sbd⟩:=sz
 obtain⟨b1,o1,rfl,hb1,r1⟩:=x1.ro (by rw[flat_len inV 5 inV_len];omega)
 obtain⟨b2,o2,rfl,hb2,r2⟩:=x2.ro (by rw[ints_len];omega)
 obtain⟨b3,o3,rfl,hb3,r3⟩:=x3.ro (by rw[List.length_map];omega)
 rw[wl]
 refine enterR Tryz.func38 rfl rfl rfl fun a hs hm=>?_
 repeat(first|(refine gpSgi0_ ?_;clear hs hm a;intros;rename_i a hm hs)|refine sc_ ?_|((with_reducible apply lCons);first|(refine dvc hs hm gw_ rfl rfl rfl rfl rfl (pl 66 rfl) (hvl _ hm.fr) ?_;clear hs hm a;intro w hm a hs)))
 obtain⟨g1,rfl⟩:=hs.pp 1
 refine cLoop (X:=Nat) (fun k a w'=>Sl Tryz.f38.ntmps [(1,pt g1),(23,.slice (some ⟨b3,o3,none⟩) ss.length dc),(24,.int .i64 (ss.length:Int)),(25,.int .i64 (k:Int))] a∧Mm (fun _=>False) wB [⟨some g1,38,[.slice (some ⟨b1,o1,none⟩) code.length cc,.slice (some ⟨b2,o2,none⟩) ss.length sc,.slice (some ⟨b3,o3,none⟩) ss.length dc]⟩] w'∧k≤ss.length) (fun k=>ss.length-k) 0 ⟨(sb_ hs),hm,Nat.zero_le _⟩ ?_
 clear hs hm a
 rintro k a w' ⟨hs,hm,hk⟩
 by_cases hlt:k<ss.length
 ·have e1:=ints_some (xs:=ss) (k:=k) (by omega)
  have e2:(ws.map WV.v)[k]?=some (ws[k]'(by omega)).v:=by rw[List.getElem?_map,List.getElem?_eq_getElem (by omega)];rfl
  have e3:=fit k (by omega) hlt
  generalize ss[k]'(_)=sk at*
  generalize ws[k]'(_)=wk at*
  obtain⟨A4,c4,xs4⟩:=wk
  unfold WV.v at e2
  dsimp only at*
  refine gsce98_ ?_;clear hs hm a;intros;rename_i a hm hs
  exact z0359_
 obtain rfl:k=ss.length:=by omega
 refine gsce98_ ?_;clear hs hm a;intros;rename_i a hm hs
 refine cLoop (X:=Nat) (fun k a w'=>Sl Tryz.f38.ntmps [(1,pt g1),(50,.slice (some ⟨b1,o1,none⟩) code.length cc),(51,.int .i64 (code.length:Int)),(52,.int .i64 (k:Int))] a∧Mm (fun _=>False) wB [⟨some g1,38,[.slice (some ⟨b1,o1,none⟩) code.length cc,.slice (some ⟨b2,o2,none⟩) ss.length sc,.slice (some ⟨b3,o3,none⟩) ss.length dc]⟩] w'∧k≤code.length) (fun k=>code.length-k) 0 ⟨(sb_ hs),hm,Nat.zero_le _⟩ ?_
 clear hs hm a
 rintro k a w' ⟨hs,hm,hk⟩
 by_cases hlt:k<code.length
 ·have q1:=r1.flat inV_len hlt
  have hi:InV (code[k]) 4:=by
   have h4:=inv code[k] (List.getElem_mem hlt)
   exact⟨h4.op,h4.a,h4.b,h4.c,h4.m,fun e=>by have:=h4.lea e;omega,h4.sys⟩
  have hv:=fun w=>iv_c code[k] w hi (fun e=>by have:=ju code[k] (List.getElem_mem hlt) e;omega)
  generalize code[k]'(_)=i at*
  obtain⟨op,a0,b0,c0,m0⟩:=i
  unfold inV at q1
  unfold inA at hv
  dsimp only at*
  repeat(first|(refine gpSgi0_ ?_;clear hs hm a;intros;rename_i a hm hs)|refine sc_ ?_|((with_reducible apply lCons);first|(refine dvc hs hm gw_ rfl rfl rfl rfl rfl (pl 67 rfl) (hv _) ?_;clear hs hm a;intro w hm a hs)))
  exact zd36a_
 obtain rfl:k=code.length:=by omega
 refine gsce98_ ?_;clear hs hm a;intros;rename_i a hm hs
 refine cLoop (X:=Nat) (fun k a w'=>Sl Tryz.f38.ntmps [(1,pt g1),(61,.slice (some ⟨b1,o1,none⟩) code.length cc),(62,.int .i64 (code.length:Int)),(63,.int .i64 (k:Int))] a∧Mm (fun _=>False) wB [⟨some g1,38,[.slice (some ⟨b1,o1,none⟩) code.length cc,.slice (some ⟨b2,o2,none⟩) ss.length sc,.slice (some ⟨b3,o3,none⟩) ss.length dc]⟩] w'∧k≤code.length) (fun k=>code.length-k) 0 ⟨(sb_ hs),hm,Nat.zero_le _⟩ ?_
 clear hs hm a
 rintro k a w' ⟨hs,hm,hk⟩
 by_cases hlt:k<code.length
 ·have q1:=r1.flat inV_len hlt
  have h4:=inv code[k] (List.getElem_mem hlt)
  have hj:=ju code[k] (List.getElem_mem hlt)
  have hv:=fun w=>jump_c code[k].op w
  generalize code[k]'(_)=i at*
  obtain⟨op,a0,b0,c0,m0⟩:=i
  unfold inV at q1
  have hlea:=h4.lea
  dsimp only at*
  generalize jumpB op=jb at*
  cases jb
  ·by_cases h15:op=15
   ·subst h15
    have:=hlea rfl
    refine gcSgi3_ ?_;clear hs hm a;intros;rename_i a hm hs
    exact zd36a_
   ·refine gcSgi3_ ?_;clear hs hm a;intros;rename_i a hm hs
    exact zd36a_
  ·have:=hj rfl
   by_cases h15:op=15
   ·subst h15
    have:=hlea rfl
    refine gcSgi3_ ?_;clear hs hm a;intros;rename_i a hm hs
    exact zd36a_
   ·refine gcSgi3_ ?_;clear hs hm a;intros;rename_i a hm hs
    exact zd36a_
 obtain rfl:k=code.length:=by omega
 refine gsce98_ ?_;clear hs hm a;intros;rename_i a hm hs
 exact gRet1 hs rfl rfl ⟨rfl,hm.fr⟩
theorem gpSgj0_{G H:Prop}(k:H)(s:Bx H→G:=by intro k_;(repeat(first|(refine oqde87_ ?_;(try clear hs a);intro a hs)|((with_reducible apply lCons);first|(refine dv hs gw_ rfl rfl da_ ?_;(try clear hs hm a);rintro _ w_ ⟨g_,rfl,-,hm⟩ a hs)|(refine stn hs rfl rfl ds_ ?_;(try clear hs hm a);rintro-w_ hm a hs))|((with_reducible apply qNil);(try clear hm);intro w_ hm)|refine cQ_ ?_|refine sc_ ?_));have m_:=hm;have s_:=hs;clear hs;(try clear hm);revert m_ s_ a;(try revert w_);(repeat revert g_);exact k_.h):G:=s ⟨k⟩
theorem gpSgj1_{G H:Prop}(k:H)(s:Bx H→G:=by intro k_;(repeat(first|(refine ovR_ ?_;(try clear hs a);intro a hs)|((with_reducible apply lCons);first|(refine dv hs gw_ rfl rfl da_ ?_;(try clear hs hm a);rintro _ w_ ⟨g_,rfl,-,hm⟩ a hs)|(refine stn hs rfl rfl ds_ ?_;(try clear hs hm a);rintro-w_ hm a hs))|refine sc_ ?_));have m_:=hm;have s_:=hs;clear hs;(try clear hm);revert m_ s_ a;(try revert w_);(repeat revert g_);exact k_.h):G:=s ⟨k⟩
theorem gpSgj2_{G H:Prop}(k:H)(s:Bx H→G:=by intro k_;(repeat(first|(refine oqR_ ?_;(try clear hs a);intro a hs)|((with_reducible apply lCons);first|(refine dv hs gw_ rfl rfl da_ ?_;(try clear hs hm a);rintro _ w_ ⟨g_,rfl,-,hm⟩ a hs)|(refine stn hs rfl rfl ds_ ?_;(try clear hs hm a);rintro-w_ hm a hs))|((with_reducible apply qNil);(try clear hm);intro w_ hm)|refine cQ_ ?_|refine sc_ ?_));have m_:=hm;have s_:=hs;clear hs;(try clear hm);revert m_ s_ a;(try revert w_);(repeat revert g_);exact k_.h):G:=s ⟨k⟩
structure LnD.val(y:LnD)(i:Nat):Prop where
 free:y.tag=-1→y.d=false∧y.xs=[]
 at_:y.tag≠-1→0≤y.tag∧y.tag<128∧y.tag%4=(i:Int)∧y.xs.length=4
 cv:∀c∈y.xs,c.val
structure ThD.val [HB](y:ThD)(B:Int):Prop where
 st:0≤y.st∧y.st≤4
 n:y.xs.length=8
 pc:0≤y.pc∧y.pc≤255
 cnt:0≤y.cnt∧y.cnt≤B
 han:-1≤y.han∧y.han≤HB.h
 sav:-1≤y.sav∧y.sav≤255
 trp:0≤y.trp∧y.trp≤6
 cod:0≤y.cod∧y.cod≤65535
 cv:∀c∈y.xs,c.val
structure MD.val [HB](m:MD)(ss:List Int)(B:Int):Prop where
 gap:LGap m.bs ss
 key:0≤m.key∧m.key≤65535
 n:m.xs.length=512
 l:m.ls.length=4
 t:m.ts.length=4
 cv:∀c∈m.xs,c.val
 ll:∀i (h:i<m.ls.length),(m.ls[i]).val i
 tt:∀y∈m.ts,y.val B
theorem MD.val.sm [HB]{m:MD}{ss:List Int}{B:Int}(h:m.val ss B)(ho:SzOk ss):m.sm:=by
 refine⟨by have:=h.gap.len;have:=ho.four;omega,by rw[h.n];omega,by rw[h.l];omega,by rw[h.t];omega,fun y hy=>?_,fun y hy=>by rw[(h.tt y hy).n];omega⟩
 obtain⟨i,hi,rfl⟩:=List.mem_iff_getElem.1 hy
 have h1:=h.ll i hi
 by_cases e:m.ls[i].tag=-1
 ·rw[(h1.free e).2];simp
 ·rw[(h1.at_ e).2.2.2];omega
theorem mval_c(A:Option Addr)(c:Nat)(xs:List CV)(L:Option Addr)(d:Nat)(ls:List LnV)(wB:World)(hA:Rd wB wB.heap.size A (cvs xs))(hL:Rd wB wB.heap.size L (ls.flatMap LnV.v))(hll:∀y∈ls,Rd wB wB.heap.size y.A (cvs y.d.xs))(h1:xs.length=512)(h2:ls.length=4)(h3:∀z∈xs,z.val)(h4:∀i (h:i<ls.length),(ls[i]).d.val i):Ret Tryz.prog 40 [.agg #[.slice A xs.length c,.slice L ls.length d]] wB (fun u w'=>u= .bool true∧Pu wB w'):=by
 have k1:=fun w'' (hf:Pu wB w'')=>all_c A c xs w'' (hf.rd' hA) h3 (by omega)
 rw[h1]at k1
 rw[h1,h2]
 obtain⟨b1,o1,rfl,hb1,r1⟩:=hL.ro (by rw[flat_len LnV.v 3 LnV.len];omega)
 refine enterR Tryz.func40 rfl rfl rfl fun a hs hm=>?_
 repeat(first|(refine gpSgj0_ ?_;clear hs hm a;intros;rename_i a hm hs)|refine sc_ ?_|((with_reducible apply lCons);first|(refine dvc hs hm gw_ rfl rfl rfl rfl rfl (pl 69 rfl) (k1 _ hm.fr) ?_;clear hs hm a;intro w hm a hs))|((with_reducible apply qCons);first|(refine qwc hs gw_ rfl rfl rfl rfl rfl (pl 69 rfl) (fun w hm=>k1 _ hm.fr) ?_;clear hs a;intro a hs)))
 obtain⟨g1,rfl⟩:=hs.pp 1
 refine cLoop (X:=Nat) (fun k a w'=>Sl Tryz.f40.ntmps [(1,pt g1),(22,.slice (some ⟨b1,o1,none⟩) 4 d),(23,.int .i64 4),(24,.int .i64 (k:Int))] a∧Mm (fun _=>False) wB [] w'∧k≤4) (fun k=>4-k) 0 ⟨(sb_ hs),hm.sub (List.nil_sublist _),Nat.zero_le _⟩ ?_
 clear hs hm a
 rintro k a w' ⟨hs,hm,hk⟩
 by_cases hlt:k<4
 ·have q1:=r1.flat LnV.len (show k<ls.length by omega)
  have hv:=h4 k (by omega)
  have hr:=hll (ls[k]'(by omega)) (List.getElem_mem _)
  generalize ls[k]'(_)=y at*
  obtain⟨A2,c2,tag,dt,ys⟩:=y
  obtain⟨f1,f2,f3⟩:=hv
  unfold LnV.v at q1
  dsimp only at*
  by_cases e:tag=-1
  ·subst e
   obtain⟨rfl,rfl⟩:=f1 rfl
   refine gsac6a_ ?_;clear hs hm a;intros;rename_i a hm hs
   exact ze382_
  ·obtain⟨t1,t2,t3,t4⟩:=f2 e
   have k2:=fun w'' (hf:Pu wB w'')=>all_c A2 c2 ys w'' (hf.rd' hr) f3 (by omega)
   rw[t4]at k2 q1
   repeat(first|(refine gpSgj0_ ?_;clear hs hm a;intros;rename_i a hm hs)|refine sc_ ?_|((with_reducible apply lCons);first|(refine dvc hs hm gw_ rfl rfl rfl rfl rfl (pl 69 rfl) (k2 _ hm.fr) ?_;clear hs hm a;intro w hm a hs))|((with_reducible apply qCons);first|(refine qwc hs gw_ rfl rfl rfl rfl rfl (pl 69 rfl) (fun w hm=>k2 _ hm.fr) ?_;clear hs a;intro a hs)))
   exact ze382_
 ·refine gsac6a_ ?_;clear hs hm a;intros;rename_i a hm hs
  exact gRet1 hs rfl rfl ⟨rfl,hm.fr⟩
theorem tval_c [HB](A:Option Addr)(c:Nat)(t:ThD)(B:Int)(wB:World)(hA:Rd wB wB.heap.size A (cvs t.xs))(h:t.val B)(hB:B≤1099511627776):Ret Tryz.prog 41 [.agg (ThV.v ⟨A,c,t⟩).toArray] wB (fun u w'=>u= .bool true∧Pu wB w'):=by
 have hbl:=HB.le
 obtain⟨st,xs,pc,cnt,han,sav,trp,cod⟩:=t
 obtain⟨h1,h2,h3,h4,h5,h6,h7,h9,h8⟩:=h
 unfold ThV.v
 dsimp only at*
 obtain⟨b1,o1,rfl,hb1,r1⟩:=hA.ro (by rw[cvs_len];omega)
 rw[h2]
 refine enterR Tryz.func41 rfl rfl rfl fun a hs hm=>?_
 refine gsce98_ ?_;clear hs hm a;intros;rename_i a hm hs
 obtain⟨g1,rfl⟩:=hs.pp 1
 refine cLoop (X:=Nat) (fun k a w'=>Sl Tryz.f41.ntmps [(1,pt g1),(6,.slice (some ⟨b1,o1,none⟩) 8 c),(7,.int .i64 8),(8,.int .i64 (k:Int))] a∧Mm (fun _=>False) wB [⟨some g1,52,[.int .i64 st,.slice (some ⟨b1,o1,none⟩) 8 c,.int .i64 pc,.int .i64 cnt,.int .i64 han,.int .i64 sav,.int .i64 trp,.int .u16 cod]⟩] w'∧k≤8) (fun k=>8-k) 0 ⟨(sb_ hs),hm,Nat.zero_le _⟩ ?_
 clear hs hm a
 rintro k a w' ⟨hs,hm,hk⟩
 by_cases hlt:k<8
 ·have q1:=r1.flat CV.cs_len (show k<xs.length by omega)
  have hv:=fun w=>wval_c (xs[k]'(by omega)) w (h8 _ (List.getElem_mem _))
  generalize xs[k]'(_)=x at*
  obtain⟨t,v⟩:=x
  unfold CV.cs at q1
  dsimp only at*
  repeat(first|(refine gpSgj1_ ?_;clear hs hm a;intros;rename_i a hm hs)|refine sc_ ?_|((with_reducible apply lCons);first|(refine dvc hs hm gw_ rfl rfl rfl rfl rfl (pl 70 rfl) (hv _) ?_;clear hs hm a;intro w hm a hs)))
  exact zd36a_
 ·refine gsce98_ ?_;clear hs hm a;intros;rename_i a hm hs
  simp only[List.append_eq,List.cons_append,List.nil_append]
  refine gsce98_ ?_;clear hs hm a;intros;rename_i a hm hs
  exact gRet1 hs rfl rfl ⟨rfl,hm.fr⟩
theorem xval_c [HB](p:PV)(x:MV)(B:Int)(wB:World)(hp:p.ok wB)(hpv:p.val)(hx:x.ok wB)(h:x.d.val p.ss B)(hcap:x.bs.length≤x.bc)(hB:B≤1099511627776):Ret Tryz.prog 27 [p.v,x.v] wB (fun u w'=>u= .bool true∧Pu wB w'):=by
 have hb:=h.gap.len
 have ht:x.ts.length=4:=by have:=h.t;unfold MV.d at this;dsimp only at this;rwa[List.length_map]at this
 have hl4:x.ls.length=4:=by have:=h.l;unfold MV.d at this;dsimp only at this;rwa[List.length_map]at this
 have k1:=fun w'' (hf:Pu wB w'')=>chk_c p w'' (hp.pu hf) hpv
 have k2:=fun w'' (hf:Pu wB w'')=>lv_c x.bA x.bs.length x.bc x.bs x.key p.sA p.sc p.ss w'' h.gap.len.symm hcap (hf.rd' hx.b) (hf.rd' hp.s) hpv.sz h.gap
 have k3:=fun w'' (hf:Pu wB w'')=>mval_c x.cA x.cc x.xs x.lA x.lc x.ls w'' (hf.rd' hx.c) (hf.rd' hx.l) (fun y hy=>hf.rd' (hx.ll y hy)) h.n hl4 h.cv (fun i hi=>by
  have:=h.ll i (by unfold MV.d;dsimp only;rw[List.length_map];exact hi)
  unfold MV.d at this
  dsimp only at this
  rwa[List.getElem_map]at this)
 have hbl:x.bs.length=p.ss.length:=hb
 rw[hbl]at k2
 unfold MV.v
 rw[hbl,ht]
 unfold PV.v at*
 obtain⟨b1,o1,hA1,hb1,r1⟩:=hx.t.ro (by rw[flat_len ThV.v 8 ThV.len];omega)
 rw[hA1]
 refine enterR Tryz.func27 rfl rfl rfl fun a hs hm=>?_
 repeat(first|(refine gpSgj2_ ?_;clear hs hm a;intros;rename_i a hm hs)|refine sc_ ?_|((with_reducible apply lCons);first|(refine dvc hs hm gw_ rfl rfl rfl rfl rfl (pl 38 rfl) (k1 _ hm.fr) ?_;clear hs hm a;intro w hm a hs)|(refine dvc hs hm gw_ rfl rfl rfl rfl rfl (pl 39 rfl) (k2 _ hm.fr) ?_;clear hs hm a;intro w hm a hs)|(refine dvc hs hm gw_ rfl rfl rfl rfl rfl (pl 40 rfl) (k3 _ hm.fr) ?_;clear hs hm a;intro w hm a hs))|((with_reducible apply qCons);first|(refine qwc hs gw_ rfl rfl rfl rfl rfl (pl 38 rfl) (fun w hm=>k1 _ hm.fr) ?_;clear hs a;intro a hs)|(refine qwc hs gw_ rfl rfl rfl rfl rfl (pl 39 rfl) (fun w hm=>k2 _ hm.fr) ?_;clear hs a;intro a hs)|(refine qwc hs gw_ rfl rfl rfl rfl rfl (pl 40 rfl) (fun w hm=>k3 _ hm.fr) ?_;clear hs a;intro a hs)))
 refine cLoop (X:=Nat) (fun k a w'=>Sl Tryz.f27.ntmps [(31,.slice (some ⟨b1,o1,none⟩) 4 x.tc),(32,.int .i64 4),(33,.int .i64 (k:Int))] a∧Mm (fun _=>False) wB [] w'∧k≤4) (fun k=>4-k) 0 ⟨(sb_ hs),hm.sub (List.nil_sublist _),Nat.zero_le _⟩ ?_
 clear hs hm a
 rintro k a w' ⟨hs,hm,hk⟩
 by_cases hlt:k<4
 ·have q1:=r1.flat ThV.len (show k<x.ts.length by omega)
  have hv:((x.ts[k]'(by omega)).d).val B:=h.tt _ (List.mem_map.2 ⟨_,List.getElem_mem _,rfl⟩)
  have hr:=hx.tt (x.ts[k]'(by omega)) (List.getElem_mem _)
  generalize x.ts[k]'(_)=y at*
  have k4:=fun w'' (hf:Pu wB w'')=>tval_c y.A y.c y.d B w'' (hf.rd' hr) hv hB
  obtain⟨A2,c2,st,ys,pc,cnt,han,sav,trp,cod⟩:=y
  unfold ThV.v at q1 k4
  dsimp only at*
  repeat(first|(refine gpSgj1_ ?_;clear hs hm a;intros;rename_i a hm hs)|refine sc_ ?_|((with_reducible apply lCons);first|(refine dvc hs hm gw_ rfl rfl rfl rfl rfl (pl 41 rfl) (k4 _ hm.fr) ?_;clear hs hm a;intro w hm a hs)))
  exact ze382_
 ·refine gsce98_ ?_;clear hs hm a;intros;rename_i a hm hs
  exact gRet1 hs rfl rfl ⟨rfl,hm.fr⟩
structure MqX where
 rs:List LnO
 lA:Option Nat
 lc:Nat
 lcs:List Value
theorem ln_perm{S:Nat→Prop}{w0 w:World}{L:List Hp}{rs:List LnO}{r:LnO}(hm:Mm S w0 (r.hp::(L++rs.map LnO.hp)) w):Mm S w0 (L++(rs++[r]).map LnO.hp) w:=by
 refine hm.perm ?_
 rw[List.map_append,←List.append_assoc]
 exact List.perm_append_comm (l₁:=L++rs.map LnO.hp) (l₂:=[r.hp])
theorem ln_snoc(rs:List LnO)(r:LnO):rs.flatMap LnO.v++r.v=(rs++[r]).flatMap LnO.v:=by rw[List.flatMap_append,List.flatMap_singleton]
theorem ln_take{rs:List LnO}{ls:List LnV}{r:LnO}(h:rs.map LnO.d=(ls.take rs.length).map LnV.d)(hl:rs.length<ls.length)(hr:r.d=(ls[rs.length]).d):(rs++[r]).map LnO.d=(ls.take (rs++[r]).length).map LnV.d:=by
 rw[List.map_append,h,List.length_append,List.length_singleton,List.take_succ_eq_append_getElem hl,List.map_append]
 simp[hr]
theorem mcp_c(x:MV)(wB:World)(hx:x.ok wB)(hsm:x.d.sm):Ret Tryz.prog 29 [x.me] wB (fun u w'=>∃y:MeO,u=y.v∧y.ok∧y.d=(x.xs,x.ls.map LnV.d)∧New wB w' y.hps∧Pu wB w'):=by
 have hc1:x.xs.length≤1000:=hsm.c
 have hl1:x.ls.length≤1000:=by have:=hsm.l;unfold MV.d at this;dsimp only at this;rwa[List.length_map]at this
 unfold MV.me
 refine enterR Tryz.func29 rfl rfl rfl fun a hs hm=>?_
 refine gsc5af_ ?_;clear hs hm a;intros;rename_i a hm hs
 obtain⟨g1,rfl⟩:=hs.pp 1
 obtain⟨g2,rfl⟩:=hs.pp 2
 refine dv hs (Wnt.none rfl) rfl rfl (d_appendS (A:=none) (n:=0) (c:=0) (xs:=[]) (news:=cvs x.xs) hs rfl rfl rfl rfl tab rfl rfl rfl rfl rfl (hm.zero 103) mem_ (Row.empty 2) (cvs_len _) (hm.fr.rd' hx.c) (cvs_one _) (by show(0+x.xs.length)*4≤_;omega) (by omega)) ?_
 clear hs
 rintro _ w2 ⟨cA,cc,ccs,rfl,hcr,hM⟩ a hs
 replace hm:=hM _ rep_
 clear hM
 rw[Nat.zero_add,List.nil_append]at hcr
 rw[Nat.zero_add]at hs
 refine gsc5af_ ?_;clear hs hm a;intros;rename_i a hm hs
 obtain⟨g3,rfl⟩:=hs.pp 3
 replace hm:=(hm.zero 61).sel (M':=[⟨some g3,29,[slv cA x.xs.length cc,nS]⟩,⟨cA,103,ccs⟩,⟨none,61,[]⟩,⟨some g2,29,[nS,nS]⟩]) [1,2,0,3] (by decide) rfl
 refine cLoop (X:=MqX) (fun X a w'=>X.rs.length≤x.ls.length∧Sl Tryz.f29.ntmps [(2,pt g2),(3,pt g3),(11,.slice x.lA x.ls.length x.lc),(12,.int .i64 (x.ls.length:Int)),(13,.int .i64 (X.rs.length:Int))] a∧Mm (fun _=>False) wB ([⟨some g3,29,[slv cA x.xs.length cc,slv X.lA X.rs.length X.lc]⟩,⟨cA,103,ccs⟩,⟨X.lA,61,X.lcs⟩,⟨some g2,29,[nS,nS]⟩]++X.rs.map LnO.hp) w'∧Row X.lA X.rs.length X.lc 3 (X.rs.flatMap LnO.v) X.lcs∧X.rs.map LnO.d=(x.ls.take X.rs.length).map LnV.d∧∀r∈X.rs,r.ok) (fun X=>x.ls.length-X.rs.length) ⟨[],none,0,[]⟩ ⟨Nat.zero_le _,(sb_ hs),hm,Row.empty 3,rfl,fun r hr=>by cases hr⟩ ?_
 clear hs hm a
 rintro⟨rs,lA,lc,lcs⟩ a w' ⟨hlen,hs,hm,hlr,hab,hok⟩
 dsimp only at hlen hs hm hlr hab hok
 by_cases hlt:rs.length<x.ls.length
 ·obtain⟨b1,o1,hA,hb1,r1⟩:=hx.l.ro (by rw[flat_len LnV.v 3 LnV.len];omega)
  obtain⟨q,hq⟩:∃q,x.ls[rs.length]=q:=⟨_,rfl⟩
  have hqm:q∈x.ls:=by rw[←hq];exact List.getElem_mem hlt
  have r2:=r1.flat LnV.len hlt
  rw[hq]at r2
  unfold LnV.v at r2
  have hqr:=hx.ll q hqm
  have hqn:q.d.xs.length≤1000:=hsm.ll q.d (List.mem_map.2 ⟨q,hqm,rfl⟩)
  rw[hA]at hs
  refine gsc5af_ ?_;clear hs hm a;intros;rename_i a hm hs
  obtain⟨g5,rfl⟩:=hs.pp 5
  refine dv hs (Wnt.none rfl) rfl rfl (d_appendS (A:=none) (n:=0) (c:=0) (xs:=[]) (news:=cvs q.d.xs) hs rfl rfl rfl rfl tab rfl rfl rfl rfl rfl (hm.zero 103) mem_ (Row.empty 2) (cvs_len _) (hm.fr.rd' hqr) (cvs_one _) (by show(0+q.d.xs.length)*4≤_;omega) (by omega)) ?_
  clear hs
  rintro _ w3 ⟨rA,rc,rcs,rfl,hrr,hM⟩ a hs
  replace hm:=hM _ rep_
  clear hM
  rw[Nat.zero_add,List.nil_append]at hrr
  rw[Nat.zero_add]at hs
  obtain⟨r,hr⟩:∃r:LnO,r=⟨rA,rc,rcs,q.d⟩:=⟨_,rfl⟩
  have hrv:r.v=[.int .i64 q.d.tag,.bool q.d.d,slv rA q.d.xs.length rc]:=by rw[hr];rfl
  have hro:r.ok:=by rw[hr];exact hrr
  have hrd:r.d=q.d:=by rw[hr]
  have hrh:r.hp=⟨rA,103,rcs⟩:=by rw[hr];rfl
  refine gsc5af_ ?_;clear hs hm a;intros;rename_i a hm hs
  refine dv hs (Wnt.none rfl) rfl rfl (d_append (A:=lA) (n:=rs.length) (c:=lc) (news:=[.int .i64 q.d.tag,.bool q.d.d,slv rA q.d.xs.length rc]) hs rfl rfl rfl rfl rfl tab rfl rfl rfl rfl rfl hm mem_ hlr rfl (hm.ro (n:=3) mem_ (cutF_ok rfl)) rfl (by show(rs.length+1)*40≤_;omega) (by omega)) ?_
  clear hs
  rintro _ w4 ⟨lA2,lc2,lcs2,rfl,hlr2,hM⟩ a hs
  replace hm:=hM _ rep_
  clear hM
  rw[←hrv,ln_snoc]at hlr2
  refine gsc5af_ ?_;clear hs hm a;intros;rename_i a hm hs
  rw[←hrh]at hm
  rw[←hA]at hs
  replace hm:=hm.sub (List.Sublist.cons _ (List.Sublist.cons_cons _ (List.Sublist.cons _ (List.Sublist.refl _))))
  refine⟨⟨rs++[r],lA2,lc2,lcs2⟩,by dsimp only;rw[List.length_append,List.length_singleton];omega,by dsimp only;rw[List.length_append,List.length_singleton];omega,?_,?_,?_,ln_take hab hlt (by rw[hrd,hq]),?_⟩
  ·dsimp only
   rw[List.length_append,List.length_singleton]
   exact(sb_ hs)
  ·dsimp only
   rw[List.length_append,List.length_singleton]
   exact ln_perm hm
  ·dsimp only
   rw[List.length_append,List.length_singleton]
   exact hlr2
  ·intro z hz
   rcases List.mem_append.1 hz with hz|hz
   ·exact hok z hz
   ·rcases List.mem_singleton.1 hz with rfl;exact hro
 ·have hln:rs.length=x.ls.length:=by omega
  refine gsc5af_ ?_;clear hs hm a;intros;rename_i a hm hs
  rw[hln,List.take_length]at hab
  refine gRetN tab hs rfl (.cons (.cells rfl rfl rfl rfl (hm.ro (k:=0) (n:=2) (g:=g2) mem_ (cutF_ok rfl))) .nil) ⟨⟨cA,cc,ccs,x.xs,lA,lc,lcs,rs⟩,rfl,⟨hcr,hlr,hok⟩,by unfold MeO.d;dsimp only;rw[hab],hm.new ?_,hm.fr⟩
  unfold MeO.hps
  dsimp only
  exact zbd11_
structure RW where
 A:Option Nat
 c:Nat
 cs:List Value
 xs:List Int
def RW.hp(r:RW):Hp:=⟨r.A,3,r.cs⟩
def RW.v(r:RW):Value:=slv r.A r.xs.length r.c
def RW.ok(r:RW):Prop:=Row r.A r.xs.length r.c 1 (ints r.xs) r.cs
def RW.is(r:RW):IS:=⟨r.A.map fun g=>⟨g,0,none⟩,r.xs.length,r.c,r.xs⟩
theorem RW.is_v(r:RW):r.is.v=r.v:=rfl
structure KS where
 o:IS
 qA:Option Addr
 qc:Nat
 qs:List IS
def KS.v(x:KS):Value:= .agg #[x.o.v,.slice x.qA x.qs.length x.qc]
structure KS.sm(x:KS):Prop where
 o:x.o.n≤1000
 q:x.qs.length≤1000
 qs:∀q∈x.qs,q.n≤1000
def IS.blk(b:IS)(g:Nat):Prop:=b.xs≠ []∧∃o,b.A=some ⟨g,o,none⟩
def KS.blk(x:KS)(g:Nat):Prop:=x.o.blk g∨(x.qs≠ []∧∃o,x.qA=some ⟨g,o,none⟩)∨∃q∈x.qs,q.blk g
structure KS.ok(x:KS)(w:World):Prop where
 o:x.o.ok w
 q:Rd w w.heap.size x.qA (x.qs.map IS.v)
 qs:∀q∈x.qs,q.ok w
theorem rdV{S:Nat→Prop}{w w':World}{A:Option Addr}{vs:List Value}(hf:Fr S w w')(h:Rd w w.heap.size A vs)(hn:vs≠ []→∀g o,A=some ⟨g,o,none⟩→¬S g):Rd w' w'.heap.size A vs:=fun h0=>rdD hf h (hn (by rintro rfl;exact absurd h0 (by simp))) h0
theorem IS.ok.keep{S:Nat→Prop}{b:IS}{w w':World}(h:b.ok w)(hf:Fr S w w')(hn:∀g,b.blk g→¬S g):b.ok w':=
 ⟨h.1,rdN hf h.2 fun h0 g o e=>hn g ⟨h0,o,e⟩⟩
theorem KS.ok.keep{S:Nat→Prop}{x:KS}{w w':World}(h:x.ok w)(hf:Fr S w w')(hn:∀g,x.blk g→¬S g):x.ok w':=
 ⟨h.o.keep hf fun g hg=>hn g (.inl hg),rdV hf h.q fun h0 g o e=>hn g (.inr (.inl ⟨by intro e;apply h0;rw[e];rfl,o,e⟩)),fun q hq=>(h.qs q hq).keep hf fun g hg=>hn g (.inr (.inr ⟨q,hq,hg⟩))⟩
theorem KS.ok.pu{x:KS}{w w':World}(h:x.ok w)(hf:Pu w w'):x.ok w':=h.keep hf fun _ _ t=>t
theorem IS.blk.lt{b:IS}{g:Nat}{w:World}(h:b.ok w)(hg:b.blk g):g<w.heap.size:=by
 obtain⟨h0,o,e⟩:=hg
 obtain⟨b',o',e',hb,_⟩:=h.2.ro (by rw[ints_len];exact List.length_pos_iff.2 h0)
 rw[e]at e';cases e';exact hb
theorem KS.ok.lt{x:KS}{g:Nat}{w:World}(h:x.ok w)(hg:x.blk g):g<w.heap.size:=by
 rcases hg with hg|⟨h0,o,e⟩|⟨q,hq,hg⟩
 ·exact hg.lt h.o
 ·obtain⟨b',o',e',hb,_⟩:=h.q.ro (by rw[List.length_map];exact List.length_pos_iff.2 h0)
  rw[e]at e';cases e';exact hb
 ·exact hg.lt (h.qs q hq)
def KS.no(x:KS)(M:List Hp):Prop:=∀g,x.blk g→¬own M g
def KS.new(x:KS)(n:Nat):Prop:=∀g,x.blk g→n≤g
theorem KS.ok.own{x:KS}{w w':World}{M M':List Hp}(h:x.ok w)(hn:x.no M)(hm:Mm (own M) w M' w'):x.ok w':=h.keep hm.fr hn
theorem KS.no.grow{x:KS}{w w':World}{M M':List Hp}(hn:x.no M)(h:x.ok w)(hm:Mm (own M) w M' w'):x.no M':=fun g hg ⟨z,hz,e⟩=>by
 rcases hm.ow z hz g e with h1|h1
 ·have:=h.lt hg;omega
 ·exact hn g hg h1
theorem KS.new.no{S:Nat→Prop}{x:KS}{w0 w:World}{M:List Hp}(h:x.new w.heap.size)(hm:Mm S w0 M w):x.no M:=fun g hg ho=>by
 obtain⟨z,hz,e⟩:=ho
 have:=Hp.lt (hm.me z hz) e
 have:=h g hg
 omega
structure Ab where
 os:List Int
 qs:List (List Int)
def KS.ab(x:KS):Ab:=⟨x.o.xs,x.qs.map IS.xs⟩
structure KO where
 o:RW
 qA:Option Nat
 qc:Nat
 qcs:List Value
 rs:List RW
def KO.v(y:KO):Value:= .agg #[y.o.v,slv y.qA y.rs.length y.qc]
def KO.hps(y:KO):List Hp:=⟨y.qA,22,y.qcs⟩::y.o.hp::y.rs.map RW.hp
structure KO.ok(y:KO):Prop where
 o:y.o.ok
 q:Row y.qA y.rs.length y.qc 1 (y.rs.map RW.v) y.qcs
 rs:∀r∈y.rs,r.ok
def KO.ab(y:KO):Ab:=⟨y.o.xs,y.rs.map RW.xs⟩
theorem RW.ok_is{S:Nat→Prop}{w0 w:World}{M:List Hp}{r:RW}(hm:Mm S w0 M w)(hM:r.hp∈M)(h:r.ok):r.is.ok w:=⟨rfl,hm.rd_row hM h⟩
theorem cln_c(A:Option Addr)(n c:Nat)(vs:List Value)(w:World)(hl:vs.length=n)(hr:Rd w w.heap.size A vs)(h1:vs.all (·.oneCell')=true)(hn:n≤1000000):
  Ret Tryz.prog 64 [.slice A n c] w (fun u w'=>∃(A':Option Nat)(c':Nat)(cs':List Value),u=slv A' n c'∧Row A' n c' 1 vs cs'∧New w w' [⟨A',3,cs'⟩]∧Pu w w'):=by
 cases hA:A with
 |none=>
  subst hA
  have hv:=hr.none_nil
  subst hv
  obtain rfl:n=0:=hl.symm
  refine enterR Tryz.func64 rfl rfl rfl fun a hs hm=>?_
  refine gsce98_ ?_;clear hs hm a;intros;rename_i a hm hs
  exact gRet1 hs rfl rfl ⟨none,0,[],rfl,Row.empty 1,New.none_ _ _ _,hm.fr⟩
 |some p=>
  subst hA
  refine enterR Tryz.func64 rfl rfl rfl fun a hs hm=>?_
  refine gsce98_ ?_;clear hs hm a;intros;rename_i a hm hs
  obtain⟨g5,rfl⟩:=hs.qq 5
  refine dv hs (Wnt.none rfl) rfl rfl (d_appendS (A:=some g5) (n:=0) (c:=0) (xs:=[]) (news:=vs) hs rfl rfl rfl rfl tab rfl rfl rfl rfl rfl hm mem_ (Row.room0 g5 1) (by rw[hl];exact(Nat.mul_one n).symm) (hm.fr.rd' hr) h1 (by show(0+n)*8≤_;omega) (by omega)) ?_
  clear hs
  rintro _ w2 ⟨A',c',cs',rfl,hr2,hM⟩ a hs
  replace hm:=hM _ rep_
  clear hM
  rw[Nat.zero_add,List.nil_append]at hr2
  rw[Nat.zero_add]at hs
  refine gsce98_ ?_;clear hs hm a;intros;rename_i a hm hs
  exact gRet1 hs rfl rfl ⟨A',c',cs',rfl,hr2,hm.new (List.Sublist.refl _),hm.fr⟩
theorem ints_one(xs:List Int):(ints xs).all (·.oneCell')=true:=by
 rw[List.all_eq_true]
 intro v hv
 obtain⟨q,_,rfl⟩:=List.mem_map.1 hv
 rfl
theorem take_snoc_xs{rs:List RW}{qs:List IS}{r:RW}(h:rs.map RW.xs=(qs.take rs.length).map IS.xs)(hl:rs.length<qs.length)(hr:r.xs=(qs[rs.length]).xs):(rs++[r]).map RW.xs=(qs.take (rs++[r]).length).map IS.xs:=by
 rw[List.map_append,h,List.length_append,List.length_singleton,List.take_succ_eq_append_getElem hl,List.map_append]
 simp[hr]
theorem cp_perm{S:Nat→Prop}{w0 w:World}{L:List Hp}{rs:List RW}{r:RW}(hm:Mm S w0 (r.hp::(L++rs.map RW.hp)) w):Mm S w0 (L++(rs++[r]).map RW.hp) w:=by
 refine hm.perm ?_
 rw[List.map_append,←List.append_assoc]
 exact List.perm_append_comm (l₁:=L++rs.map RW.hp) (l₂:=[r.hp])
structure MtX where
 rs:List ThO
 tA:Option Nat
 tc:Nat
 tcs:List Value
theorem th_perm{S:Nat→Prop}{w0 w:World}{L:List Hp}{rs:List ThO}{r:ThO}(hm:Mm S w0 (r.hp::(L++rs.map ThO.hp)) w):Mm S w0 (L++(rs++[r]).map ThO.hp) w:=by
 refine hm.perm ?_
 rw[List.map_append,←List.append_assoc]
 exact List.perm_append_comm (l₁:=L++rs.map ThO.hp) (l₂:=[r.hp])
theorem th_snoc(rs:List ThO)(r:ThO):rs.flatMap ThO.v++r.v=(rs++[r]).flatMap ThO.v:=by rw[List.flatMap_append,List.flatMap_singleton]
theorem th_take{rs:List ThO}{ls:List ThV}{r:ThO}(h:rs.map ThO.d=(ls.take rs.length).map ThV.d)(hl:rs.length<ls.length)(hr:r.d=(ls[rs.length]).d):(rs++[r]).map ThO.d=(ls.take (rs++[r]).length).map ThV.d:=by
 rw[List.map_append,h,List.length_append,List.length_singleton,List.take_succ_eq_append_getElem hl,List.map_append]
 simp[hr]
theorem gainE{S:Nat→Prop}{w0 w w':World}{M R:List Hp}(hm:Mm S w0 M w)(hf:Pu w w')(hN:New w w' R):Mm S w0 (M++R) w':=(hm.gain hf hN).perm List.perm_append_comm
theorem rcp_c(x:MV)(wB:World)(hx:x.ok wB)(hsm:x.d.sm):Ret Tryz.prog 19 [x.v] wB (fun u w'=>∃y:MO,u=y.v∧y.ok∧y.d=x.d∧New wB w' y.hps∧Pu wB w'):=by
 have hb1:x.bs.length≤1000:=hsm.b
 have ht1:x.ts.length≤1000:=by have:=hsm.t;unfold MV.d at this;dsimp only at this;rwa[List.length_map]at this
 unfold MV.v
 refine enterR Tryz.func19 rfl rfl rfl fun a hs hm=>?_
 refine gsc5af_ ?_;clear hs hm a;intros;rename_i a hm hs
 obtain⟨g1,rfl⟩:=hs.pp 1
 obtain⟨g2,rfl⟩:=hs.pp 2
 replace hm:=hm.zero 3
 refine cMid (fun a w=>∃(g3:Nat)(bA:Option Nat)(bc:Nat)(bcs:List Value)(y:MeO),Row bA x.bs.length bc 1 (ints x.bs) bcs∧y.ok∧y.d=(x.xs,x.ls.map LnV.d)∧Sl Tryz.f19.ntmps [(1,pt g1),(2,pt g2),(3,pt g3)] a∧Mm (fun _=>False) wB ([⟨some g3,32,[slv bA x.bs.length bc,.int .u16 x.key,slv y.cA y.xs.length y.cc,slv y.lA y.ls.length y.lc,nS]⟩,⟨bA,3,bcs⟩,⟨some g2,32,[nS,.int .u16 0,nS,nS,nS]⟩,⟨some g1,32,(x.cl [.slice x.tA x.ts.length x.tc])⟩]++y.hps) w) ?_ ?_
 ·skip
  refine cDrawT (n:=14) (.s [0,1,2,4,5,6,8,9]<| .e [(3,.x<| .t 7<| .e [(10,.x<| .t 11<| .o 12<| .o 13<| .d),(12,.o 10<| .x<| .t 11<| .o 13<| .d)]),(12,.o 3<| .x<| .t 7<| .o 10<| .x<| .t 11<| .o 13<| .d)]) [⟨some g1,32,(x.cl [.slice x.tA x.ts.length x.tc])⟩] hm rfl rfl ?_
  clear hm;intro t_ w1_ hm
  repeat' (first|(refine dg149e_ ?_;clear t_ hs hm a;intros;rename_i a hm hs t_)|refine tE t_ ?_|refine tC ?_ ?_|exact tN|intro t_|(refine oDo (i:=3) hs rfl (Wnt.none rfl) rfl rfl (by exact d_appendS (A:=none) (n:=0) (c:=0) (xs:=[]) (news:=ints x.bs) hs rfl rfl rfl rfl tab rfl rfl rfl rfl rfl hm mem_ (Row.empty 1) (by rw[ints_len];exact(Nat.mul_one _).symm) (hm.fr.rd' hx.b) (ints_one _) (by show(0+x.bs.length)*8≤_;omega) (by omega)) ?_;clear hs;rintro _ w1 ⟨bA,bc,bcs,rfl,hbr,hM⟩ a hs;(replace hm:=hM _ rep_);(clear hM);(rw[Nat.zero_add,List.nil_append]at hbr);(rw[Nat.zero_add]at hs);replace t_:=tX t_;refine⟨(hm.sub sub_),?_⟩)|(refine oDo (i:=10) hs rfl (Wnt.none rfl) rfl rfl (by exact d_call hs rfl rfl rfl (pl 29 rfl) ((mcp_c x _ (hx.pu hm.fr) hsm))) ?_;clear hs;rintro _ w1 ⟨y,rfl,hyo,hyd,hN,hf⟩ a hs;(replace hm:=gainE hm hf hN);(clear hN hf);(unfold MeO.v at hs);replace t_:=tX t_;refine⟨(hm.sub sub_),?_⟩)|(refine tD t_ ?_;(obtain⟨g3,rfl⟩:=hs.pp 3);(exact And.intro rfl ⟨g3,bA,bc,bcs,y,hbr,hyo,hyd,(sb_ hs),hm⟩))|fail)
 clear hs hm a
 rintro a w ⟨g3,bA,bc,bcs,y,hbr,hyo,hyd,hs,hm⟩
 refine gsc5af_ ?_;clear hs hm a;intros;rename_i a hm hs
 replace hm:=((hm.zero 52).perm (List.Perm.swap _ _ _)).sub (List.Sublist.cons_cons _ (List.Sublist.cons_cons _ (List.Sublist.cons_cons _ (List.Sublist.cons_cons _ (List.Sublist.cons _ (List.Sublist.refl _))))))
 refine cLoop (X:=MtX) (fun X a w'=>X.rs.length≤x.ts.length∧Sl Tryz.f19.ntmps [(2,pt g2),(3,pt g3),(19,.slice x.tA x.ts.length x.tc),(20,.int .i64 (x.ts.length:Int)),(21,.int .i64 (X.rs.length:Int))] a∧Mm (fun _=>False) wB (([⟨some g3,32,[slv bA x.bs.length bc,.int .u16 x.key,slv y.cA y.xs.length y.cc,slv y.lA y.ls.length y.lc,slv X.tA X.rs.length X.tc]⟩,⟨X.tA,52,X.tcs⟩,⟨bA,3,bcs⟩,⟨some g2,32,[nS,.int .u16 0,nS,nS,nS]⟩]++y.hps)++X.rs.map ThO.hp) w'∧Row X.tA X.rs.length X.tc 8 (X.rs.flatMap ThO.v) X.tcs∧X.rs.map ThO.d=(x.ts.take X.rs.length).map ThV.d∧∀r∈X.rs,r.ok) (fun X=>x.ts.length-X.rs.length) ⟨[],none,0,[]⟩ ⟨Nat.zero_le _,(sb_ hs),by rw[List.map_nil,List.append_nil];exact hm,Row.empty 8,rfl,fun r hr=>by cases hr⟩ ?_
 clear hs hm a
 rintro⟨rs,tA,tc,tcs⟩ a w' ⟨hlen,hs,hm,hlr,hab,hok⟩
 dsimp only at hlen hs hm hlr hab hok
 by_cases hlt:rs.length<x.ts.length
 ·obtain⟨b1,o1,hA,hb1,r1⟩:=hx.t.ro (by rw[flat_len ThV.v 8 ThV.len];omega)
  obtain⟨q,hq⟩:∃q,x.ts[rs.length]=q:=⟨_,rfl⟩
  have hqm:q∈x.ts:=by rw[←hq];exact List.getElem_mem hlt
  have r2:=r1.flat ThV.len hlt
  rw[hq]at r2
  unfold ThV.v at r2
  have hqr:=hx.tt q hqm
  have hqn:q.d.xs.length≤1000:=hsm.tt q.d (List.mem_map.2 ⟨q,hqm,rfl⟩)
  rw[hA]at hs
  refine gsc5af_ ?_;clear hs hm a;intros;rename_i a hm hs
  obtain⟨g5,rfl⟩:=hs.pp 5
  refine dv hs (Wnt.none rfl) rfl rfl (d_appendS (A:=none) (n:=0) (c:=0) (xs:=[]) (news:=cvs q.d.xs) hs rfl rfl rfl rfl tab rfl rfl rfl rfl rfl (hm.zero 103) mem_ (Row.empty 2) (cvs_len _) (hm.fr.rd' hqr) (cvs_one _) (by show(0+q.d.xs.length)*4≤_;omega) (by omega)) ?_
  clear hs
  rintro _ w3 ⟨rA,rc,rcs,rfl,hrr,hM⟩ a hs
  replace hm:=hM _ rep_
  clear hM
  rw[Nat.zero_add,List.nil_append]at hrr
  rw[Nat.zero_add]at hs
  obtain⟨r,hr⟩:∃r:ThO,r=⟨rA,rc,rcs,q.d⟩:=⟨_,rfl⟩
  have hrv:r.v=[.int .i64 q.d.st,slv rA q.d.xs.length rc,.int .i64 q.d.pc,.int .i64 q.d.cnt,.int .i64 q.d.han,.int .i64 q.d.sav,.int .i64 q.d.trp,.int .u16 q.d.cod]:=by rw[hr];rfl
  have hro:r.ok:=by rw[hr];exact hrr
  have hrd:r.d=q.d:=by rw[hr]
  have hrh:r.hp=⟨rA,103,rcs⟩:=by rw[hr];rfl
  refine gsc5af_ ?_;clear hs hm a;intros;rename_i a hm hs
  refine dv hs (Wnt.none rfl) rfl rfl (d_append (A:=tA) (n:=rs.length) (c:=tc) (news:=[.int .i64 q.d.st,slv rA q.d.xs.length rc,.int .i64 q.d.pc,.int .i64 q.d.cnt,.int .i64 q.d.han,.int .i64 q.d.sav,.int .i64 q.d.trp,.int .u16 q.d.cod]) hs rfl rfl rfl rfl rfl tab rfl rfl rfl rfl rfl hm mem_ hlr rfl (hm.ro (n:=8) mem_ (cutF_ok rfl)) rfl (by show(rs.length+1)*80≤_;omega) (by omega)) ?_
  clear hs
  rintro _ w4 ⟨tA2,tc2,tcs2,rfl,hlr2,hM⟩ a hs
  replace hm:=hM _ rep_
  clear hM
  rw[←hrv,th_snoc]at hlr2
  refine gsc5af_ ?_;clear hs hm a;intros;rename_i a hm hs
  rw[←hrh]at hm
  rw[←hA]at hs
  replace hm:=hm.sub (List.Sublist.cons _ (List.Sublist.cons_cons _ (List.Sublist.cons _ (List.Sublist.refl _))))
  refine⟨⟨rs++[r],tA2,tc2,tcs2⟩,by dsimp only;rw[List.length_append,List.length_singleton];omega,by dsimp only;rw[List.length_append,List.length_singleton];omega,?_,?_,?_,th_take hab hlt (by rw[hrd,hq]),?_⟩
  ·dsimp only
   rw[List.length_append,List.length_singleton]
   exact(sb_ hs)
  ·dsimp only
   rw[List.length_append,List.length_singleton]
   exact th_perm hm
  ·dsimp only
   rw[List.length_append,List.length_singleton]
   exact hlr2
  ·intro z hz
   rcases List.mem_append.1 hz with hz|hz
   ·exact hok z hz
   ·rcases List.mem_singleton.1 hz with rfl;exact hro
 ·have hln:rs.length=x.ts.length:=by omega
  refine gsc5af_ ?_;clear hs hm a;intros;rename_i a hm hs
  rw[hln,List.take_length]at hab
  refine gRetN tab hs rfl (.cons (.cells rfl rfl rfl rfl (hm.ro (k:=0) (n:=5) (g:=g2) mem_ (cutF_ok rfl))) .nil) ⟨⟨bA,bc,bcs,x.bs,x.key,y,tA,tc,tcs,rs⟩,rfl,⟨hbr,hyo,hlr,hok⟩,?_,hm.new ?_,hm.fr⟩
  ·unfold MO.d MV.d
   dsimp only
   rw[hab]
   have h1:=congrArg Prod.fst hyd
   have h2:=congrArg Prod.snd hyd
   unfold MeO.d at h1 h2
   dsimp only at h1 h2
   rw[h1,h2]
  ·unfold MO.hps
   dsimp only
   exact zbd11_
theorem run_copyN{P:Program}(w:World)(dT sT ty elem:TypeId)(g o dLen dCap:Nat)(a:Addr)(sLen sCap n s:Nat)(cur:Array Value)(t:TypeId)(cs:List Value)
  (hu:P.underlying dT=some (.slice elem)) (hs:(P.info? elem).map (·.size)=some s)
  (hg:w.heap[g]?=some (.cells cur t (0,0))) (hn:Nat.min sLen dLen=n) (hl:cs.length=n*s)
  (hsrc:∀j v,cs[j]?=some v→w.cell? (a.add j)=some v) (hfit:o+cs.length≤cur.size) (h1:∀v∈cs,v.oneCell'=true):
  (Builtin.copy_ #[dT,sT] ty #[.slice (some ⟨g,o,none⟩) dLen dCap,.slice (some a) sLen sCap]).run P w=
   .ok (goInt n) (w.setRow g (cur.toList.take o++cs++cur.toList.drop (o+cs.length)).toArray):=by
 have hl1:=run_loadCells_list (P:=P) w a cs hsrc
 have hst:=run_storeCells_at P g o t cs 0 cur w hg (by simpa using hfit) h1
 rw[hl]at hl1
 cases hq:P.info? elem with
 |none=>simp[hq]at hs
 |some i=>
  have hi:i.size=s:=by simpa[hq]using hs
  simp[Builtin.copy_,run_underlying hu,Builtin.lenOf,Builtin.firstCells,sizeOf,typeInfo,hq,hi,hn,hl1,hst]
section
variable {P:Program} {T:List (Nat × TI)} {N:Nat} {L:List (Nat × Value)} {a:Act} {w w0:World} {S:Nat→Prop} {M M':List Hp} {o:Oper} {x y:Operand}
theorem d_copyN{t e ty:TypeId}{i j:TI}{g off dl dc b q m sc n:Nat}{cur cs:List Value}{ts:Array TypeId}(hs:Sl N L a)(ho:o.op= .call {callee:= .builtin .copy,args:=#[x,y],argTypes:=ts})(hx:ev L x=some (.slice (some ⟨g,off,none⟩) dl dc))(hy:ev L y=some (.slice (some ⟨b,q,none⟩) m sc))(hts:ts=#[t,t])(hT:TabOk P T)(hc:tlk T t=some i)(hd:i.d= .sl e)(he:tlk T e=some j)
  (hm:Mm S w0 M w) (hR:Rep M ⟨some g,ty,cur⟩ ⟨some g,ty,cur.take off++cs++cur.drop (off+cs.length)⟩ M') (hn:Nat.min m dl=n) (hl:cs.length=n*j.sz) (hsrc:Ro w b q cs) (hfit:off+cs.length≤cur.length) (h1:cs.all (·.oneCell')=true):
  Does P a o w (fun _ w'=>Mm S w0 M' w'):=by
 replace hx:=hs.ev hx;replace hy:=hs.ev hy
 subst hts
 obtain⟨i0,q1,q2,q3,q4⟩:=(hT _ _ he).info
 have hrun:=run_copyN (P:=P) w t t o.type e g off dl dc ⟨b,q,none⟩ m sc n j.sz cur.toArray ty cs ((hT _ _ hc).sl hd) (by rw[q1];simp[q3]) (hm.me _ hR.mem) hn hl
  (fun k u hu=>by rw[add_lit];exact hsrc k u hu) (by simpa using hfit) (fun u hu=>List.all_eq_true.1 h1 u hu)
 unfold Does execOp resolve invoke builtin
 simp only[ho,Sem.run_bind,Sem.run_pure,Result.andThen_ok,List.map_toArray,List.map_cons,List.map_nil,hx,hy,hrun]
 exact hm.store hR
end
theorem Apart.right{A B:List Hp}(h:Apart (A++B)):Apart B:=h.sub (List.sublist_append_right _ _)
theorem Apart.cross2:∀{A B:List Hp},Apart (A++B)→∀x∈A,∀y∈B,∀g,x.g=some g→y.g=some g→False
 |a::t,B,h,x,hx,y,hy,g,e1,e2=>by
  rcases List.mem_cons.1 hx with rfl|hx
  ·exact h.1 y (List.mem_append_right _ hy) g e1 e2
  ·exact Apart.cross2 (A:=t) h.2 x hx y hy g e1 e2
theorem Mm.swap{S:Nat→Prop}{w0 w w':World}{A B A':List Hp}(hm:Mm S w0 (A++B) w)(hk:Mm (own A) w A' w'):Mm S w0 (A'++B) w':=by
 have hA:Mm S w0 A w:=hm.sub (List.sublist_append_left _ _)
 have h1:=hA.trans hk
 refine⟨fun x hx=>?_,h1.fr,h1.dj.append hm.dj.right fun x hx y hy g e1 e2=>?_,fun x hx g hg=>?_⟩
 ·rcases List.mem_append.1 hx with h|h
  ·exact h1.me x h
  ·exact Hp.sat_fr hk.fr (hm.me x (List.mem_append_right _ h)) fun g hg ⟨z,hz,e⟩=>hm.dj.cross2 z hz x h g e hg
 ·rcases hk.ow x hx g e1 with h2|⟨z,hz,e⟩
  ·have:=Hp.lt (hm.me y (List.mem_append_right _ hy)) e2
   omega
  ·exact hm.dj.cross2 z hz y hy g e e2
 ·rcases List.mem_append.1 hx with h|h
  ·exact h1.ow x h g hg
  ·exact hm.ow x (List.mem_append_right _ h) g hg
theorem Mm.swapL{S:Nat→Prop}{w0 w w':World}(L:List Hp){A B A':List Hp}(hm:Mm S w0 (L++(A++B)) w)(hk:Mm (own A) w A' w'):Mm S w0 (L++(A'++B)) w':=by
 have h1:Mm S w0 (A++(L++B)) w:=hm.perm (by
  rw[←List.append_assoc,←List.append_assoc]
  exact List.Perm.append_right B List.perm_append_comm)
 refine(h1.swap hk).perm ?_
 rw[←List.append_assoc,←List.append_assoc]
 exact List.Perm.append_right B List.perm_append_comm
theorem Mm.partL{S:Nat→Prop}{w0 w:World}(L:List Hp){A B:List Hp}(hm:Mm S w0 (L++(A++B)) w):Mm (own A) w A w:=((hm.sub (List.sublist_append_right L _)).sub (List.sublist_append_left A B)).rebase
theorem Mm.swap9{S:Nat→Prop}{w0 w w':World}{a b c d e f g h i:Hp}{A B A':List Hp}(hm:Mm S w0 (a::b::c::d::e::f::g::h::i::(A++B)) w)(hk:Mm (own A) w A' w'):Mm S w0 (a::b::c::d::e::f::g::h::i::(A'++B)) w':=Mm.swapL [a,b,c,d,e,f,g,h,i] hm hk
theorem Mm.part9{S:Nat→Prop}{w0 w:World}{a b c d e f g h i:Hp}{A B:List Hp}(hm:Mm S w0 (a::b::c::d::e::f::g::h::i::(A++B)) w):Mm (own A) w A w:=Mm.partL [a,b,c,d,e,f,g,h,i] hm
theorem Mm.notin{S:Nat→Prop}{w0 w:World}{A B:List Hp}(hm:Mm S w0 (A++B) w){x:Hp}(hx:x∈B){g:Nat}(hg:x.g=some g):¬own A g:=fun⟨z,hz,e⟩=>hm.dj.cross2 z hz x hx g e hg
theorem Mm.part{S:Nat→Prop}{w0 w:World}{A B:List Hp}(hm:Mm S w0 (A++B) w):Mm (own A) w A w:=(hm.sub (List.sublist_append_left _ _)).rebase
theorem er_permG{α:Type}{l:List α}{k:Nat}{r:α}(h:l[k]?=some r):l.Perm (r::l.eraseIdx k):=by
 induction l generalizing k with
 |nil=>simp at h
 |cons a l ih=>
  cases k with
  |zero=>simp at h;subst h;exact List.Perm.refl _
  |succ k=>
   simp only[List.getElem?_cons_succ]at h
   exact(List.Perm.cons a (ih h)).trans (List.Perm.swap _ _ _)
theorem Mm.frontG{α:Type}(f:α→Hp){S:Nat→Prop}{w0 w:World}{L:List Hp}{l:List α}{k:Nat}{q:α}(hm:Mm S w0 (L++l.map f) w)(h:l[k]?=some q):Mm S w0 (f q::(L++(l.eraseIdx k).map f)) w:=by
 refine hm.perm ?_
 have h1:=(er_permG h).map f
 exact(List.perm_middle.symm.trans (List.Perm.append_left L h1.symm))
theorem Mm.backG{α:Type}(f:α→Hp){S:Nat→Prop}{w0 w:World}{L:List Hp}{l:List α}{k:Nat}{q:α}(hk:k<l.length)(hm:Mm S w0 (f q::(L++(l.eraseIdx k).map f)) w):Mm S w0 (L++(l.set k q).map f) w:=by
 refine hm.perm ?_
 have h1:=(er_permG (l:=l.set k q) (k:=k) (r:=q) (List.getElem?_set_self hk)).map f
 rw[List.eraseIdx_set_eq]at h1
 exact(List.Perm.append_left L h1).trans List.perm_middle
theorem flat_take{α:Type}(f:α→List Value)(s:Nat)(hs:∀a,(f a).length=s)(l:List α)(k:Nat):(l.take k).flatMap f=(l.flatMap f).take (k*s):=by
 induction l generalizing k with
 |nil=>simp
 |cons a l ih=>
  cases k with
  |zero=>simp
  |succ k=>
   rw[List.take_succ_cons,List.flatMap_cons,List.flatMap_cons,ih,List.take_append,hs]
   have h1:(k+1)*s=s+k*s:=by rw[Nat.add_mul,Nat.one_mul,Nat.add_comm]
   rw[h1,List.take_of_length_le (l:=f a) (by rw[hs];omega),Nat.add_sub_cancel_left]
theorem flat_drop{α:Type}(f:α→List Value)(s:Nat)(hs:∀a,(f a).length=s)(l:List α)(k:Nat):(l.drop k).flatMap f=(l.flatMap f).drop (k*s):=by
 induction l generalizing k with
 |nil=>simp
 |cons a l ih=>
  cases k with
  |zero=>simp
  |succ k=>
   rw[List.drop_succ_cons,List.flatMap_cons,ih,List.drop_append,hs]
   have h1:(k+1)*s=s+k*s:=by rw[Nat.add_mul,Nat.one_mul,Nat.add_comm]
   rw[h1,List.drop_of_length_le (l:=f a) (by rw[hs];omega),Nat.add_sub_cancel_left,List.nil_append]
theorem Row.splice{A:Option Nat}{n c s:Nat}{xs cs:List Value}(h:Row A n c s xs cs){o:Nat}{ys:List Value}(hf:o+ys.length≤n*s):Row A n c s (xs.take o++ys++xs.drop (o+ys.length)) (cs.take o++ys++cs.drop (o+ys.length)):=by
 have hx:=h.xl
 have hc:=h.len
 have hcs:cs=xs++cs.drop (n*s):=by
  have:=(List.take_append_drop (n*s) cs).symm
  rwa[h.pre]at this
 have hle:n*s≤c*s:=Nat.mul_le_mul_right s h.le
 have e1:cs.take o=xs.take o:=by
  rw[hcs,List.take_append,show o-xs.length=0 by omega,List.take_zero,List.append_nil]
 have e2:cs.drop (o+ys.length)=xs.drop (o+ys.length)++cs.drop (n*s):=by
  conv=>lhs;rw[hcs]
  rw[List.drop_append,show o+ys.length-xs.length=0 by omega,List.drop_zero]
 have hl:(xs.take o++ys++xs.drop (o+ys.length)).length=n*s:=by
  simp only[List.length_append,List.length_take,List.length_drop]
  omega
 refine⟨h.nil,h.le,h.cm,?_,hl,?_⟩
 ·simp only[List.length_append,List.length_take,List.length_drop]
  omega
 ·rw[e1,e2,←List.append_assoc,List.take_append,hl,Nat.sub_self,List.take_zero,List.append_nil,List.take_of_length_le (by omega)]
theorem putG{vs:List Value}:∀{cs:List Value}{n:Nat},n+vs.length≤cs.length→putF cs n vs=some (cs.take n++vs++cs.drop (n+vs.length))
 |cs,n+1,h=>by
  cases cs with
  |nil=>simp at h
  |cons c cs=>
   have ih:=putG (vs:=vs) (cs:=cs) (n:=n) (by simp at h;omega)
   have e:n+1+vs.length=(n+vs.length)+1:=by omega
   simp only[putF,ih,List.take_succ_cons,e,List.drop_succ_cons,List.cons_append]
 |cs,0,h=>by
  induction vs generalizing cs with
  |nil=>simp[putF]
  |cons v vs ih=>
   cases cs with
   |nil=>simp at h
   |cons c cs=>
    have ih:=ih (cs:=cs) (by simp at h ⊢;omega)
    simp only[putF,ih]
    simp
theorem flat_splice{α:Type}(f:α→List Value)(s:Nat)(hs:∀a,(f a).length=s)(l:List α)(k:Nat)(y:α)(hk:k<l.length):(l.flatMap f).take (k*s)++f y++(l.flatMap f).drop (k*s+s)=(l.set k y).flatMap f:=by
 rw[List.set_eq_take_append_cons_drop,if_pos hk,List.flatMap_append,List.flatMap_cons,flat_take f s hs,flat_drop f s hs,List.append_assoc,show(k+1)*s=k*s+s by rw[Nat.add_mul,Nat.one_mul]]
theorem set_self{α:Type}{l:List α}{k:Nat}{q:α}(h:l[k]?=some q):l.set k q=l:=by
 refine List.ext_getElem? fun j=>?_
 rw[List.getElem?_set]
 split
 ·next e=>
  subst e
  rw[h,if_pos (List.getElem?_eq_some_iff.1 h).1]
 ·rfl
theorem cMidR{P:Program}{Q:Exit→Act→World→Prop}{a:Act}{w:World}{c:Code}(I:Act→World→Prop)(h:c.wp P (Exit.then I Q) a w)(k:∀a w,I a w→Goes Q .normal a w):c.wp P Q a w:=
 wp_mono h fun e a w hi=>by
  cases e with
  |normal=>exact k a w hi
  |_=>exact hi
theorem Ro.sub{w:World}{b o d:Nat}{vs us:List Value}(h:Ro w b o vs)(hu:∀j v,us[j]?=some v→vs[d+j]?=some v):Ro w b (o+d) us:=fun j v hv=>by
 have:=h (d+j) v (hu j v hv)
 rwa[←Nat.add_assoc]at this
section
variable {P:Program} {T:List (Nat × TI)} {N:Nat} {L:List (Nat × Value)} {a:Act} {w:World} {o:Oper} {x y z:Operand} {t e:TypeId} {i j:TI} {n c:Nat} {k k2:IntKind}
theorem r_sliceB2{b q:Nat}{l h:Int}(hs:Sl N L a)(ho:o.op= .slice t x (some y) (some z) none)(hx:ev L x=some (.slice (some ⟨b,q,none⟩) n c))(hy:ev L y=some (.int k l))(hz:ev L z=some (.int k2 h))(hT:TabOk P T)(hc:tlk T t=some i)(hd:i.d= .sl e)(he:tlk T e=some j)(h0:0≤l)(h1:l≤h)(h2:h≤c)(h3:l<c):RunV P a o w (.slice (some ⟨b,q+l.toNat*j.sz,none⟩) (h.toNat-l.toNat) (c-l.toNat)):=by
 replace hx:=hs.ev hx;replace hy:=hs.ev hy;replace hz:=hs.ev hz
 have e1:¬c=l.toNat:=by omega
 have e2:0≤h:=by omega
 have e4:=run_sliceBound (P:=P) (w:=w) k l h.toNat BoundsCode.sliceB h0 (by omega)
 unfold RunV execOp
 simp[ho,hx,hy,hz,Instr.sliceAt,Instr.slice,run_und ((hT _ _ hc).sl hd),Instr.sliceBounds,run_sliceBound,h0,h2,e1,e2,e4,run_sizeOf (hT _ _ he),Addr.add]
theorem r_sliceN2{b q l h:Nat}(hs:Sl N L a)(ho:o.op= .slice t x (some y) (some z) none)(hx:ev L x=some (.slice (some ⟨b,q,none⟩) n c))(hy:ev L y=some (.int k (l:Int)))(hz:ev L z=some (.int k2 (h:Int)))(hT:TabOk P T)(hc:tlk T t=some i)(hd:i.d= .sl e)(he:tlk T e=some j)(h1:l≤h)(h2:h≤c)(h3:l<c):RunV P a o w (.slice (some ⟨b,q+l*j.sz,none⟩) (h-l) (c-l)):=
 r_sliceB2 hs ho hx hy hz hT hc hd he (Int.natCast_nonneg l) (by omega) (by omega) (by omega)
theorem r_sliceF2{b q l:Nat}(hs:Sl N L a)(ho:o.op= .slice t x (some y) none none)(hx:ev L x=some (.slice (some ⟨b,q,none⟩) n c))(hy:ev L y=some (.int k (l:Int)))(hT:TabOk P T)(hc:tlk T t=some i)(hd:i.d= .sl e)(he:tlk T e=some j)(h1:l≤n)(h3:l<c):RunV P a o w (.slice (some ⟨b,q+l*j.sz,none⟩) (n-l) (c-l)):=by
 have h:=r_sliceFrom (P:=P) (w:=w) hs ho hx hy hT hc hd he (Int.natCast_nonneg l) (by omega)
 rw[if_neg (by rw[Int.toNat_natCast];omega),Int.toNat_natCast]at h
 have e:(if l*j.sz=0 then(⟨b,q,none⟩:Addr)else⟨b,q+l*j.sz,none⟩)=⟨b,q+l*j.sz,none⟩:=by
  split
  ·next h0=>rw[h0];rfl
  ·rfl
 simp only[Option.map_some,Addr.add]at h
 rwa[e]at h
end
structure MeO.val(y:MeO):Prop where
 n:y.xs.length=512
 l:y.ls.length=4
 cv:∀c∈y.xs,c.val
 ll:∀i (h:i<y.ls.length),(y.ls[i]).d.val i
structure MeO.like(y z:MeO):Prop where
 cA:z.cA=y.cA
 cc:z.cc=y.cc
 lA:z.lA=y.lA
 lc:z.lc=y.lc
 n:z.xs.length=y.xs.length
 l:z.ls.length=y.ls.length
theorem fetch_c(gm om:Nat)(y:MeO)(ad:Nat)(wB:World)(hM:Mm (own y.hps) wB y.hps wB)(hy:y.ok)(hv:y.val)(hh:Ro wB gm om [slv y.cA y.xs.length y.cc,slv y.lA y.ls.length y.lc])(hng:¬own y.hps gm)(had:ad<512):
  Ret Tryz.prog 73 [.pointer (some ⟨gm,om,none⟩),.int .i64 (ad:Int)] wB (fun u w'=>∃(gl:Nat)(z:MeO)(q:LnO),z.lA=some gl∧u= .pointer (some ⟨gl,ad/4%4*3,none⟩)∧z.ok∧z.val∧y.like z∧z.ls[ad/4%4]?=some q∧q.d.tag=((ad/4:Nat):Int)∧Mm (own y.hps) wB z.hps w'):=by
 obtain⟨n,hn⟩:∃n,ad/4=n:=⟨_,rfl⟩
 obtain⟨k,hk⟩:∃k,n%4=k:=⟨_,rfl⟩
 rw[hn,hk]
 have hn2:(ad:Int)/4=(n:Int):=by omega
 have hk2:(ad:Int)/4%4=(k:Int):=by omega
 obtain⟨cA,cc,ccs,xs,lA,lc,lcs,ls⟩:=y
 obtain⟨v1,v2,v3,v4⟩:=hv
 obtain⟨r1,r2,r3⟩:=hy
 dsimp only at*
 have hkl:k<ls.length:=by omega
 obtain⟨gl,rfl⟩:=r2.some_ (by omega)
 obtain⟨gc,rfl⟩:=r1.some_ (by omega)
 obtain⟨q,hq⟩:∃q,ls[k]?=some q:=⟨_,List.getElem?_eq_getElem hkl⟩
 have hqk:ls[k]=q:=(List.getElem?_eq_some_iff.1 hq).2
 have hqv:=v4 k hkl
 have hqo:=r3 q (List.mem_of_getElem? hq)
 rw[hqk]at hqv
 have hcl:=r2.len
 have hle:=r2.le
 have hget:∀j,j<3→(ls.flatMap LnO.v)[k*3+j]?=(LnO.v q)[j]?:=fun j hj=>by rw[flat_get LnO.v 3 LnO.len ls k j hkl hj,hqk]
 have e0:lcs[k*3+0]?=some (.int .i64 q.d.tag):=r2.get (by rw[hget 0 (by omega)];rfl)
 have e1:lcs[k*3+1]?=some (.bool q.d.d):=r2.get (by rw[hget 1 (by omega)];rfl)
 have e2:lcs[k*3+2]?=some (slv q.A q.d.xs.length q.c):=r2.get (by rw[hget 2 (by omega)];rfl)
 rw[v1,v2]at hh
 rw[v1]at r1
 refine enterR Tryz.func73 rfl rfl rfl fun a hs hm=>?_
 clear hm
 have hm:=Mm.frontG LnO.hp (L:=[⟨some gc,103,ccs⟩,⟨some gl,61,lcs⟩]) hM hq
 clear hM
 obtain⟨A0,hA0⟩:∃A0,own (MeO.hps ⟨some gc,cc,ccs,xs,some gl,lc,lcs,ls⟩)=A0:=⟨_,rfl⟩
 rw[hA0]at hm hng
 rw[hA0]
 obtain⟨R,hR⟩:∃R,(ls.eraseIdx k).map LnO.hp=R:=⟨_,rfl⟩
 replace hm:Mm A0 wB (⟨q.A,103,q.cs⟩::⟨some gc,103,ccs⟩::⟨some gl,61,lcs⟩::R) wB:=by rw[←hR];exact hm
 by_cases ht:q.d.tag=(n:Int)
 ·rw[ht]at e0
  have hlk:ls.set k q=ls:=by
   refine List.ext_getElem? fun j=>?_
   rw[List.getElem?_set]
   split
   ·next e=>subst e;rw[hq]
   ·rfl
  refine gsf098_ ?_;clear hs hm a;intros;rename_i a hm hs
  refine gRet1 hs rfl rfl ⟨gl,⟨some gc,cc,ccs,xs,some gl,lc,lcs,ls⟩,q,rfl,rfl,⟨by dsimp only;rw[v1];exact r1,r2,r3⟩,⟨v1,v2,v3,v4⟩,⟨rfl,rfl,rfl,rfl,rfl,rfl⟩,hq,ht,?_⟩
  rw[←hR]at hm
  have:=Mm.backG LnO.hp (L:=[⟨some gc,103,ccs⟩,⟨some gl,61,lcs⟩]) hkl hm
  rw[hlk]at this
  exact this
 ·refine gsf098_ ?_;clear hs hm a;intros;rename_i a hm hs
  with_reducible repeat(first|apply gThen|apply wp_seq)
  refine cMid (fun a w=>∃ccs' xs',Row (some gc) 512 cc 2 (cvs xs') ccs'∧xs'.length=512∧(∀c∈xs',c.val)∧Sl Tryz.f73.ntmps [(0,.pointer (some ⟨gm,om,none⟩)),(5,.int .i64 ((ad:Int)/4)),(6,.pointer (some ⟨gl,k*3,none⟩))] a∧Mm A0 wB (⟨q.A,103,q.cs⟩::⟨some gc,103,ccs'⟩::⟨some gl,61,lcs⟩::R) w) ?_ ?_
  ·obtain⟨qA,qc,qcs,tag,dt,ys⟩:=q
   cases dt
   ·refine gsf098_ ?_;clear hs hm a;intros;rename_i a hm hs
    exact And.intro rfl ⟨ccs,xs,r1,v1,v3,(sb_ hs),hm⟩
   ·have hne:tag≠-1:=fun e=>by have:=(hqv.free e).1;cases this
    obtain⟨t1,t2,t3,t4⟩:=hqv.at_ hne
    dsimp only at t1 t2 t3 t4 e0 e1 e2 hqo ht hm hs
    obtain⟨tg,rfl⟩:∃tg:Nat,tag=(tg:Int):=⟨tag.toNat,by omega⟩
    have hqr:Row qA ys.length qc 2 (cvs ys) qcs:=hqo
    rw[t4]at e2 hqr
    obtain⟨gq,rfl⟩:=hqr.some_ (by omega)
    have hmul:(tg:Int)*4=((4*tg:Nat):Int):=by omega
    have hcc:=r1.le
    have hcl1:=r1.len
    refine gsf098_ ?_;clear hs hm a;intros;rename_i a hm hs
    refine cDrawT (n:=15) (.s [0,1,2,3,4,5,6,7,8,9,10,11,12,13]<| .o 14<| .x<| .d) [⟨some gl,61,lcs⟩] hm rfl rfl ?_
    clear hm;intro t_ w1_ hm
    repeat' (first|(refine dg6140_ ?_;clear t_ hs hm a;intros;rename_i a hm hs t_)|refine tE t_ ?_|refine tC ?_ ?_|exact tN|intro t_|(refine oDo (i:=14) hs rfl (Wnt.none rfl) rfl rfl (by exact d_copyN hs rfl rfl rfl rfl tab rfl rfl rfl hm rep_ (n:=4) (cs:=cvs ys) (by show min 4 (512-4*tg)=4;omega) (by rw[cvs_len,t4]) (by obtain⟨b,o,e,_,r⟩:=hm.rd_row (A:=some gq) mem_ hqr (by rw[cvs_len];omega);cases e;exact r) (by show 0+4*tg*2+_≤_;rw[cvs_len,t4,hcl1];omega) (cvs_one _)) ?_;clear hs;rintro _ w1 hm a hs;replace t_:=tX t_;refine⟨(hm.sub sub_),?_⟩)|(
     refine tD t_ ?_
     obtain⟨xs',hxs⟩:∃xs':List CV,xs'=xs.take (4*tg)++ys++xs.drop (4*tg+4):=⟨_,rfl⟩
     have hsp:=r1.splice (o:=0+4*tg*2) (ys:=cvs ys) (by rw[cvs_len,t4];omega)
     have hcv:cvs xs'=(cvs xs).take (0+4*tg*2)++cvs ys++(cvs xs).drop (0+4*tg*2+(cvs ys).length):=by
      rw[hxs,cvs_len,t4,show 0+4*tg*2=4*tg*2 by omega,show 4*tg*2+4*2=(4*tg+4)*2 by omega]
      unfold cvs
      rw[List.flatMap_append,List.flatMap_append,flat_take CV.cs 2 CV.cs_len,flat_drop CV.cs 2 CV.cs_len]
     exact And.intro rfl ⟨_,xs',by rw[hcv];exact hsp,by rw[hxs];simp only[List.length_append,List.length_take,List.length_drop];omega,fun c hc=>by
      rw[hxs]at hc
      rcases List.mem_append.1 hc with hc|hc
      ·rcases List.mem_append.1 hc with hc|hc
       ·exact v3 c (List.mem_of_mem_take hc)
       ·exact hqv.cv c hc
      ·exact v3 c (List.mem_of_mem_drop hc),(sb_ hs),hm⟩)|fail)
  ·have v1o:=v1
   clear hs hm a r1 v1 v3
   rintro a w ⟨ccs',xs',r1,v1,v3,hs,hm⟩
   have l0:k*3+0<lcs.length:=by omega
   have l1:k*3+1<(lcs.set (k*3+0) (.int .i64 ((ad:Int)/4))).length:=by rw[List.length_set];omega
   have h1:(ad:Int)/4*4=((4*n:Nat):Int):=by omega
   have h2:(ad:Int)/4+1=((n+1:Nat):Int):=by omega
   have h3:((n+1:Nat):Int)*4=((4*n+4:Nat):Int):=by omega
   have hcc:=r1.le
   refine gsf098_ ?_;clear hs hm a;intros;rename_i w a hm hs
   rw[show 4*n+4-4*n=4 by omega]at hs
   obtain⟨ys',hys⟩:∃ys':List CV,ys'=(xs'.drop (4*n)).take 4:=⟨_,rfl⟩
   have hyl:ys'.length=4:=by rw[hys,List.length_take,List.length_drop];omega
   have hyv:∀c∈ys',c.val:=fun c hc=>by rw[hys]at hc;exact v3 c (List.mem_of_mem_drop (List.mem_of_mem_take hc))
   have hcv:cvs ys'=((cvs xs').drop (4*n*2)).take (4*2):=by
    rw[hys]
    unfold cvs
    rw[flat_take CV.cs 2 CV.cs_len,flat_drop CV.cs 2 CV.cs_len]
   have hrd:Rd w w.heap.size (some ⟨gc,0+4*n*2,none⟩) (cvs ys'):=by
    obtain⟨b,o,e,hb,r⟩:=hm.rd_row (A:=some gc) mem_ r1 (by rw[cvs_len];omega)
    cases e
    refine Ro.rd (Ro.sub (d:=4*n*2) r fun j v hv=>?_) hb
    rw[hcv,List.getElem?_take]at hv
    split at hv
    ·rwa[List.getElem?_drop]at hv
    ·cases hv
   replace hm:=hm.zero 103
   refine dv hs (Wnt.none rfl) rfl rfl (d_appendS (A:=none) (n:=0) (c:=0) (xs:=[]) (news:=cvs ys') hs rfl rfl rfl rfl tab rfl rfl rfl rfl rfl hm mem_ (Row.empty 2) (by rw[cvs_len,hyl]) hrd (cvs_one _) (by decide) (by decide)) ?_
   clear hs a
   rintro _ w1 ⟨A',c',cs',rfl,hbr,hM⟩ a hs
   replace hm:=hM _ rep_
   clear hM
   rw[List.nil_append]at hbr
   have l2:k*3+2<((lcs.set (k*3+0) (.int .i64 ((ad:Int)/4))).set (k*3+1) (.bool false)).length:=by rw[List.length_set,List.length_set];omega
   refine gsf098_ ?_;clear hs hm a;intros;rename_i a hm hs
   obtain⟨q',hq'⟩:∃q':LnO,q'=⟨A',c',cs',(n:Int),false,ys'⟩:=⟨_,rfl⟩
   have hr5:(((ls.flatMap LnO.v).set (k*3+0) (.int .i64 (n:Int))).set (k*3+1) (.bool false)).set (k*3+2) (slv A' 4 c')=(ls.set k q').flatMap LnO.v:=by
    rw[flat_set LnO.v 3 LnO.len ls k 0 q _ hq (by omega) {q with d:={q.d with tag:=(n:Int)}} rfl]
    rw[flat_set LnO.v 3 LnO.len _ k 1 {q with d:={q.d with tag:=(n:Int)}} _ (by rw[List.getElem?_set_self hkl]) (by omega) {q with d:={q.d with tag:=(n:Int),d:=false}} rfl,List.set_set]
    rw[flat_set LnO.v 3 LnO.len _ k 2 {q with d:={q.d with tag:=(n:Int),d:=false}} _ (by rw[List.getElem?_set_self hkl]) (by omega) q' (by rw[hq'];unfold LnO.v;dsimp only;rw[hyl];rfl),List.set_set]
   have hl':(ls.set k q').length=ls.length:=List.length_set
   rw[hn2,Nat.zero_add]at hm
   rw[Nat.zero_add]at hbr
   obtain⟨lcs2,hlcs2⟩:∃z,((lcs.set (k*3+0) (.int .i64 (n:Int))).set (k*3+1) (.bool false)).set (k*3+2) (slv A' 4 c')=z:=⟨_,rfl⟩
   rw[hlcs2]at hm
   refine gRet1 hs rfl rfl ⟨gl,⟨some gc,cc,ccs',xs',some gl,lc,lcs2,ls.set k q'⟩,q',rfl,rfl,⟨by dsimp only;rw[v1];exact r1,?_,fun z hz=>?_⟩,⟨v1,by dsimp only;rw[hl'];exact v2,v3,fun i hi=>?_⟩,⟨rfl,rfl,rfl,rfl,by dsimp only;rw[v1,v1o],hl'⟩,List.getElem?_set_self hkl,by rw[hq'],Mm.backG LnO.hp (L:=[⟨some gc,103,ccs'⟩,⟨some gl,61,lcs2⟩]) hkl ?_⟩
   ·dsimp only
    rw[hl',←hr5,←hlcs2]
    exact((r2.set _ _).set _ _).set _ _
   ·dsimp only at hz
    rcases List.mem_or_eq_of_mem_set hz with h|h
    ·exact r3 z h
    ·subst h
     rw[hq']
     show Row A' ys'.length c' 2 (cvs ys') cs'
     rw[hyl]
     exact hbr
   ·dsimp only at hi ⊢
    rw[hl']at hi
    rw[List.getElem_set]
    split
    ·next e=>
     subst e
     rw[hq']
     refine⟨fun e=>by dsimp only at e;omega,fun _=>⟨by dsimp only;omega,by dsimp only;omega,by dsimp only;omega,hyl⟩,hyv⟩
    ·exact v4 i hi
   ·rw[hR,hq']
    exact hm.sub (List.Sublist.cons_cons _ (List.Sublist.cons _ (List.Sublist.refl _)))
theorem clc_c(A:Option Addr)(n c:Nat)(vs:List Value)(w:World)(hl:vs.length=n*2)(hr:Rd w w.heap.size A vs)(h1:vs.all (·.oneCell')=true)(hn:n≤1000000):
  Ret Tryz.prog 36 [.slice A n c] w (fun u w'=>∃(A':Option Nat)(c':Nat)(cs':List Value),u=slv A' n c'∧Row A' n c' 2 vs cs'∧New w w' [⟨A',103,cs'⟩]∧Pu w w'):=by
 cases hA:A with
 |none=>
  subst hA
  have hv:=hr.none_nil
  subst hv
  obtain rfl:n=0:=by rw[List.length_nil]at hl;omega
  refine enterR Tryz.func36 rfl rfl rfl fun a hs hm=>?_
  refine gsce98_ ?_;clear hs hm a;intros;rename_i a hm hs
  exact gRet1 hs rfl rfl ⟨none,0,[],rfl,Row.empty 2,New.none_ _ _ _,hm.fr⟩
 |some p=>
  subst hA
  refine enterR Tryz.func36 rfl rfl rfl fun a hs hm=>?_
  refine gsce98_ ?_;clear hs hm a;intros;rename_i a hm hs
  obtain⟨g5,rfl⟩:=hs.qq 5
  refine dv hs (Wnt.none rfl) rfl rfl (d_appendS (A:=some g5) (n:=0) (c:=0) (xs:=[]) (news:=vs) hs rfl rfl rfl rfl tab rfl rfl rfl rfl rfl hm mem_ (Row.room0 g5 2) hl (hm.fr.rd' hr) h1 (by show(0+n)*4≤_;omega) (by omega)) ?_
  clear hs
  rintro _ w2 ⟨A',c',cs',rfl,hr2,hM⟩ a hs
  replace hm:=hM _ rep_
  clear hM
  rw[Nat.zero_add,List.nil_append]at hr2
  rw[Nat.zero_add]at hs
  refine gsce98_ ?_;clear hs hm a;intros;rename_i a hm hs
  exact gRet1 hs rfl rfl ⟨A',c',cs',rfl,hr2,hm.new (List.Sublist.refl _),hm.fr⟩
theorem cll_c(A:Option Addr)(n c:Nat)(vs:List Value)(w:World)(hl:vs.length=n*3)(hr:Rd w w.heap.size A vs)(h1:vs.all (·.oneCell')=true)(hn:n≤1000000):
  Ret Tryz.prog 65 [.slice A n c] w (fun u w'=>∃(A':Option Nat)(c':Nat)(cs':List Value),u=slv A' n c'∧Row A' n c' 3 vs cs'∧New w w' [⟨A',61,cs'⟩]∧Pu w w'):=by
 cases hA:A with
 |none=>
  subst hA
  have hv:=hr.none_nil
  subst hv
  obtain rfl:n=0:=by rw[List.length_nil]at hl;omega
  refine enterR Tryz.func65 rfl rfl rfl fun a hs hm=>?_
  refine gsce98_ ?_;clear hs hm a;intros;rename_i a hm hs
  exact gRet1 hs rfl rfl ⟨none,0,[],rfl,Row.empty 3,New.none_ _ _ _,hm.fr⟩
 |some p=>
  subst hA
  refine enterR Tryz.func65 rfl rfl rfl fun a hs hm=>?_
  refine gsce98_ ?_;clear hs hm a;intros;rename_i a hm hs
  obtain⟨g5,rfl⟩:=hs.qq 5
  refine dv hs (Wnt.none rfl) rfl rfl (d_appendS (A:=some g5) (n:=0) (c:=0) (xs:=[]) (news:=vs) hs rfl rfl rfl rfl tab rfl rfl rfl rfl rfl hm mem_ (Row.room0 g5 3) hl (hm.fr.rd' hr) h1 (by show(0+n)*40≤_;omega) (by omega)) ?_
  clear hs
  rintro _ w2 ⟨A',c',cs',rfl,hr2,hM⟩ a hs
  replace hm:=hM _ rep_
  clear hM
  rw[Nat.zero_add,List.nil_append]at hr2
  rw[Nat.zero_add]at hs
  refine gsce98_ ?_;clear hs hm a;intros;rename_i a hm hs
  exact gRet1 hs rfl rfl ⟨A',c',cs',rfl,hr2,hm.new (List.Sublist.refl _),hm.fr⟩
theorem lyc_c(A:Option Addr)(n c:Nat)(bs:List Int)(key:Int)(w:World)(hl:bs.length=n)(hr:Rd w w.heap.size A (ints bs))(hn:n≤1000000):
  Ret Tryz.prog 34 [.agg #[.slice A n c,.int .u16 key]] w (fun u w'=>∃(A':Option Nat)(c':Nat)(cs':List Value),u= .agg #[slv A' n c',.int .u16 key]∧Row A' n c' 1 (ints bs) cs'∧New w w' [⟨A',3,cs'⟩]∧Pu w w'):=by
 refine enterR Tryz.func34 rfl rfl rfl fun a hs hm=>?_
 refine gsce98_ ?_;clear hs hm a;intros;rename_i a hm hs
 obtain⟨g1,rfl⟩:=hs.pp 1
 obtain⟨g2,rfl⟩:=hs.pp 2
 refine st hs rfl rfl rfl (d_call hs rfl rfl rfl (pl 64 rfl) ((cln_c A n c (ints bs) _ (by rw[ints_len,hl]) (hm.fr.rd' hr) (ints_one _) hn))) ?_;clear hs a;rintro _ w1 ⟨A',c',cs',rfl,hr2,hN,hf⟩ a hs
 replace hm:=hm.gain hf hN
 clear hN hf
 refine gsce98_ ?_;clear hs hm a;intros;rename_i a hm hs
 exact gRetN tab hs rfl (.cons (.cells rfl rfl rfl rfl (hm.ro (k:=0) (n:=2) (g:=g2) mem_ (cutF_ok rfl))) .nil) ⟨A',c',cs',rfl,hr2,hm.new sub_,hm.fr⟩
def lnTo(rs:List LnO)(ls:List LnV):List Value:=rs.flatMap LnO.v++(ls.drop rs.length).flatMap LnV.v
theorem lnTo_split{rs:List LnO}{ls:List LnV}{q:LnV}(h:rs.length<ls.length)(hq:ls[rs.length]=q):lnTo rs ls=rs.flatMap LnO.v++(q.v++(ls.drop (rs.length+1)).flatMap LnV.v):=by
 unfold lnTo
 rw[List.drop_eq_getElem_cons h,List.flatMap_cons,hq]
theorem lnTo_at{rs:List LnO}{ls:List LnV}{q:LnV}(h:rs.length<ls.length)(hq:ls[rs.length]=q)(j:Nat)(hj:j<3):(lnTo rs ls)[rs.length*3+j]?=q.v[j]?:=by
 rw[lnTo_split h hq,List.getElem?_append_right (by rw[flat_len LnO.v 3 LnO.len];omega),flat_len LnO.v 3 LnO.len,Nat.add_sub_cancel_left,List.getElem?_append_left (by rw[LnV.len];exact hj)]
theorem lnTo_set{rs:List LnO}{ls:List LnV}{q:LnV}{r:LnO}(h:rs.length<ls.length)(hq:ls[rs.length]=q)(hr:r.d=q.d):(lnTo rs ls).set (rs.length*3+2) (slv r.A r.d.xs.length r.c)=lnTo (rs++[r]) ls:=by
 rw[lnTo_split h hq,List.set_append_right _ _ (by rw[flat_len LnO.v 3 LnO.len];omega),flat_len LnO.v 3 LnO.len,Nat.add_sub_cancel_left]
 unfold lnTo
 rw[List.flatMap_append,List.flatMap_singleton,List.length_append,List.length_singleton,List.append_assoc]
 congr 1
 unfold LnV.v LnO.v
 rw[hr]
 rfl
theorem cutF_of:∀(cs:List Value)(o:Nat)(vs:List Value),o+vs.length≤cs.length→(∀j v,vs[j]?=some v→cs[o+j]?=some v)→cutF cs o vs.length=some vs
 |[],0,[],_,_=>rfl
 |[],o+1,_,h,_=>absurd h (by rw[List.length_nil];omega)
 |[],0,v::vs,h,_=>absurd h (by rw[List.length_cons,List.length_nil];omega)
 |c::cs,0,[],_,_=>rfl
 |c::cs,0,v::vs,h,hv=>by
  have h0:=hv 0 v rfl
  have h1:c=v:=by simpa using h0
  have h2:=cutF_of cs 0 vs (by rw[List.length_cons,List.length_cons]at h;omega) (fun j u hj=>by
   have:=hv (j+1) u (by simpa using hj)
   rw[Nat.zero_add]at this ⊢
   simpa using this)
  show(match cutF cs 0 vs.length with|some vs=>some (c::vs)|none=>none)=_
  rw[h2,h1]
 |c::cs,o+1,vs,h,hv=>by
  show cutF cs o vs.length=_
  refine cutF_of cs o vs (by simp at h;omega) (fun j u hj=>?_)
  have:=hv j u hj
  rw[show o+1+j=(o+j)+1 by omega]at this
  simpa using this
structure MrX where
 rs:List LnO
 lcs:List Value
theorem mmc_c(x:MV)(wB:World)(hx:x.ok wB)(hsm:x.d.sm):Ret Tryz.prog 35 [x.me] wB (fun u w'=>∃y:MeO,u=y.v∧y.ok∧y.d=(x.xs,x.ls.map LnV.d)∧New wB w' y.hps∧Pu wB w'):=by
 have hc1:x.xs.length≤1000:=hsm.c
 have hl1:x.ls.length≤1000:=by have:=hsm.l;unfold MV.d at this;dsimp only at this;rwa[List.length_map]at this
 unfold MV.me
 refine enterR Tryz.func35 rfl rfl rfl fun a hs hm=>?_
 refine gsb5fb_ ?_;clear hs hm a;intros;rename_i a hm hs
 obtain⟨g1,rfl⟩:=hs.pp 1
 obtain⟨g2,rfl⟩:=hs.pp 2
 refine cMid (fun a w=>∃(g3:Nat)(cA:Option Nat)(cc:Nat)(ccs:List Value)(lA:Option Nat)(lc:Nat)(lcs:List Value),Row cA x.xs.length cc 2 (cvs x.xs) ccs∧Row lA x.ls.length lc 3 (x.ls.flatMap LnV.v) lcs∧Sl Tryz.f35.ntmps [(2,pt g2),(3,pt g3)] a∧Mm (fun _=>False) wB [⟨some g3,29,[slv cA x.xs.length cc,slv lA x.ls.length lc]⟩,⟨cA,103,ccs⟩,⟨lA,61,lcs⟩,⟨some g2,29,[nS,nS]⟩] w) ?_ ?_
 ·skip
  refine cDrawT (n:=9) (.s [0,1,3,4]<| .e [(2,.x<| .e [(5,.x<| .t 6<| .o 7<| .o 8<| .d),(7,.o 5<| .x<| .t 6<| .o 8<| .d)]),(7,.o 2<| .x<| .o 5<| .x<| .t 6<| .o 8<| .d)]) [⟨some g1,29,[.slice x.cA x.xs.length x.cc,.slice x.lA x.ls.length x.lc]⟩] hm rfl rfl ?_
  clear hm;intro t_ w1_ hm
  repeat' (first|(refine dgca31_ ?_;clear t_ hs hm a;intros;rename_i a hm hs t_)|refine tE t_ ?_|refine tC ?_ ?_|exact tN|intro t_|(refine oDo (i:=2) hs rfl (Wnt.none rfl) rfl rfl (by exact d_call hs rfl rfl rfl (pl 36 rfl) ((clc_c x.cA x.xs.length x.cc (cvs x.xs) _ (cvs_len _) (hm.fr.rd' hx.c) (cvs_one _) (by omega)))) ?_;clear hs;rintro _ w1 ⟨cA,cc,ccs,rfl,hcr,hN,hf⟩ a hs;(replace hm:=hm.gain hf hN);(clear hN hf);replace t_:=tX t_;refine⟨(hm.sub sub_),?_⟩)|(refine oDo (i:=5) hs rfl (Wnt.none rfl) rfl rfl (by exact d_call hs rfl rfl rfl (pl 65 rfl) ((cll_c x.lA x.ls.length x.lc (x.ls.flatMap LnV.v) _ (flat_len LnV.v 3 LnV.len _) (hm.fr.rd' hx.l) (flat_one (fun _=>rfl) _) (by omega)))) ?_;clear hs;rintro _ w1 ⟨lA,lc,lcs,rfl,hlr,hN,hf⟩ a hs;(replace hm:=hm.gain hf hN);(clear hN hf);replace t_:=tX t_;refine⟨(hm.sub sub_),?_⟩)|(refine tD t_ ?_;(obtain⟨g3,rfl⟩:=hs.pp 3);(refine And.intro rfl ⟨g3,cA,cc,ccs,lA,lc,lcs,hcr,hlr,(sb_ hs),?_⟩);(first|exact hm.sel [0,2,1,3] (by decide) rfl|exact hm.sel [1,2,0,3] (by decide) rfl|exact hm.sel [2,1,0,3] (by decide) rfl))|fail)
 clear hs hm a
 rintro a w ⟨g3,cA,cc,ccs,lA,lc,lcs,hcr,hlr,hs,hm⟩
 refine gsb5fb_ ?_;clear hs hm a;intros;rename_i a hm hs
 refine cLoop (X:=MrX) (fun X a w'=>X.rs.length≤x.ls.length∧Sl Tryz.f35.ntmps [(2,pt g2),(3,pt g3),(14,slv lA x.ls.length lc),(15,.int .i64 (x.ls.length:Int)),(16,.int .i64 (X.rs.length:Int))] a∧Mm (fun _=>False) wB ([⟨some g3,29,[slv cA x.xs.length cc,slv lA x.ls.length lc]⟩,⟨cA,103,ccs⟩,⟨lA,61,X.lcs⟩,⟨some g2,29,[nS,nS]⟩]++X.rs.map LnO.hp) w'∧Row lA x.ls.length lc 3 (lnTo X.rs x.ls) X.lcs∧X.rs.map LnO.d=(x.ls.take X.rs.length).map LnV.d∧∀r∈X.rs,r.ok) (fun X=>x.ls.length-X.rs.length) ⟨[],lcs⟩ ⟨Nat.zero_le _,(sb_ hs),hm,hlr,rfl,fun r hr=>by cases hr⟩ ?_
 clear hs hm a hlr lcs
 rintro⟨rs,lcs⟩ a w' ⟨hlen,hs,hm,hlr,hab,hok⟩
 dsimp only at hlen hs hm hlr hab hok
 by_cases hlt:rs.length<x.ls.length
 ·obtain⟨gl,rfl⟩:=hlr.some_ (by omega)
  obtain⟨q,hq⟩:∃q,x.ls[rs.length]=q:=⟨_,rfl⟩
  have hqm:q∈x.ls:=by rw[←hq];exact List.getElem_mem hlt
  have hqr:=hx.ll q hqm
  have hqn:q.d.xs.length≤1000:=hsm.ll q.d (List.mem_map.2 ⟨q,hqm,rfl⟩)
  have hln2:lcs.length=lc*3:=hlr.len
  have hle2:=hlr.le
  have hcut:cutF lcs (rs.length*3) 3=some [.int .i64 q.d.tag,.bool q.d.d,.slice q.A q.d.xs.length q.c]:=cutF_of lcs (rs.length*3) q.v (by rw[LnV.len];omega) (fun j v hj=>hlr.get (by
   rw[lnTo_at hlt hq j (by have:=(List.getElem?_eq_some_iff.1 hj).1;rwa[LnV.len]at this)]
   exact hj))
  have hst5:rs.length*3+2<lcs.length:=by omega
  refine gsb5fb_ ?_;clear hs hm a;intros;rename_i a hm hs
  obtain⟨g5,rfl⟩:=hs.pp 5
  refine cMid (fun a w=>∃(rA:Option Nat)(rc:Nat)(rcs:List Value),Row rA q.d.xs.length rc 2 (cvs q.d.xs) rcs∧Sl Tryz.f35.ntmps [(2,pt g2),(3,pt g3),(14,slv (some gl) x.ls.length lc),(15,.int .i64 (x.ls.length:Int)),(16,.int .i64 (rs.length:Int))] a∧Mm (fun _=>False) wB (⟨rA,103,rcs⟩::([⟨some g3,29,[slv cA x.xs.length cc,slv (some gl) x.ls.length lc]⟩,⟨cA,103,ccs⟩,⟨some gl,61,lcs.set (rs.length*3+2) (slv rA q.d.xs.length rc)⟩,⟨some g2,29,[nS,nS]⟩]++rs.map LnO.hp)) w) ?_ ?_
  ·skip
   refine cDrawT (n:=9) (.s [0,1,2,3,4]<| .o 5<| .x<| .s [6,7]<| .o 8<| .d) [⟨some g5,61,[.int .i64 q.d.tag,.bool q.d.d,.slice q.A q.d.xs.length q.c]⟩,⟨some g3,29,[slv cA x.xs.length cc,slv (some gl) x.ls.length lc]⟩] hm rfl rfl ?_
   clear hm;intro t_ w1_ hm
   repeat' (first|(refine dgca31_ ?_;clear t_ hs hm a;intros;rename_i a hm hs t_)|refine tE t_ ?_|refine tC ?_ ?_|exact tN|intro t_|(refine oDo (i:=5) hs rfl (Wnt.none rfl) rfl rfl (by exact d_call hs rfl rfl rfl (pl 36 rfl) ((clc_c q.A q.d.xs.length q.c (cvs q.d.xs) _ (cvs_len _) (hm.fr.rd' hqr) (cvs_one _) (by omega)))) ?_;clear hs;rintro _ w1 ⟨rA,rc,rcs,rfl,hrr,hN,hf⟩ a hs;(replace hm:=hm.gain hf hN);(clear hN hf);replace t_:=tX t_;refine⟨(hm.sub sub_),?_⟩)|(refine tD t_ ?_;(exact And.intro rfl ⟨rA,rc,rcs,hrr,(sb_ hs),hm.sub (List.Sublist.cons_cons _ (List.Sublist.cons _ (List.Sublist.refl _)))⟩))|fail)
  clear hs hm a
  rintro a w ⟨rA,rc,rcs,hrr,hs,hm⟩
  obtain⟨r,hr⟩:∃r:LnO,r=⟨rA,rc,rcs,q.d⟩:=⟨_,rfl⟩
  have hro:r.ok:=by rw[hr];exact hrr
  have hrd:r.d=q.d:=by rw[hr]
  have hrh:r.hp=⟨rA,103,rcs⟩:=by rw[hr];rfl
  have hlr2:=hlr.set (rs.length*3+2) (slv rA q.d.xs.length rc)
  have hset:(lnTo rs x.ls).set (rs.length*3+2) (slv rA q.d.xs.length rc)=lnTo (rs++[r]) x.ls:=by
   rw[←lnTo_set hlt hq hrd,hr]
  rw[hset]at hlr2
  rw[←hrh]at hm
  refine gsb5fb_ ?_;clear hs hm a;intros;rename_i a hm hs
  refine⟨⟨rs++[r],lcs.set (rs.length*3+2) (slv rA q.d.xs.length rc)⟩,by dsimp only;rw[List.length_append,List.length_singleton];omega,by dsimp only;rw[List.length_append,List.length_singleton];omega,?_,?_,hlr2,ln_take hab hlt (by rw[hrd,hq]),?_⟩
  ·dsimp only
   rw[List.length_append,List.length_singleton]
   exact(sb_ hs)
  ·exact ln_perm hm
  ·intro z hz
   rcases List.mem_append.1 hz with hz|hz
   ·exact hok z hz
   ·rcases List.mem_singleton.1 hz with rfl;exact hro
 ·have hln:rs.length=x.ls.length:=by omega
  refine gsb5fb_ ?_;clear hs hm a;intros;rename_i a hm hs
  rw[hln,List.take_length]at hab
  have hlr2:Row lA rs.length lc 3 (rs.flatMap LnO.v) lcs:=by
   unfold lnTo at hlr
   rw[hln,List.drop_length,List.flatMap_nil,List.append_nil]at hlr
   rw[hln]
   exact hlr
  rw[←hln]at hm
  refine gRetN tab hs rfl (.cons (.cells rfl rfl rfl rfl (hm.ro (k:=0) (n:=2) (g:=g2) mem_ (cutF_ok rfl))) .nil) ⟨⟨cA,cc,ccs,x.xs,lA,lc,lcs,rs⟩,rfl,⟨hcr,hlr2,hok⟩,by unfold MeO.d;dsimp only;rw[hab],hm.new ?_,hm.fr⟩
  unfold MeO.hps
  dsimp only
  exact zbd11_
end Go.Proofs.YtbjffoojenpmfaaGreat
