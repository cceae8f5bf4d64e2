/- Texts put together: Sgn, Lk3, Lk4, Lk5, Lk6, Lk7, Lk8, Lk9. -/
import Derived.Test.YtbjffoojenpmfaaGreatMgSOg
set_option maxRecDepth 20000
set_option maxHeartbeats 64000000
namespace Go.Proofs.YtbjffoojenpmfaaGreat
open Go.RowKit
theorem gcSgn0_{G H:Prop}(k:H)(s:Bx H→G:=by intro k_;(repeat(first|(refine ov701a_ ?_;(try clear hs a);intro a hs)|((with_reducible apply lCons);first|(refine dv hs gw_ rfl rfl da_ ?_;(try clear hs hm a);rintro _ w_ ⟨g_,rfl,-,hm⟩ a hs)|(refine stn hs rfl rfl ds_ ?_;(try clear hs hm a);rintro-w_ hm a hs))|refine sc_ ?_|((with_reducible apply lCons);first|(refine dvc hs hm gw_ rfl rfl rfl rfl rfl (pl 47 rfl) (hbr _) ?_;(try clear hs hm a);intro w_ hm a hs))));(first|(have m_:=hm;have s_:=hs;clear hs;(try clear hm);revert m_ s_ a)|((first|refine rexc_ hs hm ?_|refine rexl_ hs hm ?_|refine rexg_ hs hm ?_|refine rexq_ hs hm ?_);intro a hm hs;revert hm hs a));(try revert w_);(repeat revert g_);exact k_.h):G:=s ⟨k⟩
theorem trow_set{A:Option Nat}{n c t:Nat}{ts:List ThO}{q1 q2:ThO}{tcs:List Value}(hr:Row A n c 8 ((ts.set t q1).flatMap ThO.v) tcs)(ht:t<ts.length)(j:Nat)(hj:j<8)(v:Value)(h:q2.v=q1.v.set j v):Row A n c 8 ((ts.set t q2).flatMap ThO.v) (tcs.set (t*8+j) v):=by
 have:=hr.set (t*8+j) v
 rwa[flat_set ThO.v 8 ThO.len (ts.set t q1) t j q1 v (List.getElem?_set_self ht) hj q2 h,List.set_set]at this
def MO.upd(y:MO)(t:Nat)(q:ThO)(tcs:List Value)(m:MeO):MO:={y with tcs:=tcs,ts:=y.ts.set t q,m:=m}
theorem MO.upd_ok{y:MO}{t:Nat}{q:ThO}{tcs:List Value}{m:MeO}(hy:y.ok)(hm:m.ok)(hq:q.ok)(hr:Row y.tA y.ts.length y.tc 8 ((y.ts.set t q).flatMap ThO.v) tcs):(y.upd t q tcs m).ok:=
 ⟨hy.b,hm,by show Row y.tA (y.ts.set t q).length y.tc 8 _ _;rw[List.length_set];exact hr,fun z hz=>by
  rcases List.mem_or_eq_of_mem_set hz with h|h
  ·exact hy.tt z h
  ·rw[h];exact hq⟩
theorem MO.upd_vs{y:MO}{t:Nat}{q:ThO}{tcs:List Value}{m:MeO}(h:y.m.like m):(y.upd t q tcs m).vs=y.vs:=by
 unfold MO.upd MO.vs
 dsimp only
 rw[h.cA,h.cc,h.lA,h.lc,h.n,h.l,List.length_set]
theorem ThD.val.up [HB]{q:ThD}{B C:Int}(h:q.val B)(hBC:B≤C):q.val C:=⟨h.st,h.n,h.pc,⟨h.cnt.1,Int.le_trans h.cnt.2 hBC⟩,h.han,h.sav,h.trp,h.cod,h.cv⟩
theorem MO.upd_val [HB]{y:MO}{t:Nat}{q:ThO}{tcs:List Value}{m:MeO}{ss:List Int}{B C:Int}(h:y.d.val ss B)(hBC:B≤C)(hm:m.val)(hq:q.d.val C):(y.upd t q tcs m).d.val ss C:=by
 refine⟨h.gap,h.key,hm.n,(by show(m.ls.map LnO.d).length=4;rw[List.length_map];exact hm.l),?_,hm.cv,fun i hi=>?_,fun z hz=>?_⟩
 ·have:=h.t
  unfold MO.d at this ⊢
  unfold MO.upd
  dsimp only at this ⊢
  rwa[List.length_map,List.length_set,←List.length_map (f:=ThO.d)]
 ·have:=hm.ll i (by have:=hi;unfold MO.d MO.upd at this;dsimp only at this;rwa[List.length_map]at this)
  have hi':i<(m.ls.map LnO.d).length:=hi
  show((m.ls.map LnO.d)[i]'hi').val i
  rw[List.getElem_map]
  exact this
 ·unfold MO.d MO.upd at hz
  dsimp only at hz
  obtain⟨x,hx,rfl⟩:=List.mem_map.1 hz
  rcases List.mem_or_eq_of_mem_set hx with h1|h1
  ·exact(h.tt x.d (List.mem_map.2 ⟨x,h1,rfl⟩)).up hBC
  ·rw[h1];exact hq
theorem MO.upd_mm{y:MO}{t:Nat}{q:ThO}{tcs:List Value}{m:MeO}{S:Nat→Prop}{w0 w:World}(ht:t<y.ts.length)(hm:Mm S w0 (q.hp::⟨y.tA,52,tcs⟩::⟨y.bA,3,y.bcs⟩::(m.hps++(y.ts.eraseIdx t).map ThO.hp)) w):Mm S w0 (y.upd t q tcs m).hps w:=
 Mm.backG ThO.hp (L:=⟨y.tA,52,tcs⟩::⟨y.bA,3,y.bcs⟩::m.hps) ht hm
theorem MO.upd_th{y:MO}{t:Nat}{q:ThO}{tcs:List Value}{m:MeO}(ht:t<y.ts.length):(y.upd t q tcs m).d.ts[t]?=some q.d:=by
 unfold MO.upd MO.d
 dsimp only
 rw[List.getElem?_map,List.getElem?_set_self ht]
 rfl
def OneR(p:PV)(q q':ThD)(s:Int):Prop:=
 (s=-1∧0≤q.pc∧q.pc<(p.code.length:Int)∧q'.st=q.st∧(q'.cnt=q.cnt+1∨(q'.cnt=q.cnt∧q'.pc=q.pc+1)))∨(s=1∧0≤q.pc∧q.pc<(p.code.length:Int)∧q'.pc=q.pc+1∧∃i,p.code[q.pc.toNat]?=some i∧i.op=23)∨s=2
structure ThI(q q':ThD):Prop where
 st:q'.st=q.st
 pc:q'.pc=q.pc
 cnt:q'.cnt=q.cnt
 han:q'.han=q.han
 trp:q'.trp=q.trp
 cod:q'.cod=q.cod
 n:q'.xs.length=8
 cv:∀c∈q'.xs,c.val
 sav:-1≤q'.sav∧q'.sav≤255
theorem reg_cut{A:Option Nat}{n c:Nat}{xs:List CV}{cs:List Value}(h:Row A n c 2 (cvs xs) cs){k:Nat}(hk:k<xs.length):cutF cs (k*2) 2=some [.int .u8 (xs[k]).t,.int .u16 (xs[k]).v]:=by
 have hl:=h.xl
 have hcl:=h.len
 have hle:n*2≤c*2:=Nat.mul_le_mul_right 2 h.le
 rw[cvs_len]at hl
 exact cutF_of cs (k*2) (xs[k]).cs (by rw[CV.cs_len];omega) (fun i v hi=>h.get (by
  unfold cvs
  rw[flat_get CV.cs 2 CV.cs_len xs k i hk (by have:=(List.getElem?_eq_some_iff.1 hi).1;exact this)]
  exact hi))
def ThO.reg(q:ThO)(r:Nat)(c:CV):ThO:={q with cs:=q.cs.take (r*2)++c.cs++q.cs.drop (r*2+2),d:={q.d with xs:=q.d.xs.set r c}}
theorem ThO.reg_ok [HB]{q:ThO}{r:Nat}{c:CV}{B:Int}(h:q.ok)(hv:q.d.val B)(hr:r<8)(hc:c.val):(q.reg r c).ok∧ThI q.d (q.reg r c).d∧(q.reg r c).v=q.v:=by
 refine⟨?_,⟨rfl,rfl,rfl,rfl,rfl,rfl,(by show(q.d.xs.set r c).length=8;rw[List.length_set];exact hv.n),fun x hx=>?_,hv.sav⟩,?_⟩
 ·have hqr:Row q.A q.d.xs.length q.c 2 (cvs q.d.xs) q.cs:=h
  have hsp:=hqr.splice (o:=r*2) (ys:=c.cs) (by rw[CV.cs_len,hv.n];omega)
  rw[CV.cs_len,show(cvs q.d.xs).take (r*2)++c.cs++(cvs q.d.xs).drop (r*2+2)=cvs (q.d.xs.set r c)from flat_splice CV.cs 2 CV.cs_len q.d.xs r c (by rw[hv.n];omega)]at hsp
  show Row q.A (q.d.xs.set r c).length q.c 2 (cvs (q.d.xs.set r c)) _
  rw[List.length_set]
  exact hsp
 ·rcases List.mem_or_eq_of_mem_set hx with h1|h1
  ·exact hv.cv x h1
  ·rw[h1];exact hc
 ·unfold ThO.v ThO.reg
  dsimp only
  rw[List.length_set]
theorem trow_same{ts:List ThO}{t:Nat}{q q':ThO}(ht:t<ts.length)(h:q'.v=q.v):(ts.set t q').flatMap ThO.v=(ts.set t q).flatMap ThO.v:=by
 rw[List.set_eq_take_append_cons_drop,List.set_eq_take_append_cons_drop,if_pos ht,if_pos ht,List.flatMap_append,List.flatMap_append,List.flatMap_cons,List.flatMap_cons,h]
theorem one_c [HB](p:PV)(N gm:Nat)(y:MO)(B:Int)(t:Nat)(wB:World)(hp:p.at wB N)(hpv:p.val)(hN:N≤wB.heap.size)(hM:Mm (own y.hps) wB y.hps wB)(hno:∀b,b<N→¬own y.hps b)(hy:y.ok)(hv:y.d.val p.ss B)(hB:B≤1099511627776)(hh:Ro wB gm 0 y.vs)(hng:¬own y.hps gm)(ht:t<4):
  Ret Tryz.prog 28 [p.v,.pointer (some ⟨gm,0,none⟩),.int .i64 (t:Int)] wB (fun u w'=>∃(z:MO)(s:Int)(q q':ThD),u= .int .i64 s∧z.ok∧z.d.val p.ss (B+1)∧z.vs=y.vs∧y.d.ts[t]?=some q∧z.d.ts[t]?=some q'∧OneR p q q' s∧Mm (own y.hps) wB z.hps w'):=by
 obtain⟨A0,hA0⟩:∃A0,own y.hps=A0:=⟨_,rfl⟩
 rw[hA0]
 have htl:y.ts.length=4:=by have:=hv.t;unfold MO.d at this;dsimp only at this;rwa[List.length_map]at this
 have htk:t<y.ts.length:=by omega
 obtain⟨q,hq⟩:∃q,y.ts[t]?=some q:=⟨_,List.getElem?_eq_getElem htk⟩
 have hqk:y.ts[t]=q:=(List.getElem?_eq_some_iff.1 hq).2
 have hqd:y.d.ts[t]?=some q.d:=by unfold MO.d;dsimp only;rw[List.getElem?_map,hq];rfl
 have hqv:q.d.val B:=hv.tt q.d (List.mem_map.2 ⟨q,List.mem_of_getElem? hq,rfl⟩)
 have hqo:=hy.tt q (List.mem_of_getElem? hq)
 have hrt:=hy.t
 rw[htl]at hrt
 have hm0:Mm A0 wB (q.hp::((⟨y.tA,52,y.tcs⟩::⟨y.bA,3,y.bcs⟩::y.m.hps)++(y.ts.eraseIdx t).map ThO.hp)) wB:=by
  rw[←hA0]
  exact Mm.frontG ThO.hp (L:=⟨y.tA,52,y.tcs⟩::⟨y.bA,3,y.bcs⟩::y.m.hps) hM hq
 obtain⟨gt,hgt⟩:=hrt.some_ (by omega)
 rw[hgt]at hrt hm0
 have hcl:=hrt.len
 have hle:=hrt.le
 have hget:∀j,j<8→(y.ts.flatMap ThO.v)[t*8+j]?=(ThO.v q)[j]?:=fun j hj=>by rw[flat_get ThO.v 8 ThO.len y.ts t j htk hj,hqk]
 have e1:y.tcs[t*8+1]?=some (slv q.A q.d.xs.length q.c):=hrt.get (by rw[hget 1 (by omega)];rfl)
 have e2:y.tcs[t*8+2]?=some (.int .i64 q.d.pc):=hrt.get (by rw[hget 2 (by omega)];rfl)
 have e5:y.tcs[t*8+5]?=some (.int .i64 q.d.sav):=hrt.get (by rw[hget 5 (by omega)];rfl)
 have hqr:Row q.A q.d.xs.length q.c 2 (cvs q.d.xs) q.cs:=hqo
 rw[hqv.n]at hqr e1
 obtain⟨gq,hgq⟩:=hqr.some_ (by omega)
 rw[hgq]at hqr e1
 obtain⟨R,hR⟩:∃R,(y.ts.eraseIdx t).map ThO.hp=R:=⟨_,rfl⟩
 replace hm0:Mm A0 wB (⟨some gq,103,q.cs⟩::⟨some gt,52,y.tcs⟩::⟨y.bA,3,y.bcs⟩::(y.m.hps++R)) wB:=by
  rw[←hR,←hgq]
  exact hm0
 have hh1:Ro wB gm 0 [slv y.bA y.bs.length y.bc,.int .u16 y.key,slv y.m.cA y.m.xs.length y.m.cc,slv y.m.lA y.m.ls.length y.m.lc,slv (some gt) 4 y.tc]:=by rw[←hgt,←htl];exact hh
 obtain⟨W,hW⟩:∃W,y.m.hps++R=W:=⟨_,rfl⟩
 rw[hW]at hm0
 have hnA:∀b,b<N→¬A0 b:=hA0▸hno
 have hngA:¬A0 gm:=hA0▸hng
 have hc1:=hpv.c1
 have hc2:=hpv.c2
 obtain⟨bc,oc,hcA,hbc,rc⟩:=hp.c.ro (by rw[flat_len inV 5 inV_len];omega)
 have hnc:=hnA bc hbc
 obtain⟨pc,hpc⟩:∃pc:Nat,q.d.pc=(pc:Int):=⟨q.d.pc.toNat,by have:=hqv.pc;omega⟩
 rw[hpc]at e2
 have hmv:y.m.val:=⟨hv.n,by have:=hv.l;unfold MO.d at this;dsimp only at this;rwa[List.length_map]at this,hv.cv,fun i hi=>by
  have:=hv.ll i (by unfold MO.d;dsimp only;rw[List.length_map];exact hi)
  unfold MO.d at this
  dsimp only at this
  rwa[List.getElem_map]at this⟩
 have hqi:ThI q.d q.d:=⟨rfl,rfl,rfl,rfl,rfl,rfl,hqv.n,hqv.cv,hqv.sav⟩
 have hrow:Row (some gt) 4 y.tc 8 ((y.ts.set t q).flatMap ThO.v) y.tcs:=by rw[set_self hq];exact hrt
 have hqcl:=hqr.len
 have hqle:=hqr.le
 have htr:∀(why:Int)(w':World),0≤why∧why≤6→Mm A0 wB (⟨some gq,103,q.cs⟩::⟨some gt,52,((y.tcs.set (t*8+0) (.int .i64 4)).set (t*8+6) (.int .i64 why)).set (t*8+7) (.int .u16 0)⟩::⟨y.bA,3,y.bcs⟩::W) w'→∃(z:MO)(s:Int)(qa qb:ThD),Value.int .i64 2= .int .i64 s∧z.ok∧z.d.val p.ss (B+1)∧z.vs=y.vs∧y.d.ts[t]?=some qa∧z.d.ts[t]?=some qb∧OneR p qa qb s∧Mm A0 wB z.hps w':=by
  intro why w' hwh hm
  obtain⟨tcs3,htcs3⟩:∃z,((y.tcs.set (t*8+0) (.int .i64 4)).set (t*8+6) (.int .i64 why)).set (t*8+7) (.int .u16 0)=z:=⟨_,rfl⟩
  have r1:=trow_set hrow htk 0 (by omega) (.int .i64 4) (q2:={q with d:={q.d with st:=4}}) rfl
  have r2:=trow_set r1 htk 6 (by omega) (.int .i64 why) (q2:={q with d:={q.d with st:=4,trp:=why}}) rfl
  have r3:=trow_set r2 htk 7 (by omega) (.int .u16 0) (q2:={q with d:={q.d with st:=4,trp:=why,cod:=0}}) rfl
  rw[htcs3]at r3 hm
  refine⟨y.upd t {q with d:={q.d with st:=4,trp:=why,cod:=0}} tcs3 y.m,2,q.d,{q.d with st:=4,trp:=why,cod:=0},rfl,MO.upd_ok hy hy.m hqo (by rw[hgt,htl];exact r3),MO.upd_val hv (by omega) hmv ⟨⟨by dsimp only;omega,by dsimp only;omega⟩,hqv.n,hqv.pc,⟨hqv.cnt.1,by have:=hqv.cnt.2;dsimp only;omega⟩,hqv.han,hqv.sav,hwh,⟨by dsimp only;omega,by dsimp only;omega⟩,hqv.cv⟩,MO.upd_vs (MeO.like.refl _),hqd,MO.upd_th htk,.inr (.inr rfl),MO.upd_mm htk ?_⟩
  rw[hR,hW,hgt]
  show Mm A0 wB (⟨q.A,103,q.cs⟩::_) w'
  rw[hgq]
  exact hm
 unfold PV.v
 rw[hcA]
 refine enterR Tryz.func28 rfl rfl rfl fun a hs hm=>?_
 clear hm
 have hm:=hm0
 by_cases hpl:pc<p.code.length
 ·have q1:=rc.flat inV_len hpl
  have hi:=hpv.inv p.code[pc] (List.getElem_mem hpl)
  have hju:=hpv.ju p.code[pc] (List.getElem_mem hpl)
  have hci:p.code[pc]?=some p.code[pc]:=List.getElem?_eq_getElem hpl
  generalize p.code[pc]=i at*
  obtain⟨op,a0,b0,c0,m0⟩:=i
  obtain⟨hop,ha0,hb0,hc0,hm0,hlea,hsys⟩:=hi
  unfold inV at q1
  dsimp only at*
  refine gq20dc_ ?_;clear hs hm a;intros;rename_i a hm hs
  obtain⟨g3,rfl⟩:=hs.pp 3
  refine cMid (fun a w=>∃g8:Nat,Sl Tryz.f28.ntmps [(1,.pointer (some ⟨gm,0,none⟩)),(3,.pointer (some ⟨g3,0,none⟩)),(7,.pointer (some ⟨gt,t*8,none⟩)),(8,.pointer (some ⟨g8,0,none⟩))] a∧Mm A0 wB (⟨some g8,54,[.int .i64 op,.int .i64 a0,.int .i64 b0,.int .i64 c0,.int .i64 m0]⟩::⟨some g3,38,[.slice (some ⟨bc,oc,none⟩) p.code.length p.cc,.slice p.sA p.ss.length p.sc,.slice p.dA p.ws.length p.dc]⟩::⟨some gq,103,q.cs⟩::⟨some gt,52,y.tcs⟩::⟨y.bA,3,y.bcs⟩::W) w) ?_ ?_
  ·with_reducible repeat(first|apply gThen|apply wp_seq)
   refine cDrawT (n:=10) (.s [0,1,2,3,4,5,6,7]<| .o 8<| .o 9<| .d) [⟨some g3,38,[.slice (some ⟨bc,oc,none⟩) p.code.length p.cc,.slice p.sA p.ss.length p.sc,.slice p.dA p.ws.length p.dc]⟩,⟨some gq,103,q.cs⟩,⟨some gt,52,y.tcs⟩] hm rfl rfl ?_
   clear hm;intro t_ w1_ hm
   repeat' (first|(refine dgd799_ ?_;clear t_ hs hm a;intros;rename_i a hm hs t_)|refine tE t_ ?_|refine tC ?_ ?_|exact tN|intro t_|(refine tD t_ ?_;(obtain⟨g8,rfl⟩:=hs.pp 8);(exact And.intro rfl ⟨g8,(sb_ hs),hm⟩))|fail)
  clear hs hm a
  rintro a w ⟨g8,hs,hm⟩
  obtain⟨ra,rfl⟩:∃r:Nat,a0=(r:Int):=⟨a0.toNat,by omega⟩
  obtain⟨rb,rfl⟩:∃r:Nat,b0=(r:Int):=⟨b0.toNat,by omega⟩
  obtain⟨rd,rfl⟩:∃r:Nat,c0=(r:Int):=⟨c0.toNat,by omega⟩
  obtain⟨mi,rfl⟩:∃r:Nat,m0=(r:Int):=⟨m0.toNat,by omega⟩
  have hxl:=hqv.n
  have ka:=reg_cut hqr (k:=ra) (by omega)
  have kb:=reg_cut hqr (k:=rb) (by omega)
  have kd:=reg_cut hqr (k:=rd) (by omega)
  have hva:=hqv.cv _ (List.getElem_mem (show ra<q.d.xs.length by omega))
  have hvb:=hqv.cv _ (List.getElem_mem (show rb<q.d.xs.length by omega))
  have hvd:=hqv.cv _ (List.getElem_mem (show rd<q.d.xs.length by omega))
  obtain⟨ca,hca⟩:∃c,q.d.xs[ra]'(by omega)=c:=⟨_,rfl⟩
  obtain⟨cb,hcb⟩:∃c,q.d.xs[rb]'(by omega)=c:=⟨_,rfl⟩
  obtain⟨cd,hcd⟩:∃c,q.d.xs[rd]'(by omega)=c:=⟨_,rfl⟩
  rw[hca]at ka hva
  rw[hcb]at kb hvb
  rw[hcd]at kd hvd
  have hp1:(pc:Int)+1=((pc+1:Nat):Int):=by omega
  have l2:t*8+2<y.tcs.length:=by omega
  refine gsc5af_ ?_;clear hs hm a;intros;rename_i a hm hs
  refine cMid (fun a w=>∃g10 g11:Nat,Sl Tryz.f28.ntmps [(1,.pointer (some ⟨gm,0,none⟩)),(3,.pointer (some ⟨g3,0,none⟩)),(7,.pointer (some ⟨gt,t*8,none⟩)),(8,.pointer (some ⟨g8,0,none⟩)),(9,.int .i64 ((pc+1:Nat):Int)),(10,.pointer (some ⟨g10,0,none⟩)),(11,.pointer (some ⟨g11,0,none⟩))] a∧Mm A0 wB (⟨some g11,103,[.int .u8 cb.t,.int .u16 cb.v]⟩::⟨some g10,103,[.int .u8 ca.t,.int .u16 ca.v]⟩::⟨some g8,54,[.int .i64 op,.int .i64 (ra:Int),.int .i64 (rb:Int),.int .i64 (rd:Int),.int .i64 (mi:Int)]⟩::⟨some g3,38,[.slice (some ⟨bc,oc,none⟩) p.code.length p.cc,.slice p.sA p.ss.length p.sc,.slice p.dA p.ws.length p.dc]⟩::⟨some gq,103,q.cs⟩::⟨some gt,52,y.tcs⟩::⟨y.bA,3,y.bcs⟩::W) w) ?_ ?_
  ·with_reducible repeat(first|apply gThen|apply wp_seq)
   refine cDrawT (n:=20) (.s [0,1,2,3,4,5,6,7,8,9,10,11,12,13,14,15]<| .e [(16,.o 17<| .o 18<| .o 19<| .d),(17,.o 16<| .o 18<| .o 19<| .d)]) [⟨some g8,54,[.int .i64 op,.int .i64 (ra:Int),.int .i64 (rb:Int),.int .i64 (rd:Int),.int .i64 (mi:Int)]⟩,⟨some gq,103,q.cs⟩,⟨some gt,52,y.tcs⟩] hm rfl rfl ?_
   clear hm;intro t_ w1_ hm
   repeat' (first|(refine dgd799_ ?_;clear t_ hs hm a;intros;rename_i a hm hs t_)|refine tE t_ ?_|refine tC ?_ ?_|exact tN|intro t_|(refine tD t_ ?_;(obtain⟨g10,rfl⟩:=hs.pp 10);(obtain⟨g11,rfl⟩:=hs.pp 11);(first|exact And.intro rfl ⟨g10,g11,(sb_ hs),hm⟩|exact And.intro rfl ⟨g10,g11,(sb_ hs),hm.perm (List.Perm.swap _ _ _)⟩))|fail)
  clear hs hm a
  rintro a w ⟨g10,g11,hs,hm⟩
  refine gsc5af_ ?_;clear hs hm a;intros;rename_i a hm hs
  refine cMidR (fun a w=>∃(m':MeO)(q':ThO)(tcs':List Value)(nx:Nat),m'.ok∧m'.val∧y.m.like m'∧q'.ok∧q'.A=some gq∧ThI q.d q'.d∧Row (some gt) 4 y.tc 8 ((y.ts.set t q').flatMap ThO.v) tcs'∧nx≤255∧(branB op=false→nx=pc+1)∧Sl Tryz.f28.ntmps [(7,.pointer (some ⟨gt,t*8,none⟩)),(8,.pointer (some ⟨g8,0,none⟩)),(9,.int .i64 (nx:Int))] a∧Mm A0 wB (⟨some g8,54,[.int .i64 op,.int .i64 (ra:Int),.int .i64 (rb:Int),.int .i64 (rd:Int),.int .i64 (mi:Int)]⟩::⟨some gq,103,q'.cs⟩::⟨some gt,52,tcs'⟩::⟨y.bA,3,y.bcs⟩::(m'.hps++R)) w) ?_ ?_
  rotate_left
  ·clear hs hm a
   rintro a w ⟨m',q',tcs',nx,i1,i2,i3,i4,i5,i6,i7,i8,i9,hs,hm⟩
   have hcl':=i7.len
   have hle':=i7.le
   have l2':t*8+2<tcs'.length:=by omega
   have l3':t*8+3<(tcs'.set (t*8+2) (.int .i64 (nx:Int))).length:=by rw[List.length_set];omega
   have e3:(tcs'.set (t*8+2) (.int .i64 (nx:Int)))[t*8+3]?=some (.int .i64 q.d.cnt):=by
    rw[List.getElem?_set_ne (by omega)]
    refine i7.get ?_
    rw[flat_get ThO.v 8 ThO.len (y.ts.set t q') t 3 (by rw[List.length_set];exact htk) (by omega),List.getElem_set_self]
    unfold ThO.v
    rw[i6.cnt]
    rfl
   have hcb:=hqv.cnt
   have hbr:=fun w=>bran_c op w
   have r1:=trow_set i7 htk 2 (by omega) (.int .i64 (nx:Int)) (q2:={q' with d:={q'.d with pc:=(nx:Int)}}) rfl
   have r2:=trow_set r1 htk 3 (by omega) (.int .i64 (q.d.cnt+1)) (q2:={q' with d:={q'.d with pc:=(nx:Int),cnt:=q.d.cnt+1}}) rfl
   have hqv':∀k:Int,0≤k∧k≤B+1→ThD.val {q'.d with pc:=(nx:Int),cnt:=k} (B+1):=fun k hk=>⟨i6.st▸hqv.st,i6.n,⟨by dsimp only;omega,by dsimp only;omega⟩,hk,i6.han▸hqv.han,i6.sav,i6.trp▸hqv.trp,i6.cod▸hqv.cod,i6.cv⟩
   generalize hbb:branB op=bb at hbr i9
   cases bb
   ·refine gcSgn0_ ?_;clear hs hm a;intros;rename_i a hm hs
    refine gRet1 hs rfl rfl ⟨y.upd t {q' with d:={q'.d with pc:=(nx:Int)}} _ m',-1,q.d,{q'.d with pc:=(nx:Int)},rfl,MO.upd_ok hy i1 i4 (by rw[hgt,htl];exact r1),MO.upd_val hv (by omega) i2 ?_,MO.upd_vs i3,hqd,MO.upd_th htk,.inl ⟨rfl,by omega,by omega,i6.st,.inr ⟨i6.cnt,?_⟩⟩,MO.upd_mm htk ?_⟩
    ·have:=hqv' q.d.cnt ⟨hcb.1,by omega⟩
     have e:=i6.cnt
     rw[←e]at this
     exact this
    ·have:=i9 rfl
     dsimp only
     omega
    ·rw[hR,hgt]
     show Mm A0 wB (⟨q'.A,103,q'.cs⟩::_) _
     rw[i5]
     exact hm.sub sub_
   ·refine gcSgn0_ ?_;clear hs hm a;intros;rename_i a hm hs
    refine gRet1 hs rfl rfl ⟨y.upd t {q' with d:={q'.d with pc:=(nx:Int),cnt:=q.d.cnt+1}} _ m',-1,q.d,{q'.d with pc:=(nx:Int),cnt:=q.d.cnt+1},rfl,MO.upd_ok hy i1 i4 (by rw[hgt,htl];exact r2),MO.upd_val hv (by omega) i2 (hqv' _ ⟨by omega,by omega⟩),MO.upd_vs i3,hqd,MO.upd_th htk,.inl ⟨rfl,by omega,by omega,i6.st,.inl rfl⟩,MO.upd_mm htk ?_⟩
    rw[hR,hgt]
    show Mm A0 wB (⟨q'.A,103,q'.cs⟩::_) _
    rw[i5]
    exact hm.sub sub_
  have end0:∀(nx:Nat)(a:Act)(w:World),nx≤255→(branB op=false→nx=pc+1)→Sl Tryz.f28.ntmps [(7,.pointer (some ⟨gt,t*8,none⟩)),(8,.pointer (some ⟨g8,0,none⟩)),(9,.int .i64 (nx:Int))] a→Mm A0 wB (⟨some g8,54,[.int .i64 op,.int .i64 (ra:Int),.int .i64 (rb:Int),.int .i64 (rd:Int),.int .i64 (mi:Int)]⟩::⟨some gq,103,q.cs⟩::⟨some gt,52,y.tcs⟩::⟨y.bA,3,y.bcs⟩::W) w→∃(m':MeO)(q':ThO)(tcs':List Value)(nx:Nat),m'.ok∧m'.val∧y.m.like m'∧q'.ok∧q'.A=some gq∧ThI q.d q'.d∧Row (some gt) 4 y.tc 8 ((y.ts.set t q').flatMap ThO.v) tcs'∧nx≤255∧(branB op=false→nx=pc+1)∧Sl Tryz.f28.ntmps [(7,.pointer (some ⟨gt,t*8,none⟩)),(8,.pointer (some ⟨g8,0,none⟩)),(9,.int .i64 (nx:Int))] a∧Mm A0 wB (⟨some g8,54,[.int .i64 op,.int .i64 (ra:Int),.int .i64 (rb:Int),.int .i64 (rd:Int),.int .i64 (mi:Int)]⟩::⟨some gq,103,q'.cs⟩::⟨some gt,52,tcs'⟩::⟨y.bA,3,y.bcs⟩::(m'.hps++R)) w:=
   fun nx a w h1 h2 hs hm=>⟨y.m,q,y.tcs,nx,hy.m,hmv,MeO.like.refl _,hqo,hgq,hqi,hrow,h1,h2,hs,by rw[hW];exact hm⟩
  have endR:∀(c:CV)(nx:Nat)(a:Act)(w:World),c.val→nx≤255→(branB op=false→nx=pc+1)→Sl Tryz.f28.ntmps [(7,.pointer (some ⟨gt,t*8,none⟩)),(8,.pointer (some ⟨g8,0,none⟩)),(9,.int .i64 (nx:Int))] a→Mm A0 wB (⟨some g8,54,[.int .i64 op,.int .i64 (ra:Int),.int .i64 (rb:Int),.int .i64 (rd:Int),.int .i64 (mi:Int)]⟩::⟨some gq,103,q.cs.take (ra*2)++c.cs++q.cs.drop (ra*2+2)⟩::⟨some gt,52,y.tcs⟩::⟨y.bA,3,y.bcs⟩::W) w→∃(m':MeO)(q':ThO)(tcs':List Value)(nx:Nat),m'.ok∧m'.val∧y.m.like m'∧q'.ok∧q'.A=some gq∧ThI q.d q'.d∧Row (some gt) 4 y.tc 8 ((y.ts.set t q').flatMap ThO.v) tcs'∧nx≤255∧(branB op=false→nx=pc+1)∧Sl Tryz.f28.ntmps [(7,.pointer (some ⟨gt,t*8,none⟩)),(8,.pointer (some ⟨g8,0,none⟩)),(9,.int .i64 (nx:Int))] a∧Mm A0 wB (⟨some g8,54,[.int .i64 op,.int .i64 (ra:Int),.int .i64 (rb:Int),.int .i64 (rd:Int),.int .i64 (mi:Int)]⟩::⟨some gq,103,q'.cs⟩::⟨some gt,52,tcs'⟩::⟨y.bA,3,y.bcs⟩::(m'.hps++R)) w:=
   fun c nx a w hc h1 h2 hs hm=>by
    obtain⟨k1,k2,k3⟩:=ThO.reg_ok hqo hqv (r:=ra) (by omega) hc
    exact⟨y.m,q.reg ra c,y.tcs,nx,hy.m,hmv,MeO.like.refl _,k1,hgq,k2,by rw[trow_same htk k3];exact hrow,h1,h2,hs,by rw[hW];exact hm⟩
  have endM:∀(z:MeO)(c:CV)(a:Act)(w:World),c.val→z.ok→z.val→y.m.like z→Sl Tryz.f28.ntmps [(7,.pointer (some ⟨gt,t*8,none⟩)),(8,.pointer (some ⟨g8,0,none⟩)),(9,.int .i64 ((pc+1:Nat):Int))] a→Mm A0 wB (⟨some g8,54,[.int .i64 op,.int .i64 (ra:Int),.int .i64 (rb:Int),.int .i64 (rd:Int),.int .i64 (mi:Int)]⟩::⟨some gq,103,q.cs.take (ra*2)++c.cs++q.cs.drop (ra*2+2)⟩::⟨some gt,52,y.tcs⟩::⟨y.bA,3,y.bcs⟩::(z.hps++R)) w→∃(m':MeO)(q':ThO)(tcs':List Value)(nx:Nat),m'.ok∧m'.val∧y.m.like m'∧q'.ok∧q'.A=some gq∧ThI q.d q'.d∧Row (some gt) 4 y.tc 8 ((y.ts.set t q').flatMap ThO.v) tcs'∧nx≤255∧(branB op=false→nx=pc+1)∧Sl Tryz.f28.ntmps [(7,.pointer (some ⟨gt,t*8,none⟩)),(8,.pointer (some ⟨g8,0,none⟩)),(9,.int .i64 (nx:Int))] a∧Mm A0 wB (⟨some g8,54,[.int .i64 op,.int .i64 (ra:Int),.int .i64 (rb:Int),.int .i64 (rd:Int),.int .i64 (mi:Int)]⟩::⟨some gq,103,q'.cs⟩::⟨some gt,52,tcs'⟩::⟨y.bA,3,y.bcs⟩::(m'.hps++R)) w:=
   fun z c a w hc h1 h2 h3 hs hm=>by
    obtain⟨k1,k2,k3⟩:=ThO.reg_ok hqo hqv (r:=ra) (by omega) hc
    exact⟨z,q.reg ra c,y.tcs,pc+1,h1,h2,h3,k1,hgq,k2,by rw[trow_same htk k3];exact hrow,by omega,fun _=>rfl,hs,hm⟩
  have endN:∀(z:MeO)(a:Act)(w:World),z.ok→z.val→y.m.like z→Sl Tryz.f28.ntmps [(7,.pointer (some ⟨gt,t*8,none⟩)),(8,.pointer (some ⟨g8,0,none⟩)),(9,.int .i64 ((pc+1:Nat):Int))] a→Mm A0 wB (⟨some g8,54,[.int .i64 op,.int .i64 (ra:Int),.int .i64 (rb:Int),.int .i64 (rd:Int),.int .i64 (mi:Int)]⟩::⟨some gq,103,q.cs⟩::⟨some gt,52,y.tcs⟩::⟨y.bA,3,y.bcs⟩::(z.hps++R)) w→∃(m':MeO)(q':ThO)(tcs':List Value)(nx:Nat),m'.ok∧m'.val∧y.m.like m'∧q'.ok∧q'.A=some gq∧ThI q.d q'.d∧Row (some gt) 4 y.tc 8 ((y.ts.set t q').flatMap ThO.v) tcs'∧nx≤255∧(branB op=false→nx=pc+1)∧Sl Tryz.f28.ntmps [(7,.pointer (some ⟨gt,t*8,none⟩)),(8,.pointer (some ⟨g8,0,none⟩)),(9,.int .i64 (nx:Int))] a∧Mm A0 wB (⟨some g8,54,[.int .i64 op,.int .i64 (ra:Int),.int .i64 (rb:Int),.int .i64 (rd:Int),.int .i64 (mi:Int)]⟩::⟨some gq,103,q'.cs⟩::⟨some gt,52,tcs'⟩::⟨y.bA,3,y.bcs⟩::(m'.hps++R)) w:=
   fun z a w h1 h2 h3 hs hm=>⟨z,q,y.tcs,pc+1,h1,h2,h3,hqo,hgq,hqi,hrow,by omega,fun _=>rfl,hs,hm⟩
  by_cases h0:op=0
  ·subst h0
   repeat refine sc_ ?_
   exact end0 (pc+1) _ _ (by omega) (fun _=>rfl) ((sb_ hs)) (hm.sub sub_)
  by_cases h1:op=1
  ·subst h1
   refine gsc5af_ ?_;clear hs hm a;intros;rename_i a hm hs
   refine cDrawT (n:=12) (.s [0,1,2,3,4,5,6,7,8,9,10]<| .o 11<| .x<| .d) [⟨some g8,54,[.int .i64 1,.int .i64 (ra:Int),.int .i64 (rb:Int),.int .i64 (rd:Int),.int .i64 (mi:Int)]⟩,⟨some gt,52,y.tcs⟩] hm rfl rfl ?_
   clear hm;intro t_ w1_ hm
   repeat' (first|(refine dgd799_ ?_;clear t_ hs hm a;intros;rename_i a hm hs t_)|refine tE t_ ?_|refine tC ?_ ?_|exact tN|intro t_|(refine oDoN (i:=11) hs rfl (Wnt.none rfl) rfl (by exact d_store hs rfl rfl rfl tab rfl rfl rfl rfl hm rep_ (putG (by show ra*2+2≤_;omega))) ?_;clear hs;rintro-w1 hm a hs;replace t_:=tX t_;refine⟨(hm.sub sub_),?_⟩)|(refine tD t_ ?_;(refine gThen ?_);(exact endR ⟨0,IntKind.u16.wrap (mi:Int)⟩ (pc+1) _ _ ⟨.inl rfl,u16_bd _⟩ (by omega) (fun _=>rfl) ((sb_ hs)) (hm.sub sub_)))|fail)
  by_cases h2:op=2
  ·subst h2
   refine gsc5af_ ?_;clear hs hm a;intros;rename_i a hm hs
   refine cDrawT (n:=9) (.s [0,1,2,3,4,5,6,7]<| .o 8<| .x<| .d) [⟨some g11,103,[.int .u8 cb.t,.int .u16 cb.v]⟩,⟨some g8,54,[.int .i64 2,.int .i64 (ra:Int),.int .i64 (rb:Int),.int .i64 (rd:Int),.int .i64 (mi:Int)]⟩,⟨some gt,52,y.tcs⟩] hm rfl rfl ?_
   clear hm;intro t_ w1_ hm
   repeat' (first|(refine dgd799_ ?_;clear t_ hs hm a;intros;rename_i a hm hs t_)|refine tE t_ ?_|refine tC ?_ ?_|exact tN|intro t_|(refine oDoN (i:=8) hs rfl (Wnt.none rfl) rfl (by exact d_store hs rfl rfl rfl tab rfl rfl rfl rfl hm rep_ (putG (by show ra*2+2≤_;omega))) ?_;clear hs;rintro-w1 hm a hs;replace t_:=tX t_;refine⟨(hm.sub sub_),?_⟩)|(refine tD t_ ?_;(refine gThen ?_);(exact endR cb (pc+1) _ _ hvb (by omega) (fun _=>rfl) ((sb_ hs)) (hm.sub sub_)))|fail)
  by_cases h18:op=18
  ·subst h18
   have hj:=hju rfl
   refine gsc5af_ ?_;clear hs hm a;intros;rename_i a hm hs
   exact end0 mi _ _ (by omega) (fun h=>by cases h) ((sb_ hs)) (hm.sub sub_)
  by_cases h19:op=19
  ·subst h19
   have hj:=hju rfl
   by_cases hct:ca.t=0
   ·by_cases hcv:ca.v=0
    ·refine gsc5af_ ?_;clear hs hm a;intros;rename_i a hm hs
     first|exact end0 mi _ _ (by omega) (fun h=>by cases h) (hs.sub (Has.all (by exact⟨rfl,rfl,rfl,trivial⟩))) (hm.sub sub_)|exact end0 (pc+1) _ _ (by omega) (fun _=>rfl) (hs.sub (Has.all (by exact⟨rfl,rfl,rfl,trivial⟩))) (hm.sub sub_)
    ·refine gsc5af_ ?_;clear hs hm a;intros;rename_i a hm hs
     first|exact end0 mi _ _ (by omega) (fun h=>by cases h) (hs.sub (Has.all (by exact⟨rfl,rfl,rfl,trivial⟩))) (hm.sub sub_)|exact end0 (pc+1) _ _ (by omega) (fun _=>rfl) (hs.sub (Has.all (by exact⟨rfl,rfl,rfl,trivial⟩))) (hm.sub sub_)
   ·refine gsc5af_ ?_;clear hs hm a;intros;rename_i a hm hs
    refine st hs rfl rfl rfl (d_call hs rfl rfl rfl (pl 42 rfl) ((trap_c gt t y.tcs 3 _ (hm.me _ mem_) (by omega)))) ?_;clear hs a;rintro _ w1 ⟨rfl,hk⟩ a hs
    replace hm:=hm.into hk rfl rep_
    clear hk
    refine gsc5af_ ?_;clear hs hm a;intros;rename_i a hm hs
    exact gRet1 hs rfl rfl (htr 3 _ (by omega) (hm.sub sub_))
  by_cases h20:op=20
  ·subst h20
   have hj:=hju rfl
   by_cases hct:ca.t=0
   ·by_cases hcv:ca.v=0
    ·refine gsc5af_ ?_;clear hs hm a;intros;rename_i a hm hs
     first|exact end0 mi _ _ (by omega) (fun h=>by cases h) (hs.sub (Has.all (by exact⟨rfl,rfl,rfl,trivial⟩))) (hm.sub sub_)|exact end0 (pc+1) _ _ (by omega) (fun _=>rfl) (hs.sub (Has.all (by exact⟨rfl,rfl,rfl,trivial⟩))) (hm.sub sub_)
    ·refine gsc5af_ ?_;clear hs hm a;intros;rename_i a hm hs
     first|exact end0 mi _ _ (by omega) (fun h=>by cases h) (hs.sub (Has.all (by exact⟨rfl,rfl,rfl,trivial⟩))) (hm.sub sub_)|exact end0 (pc+1) _ _ (by omega) (fun _=>rfl) (hs.sub (Has.all (by exact⟨rfl,rfl,rfl,trivial⟩))) (hm.sub sub_)
   ·refine gsc5af_ ?_;clear hs hm a;intros;rename_i a hm hs
    refine st hs rfl rfl rfl (d_call hs rfl rfl rfl (pl 42 rfl) ((trap_c gt t y.tcs 3 _ (hm.me _ mem_) (by omega)))) ?_;clear hs a;rintro _ w1 ⟨rfl,hk⟩ a hs
    replace hm:=hm.into hk rfl rep_
    clear hk
    refine gsc5af_ ?_;clear hs hm a;intros;rename_i a hm hs
    exact gRet1 hs rfl rfl (htr 3 _ (by omega) (hm.sub sub_))
  by_cases h21:op=21
  ·subst h21
   have hj:=hju rfl
   refine gsc5af_ ?_;clear hs hm a;intros;rename_i a hm hs
   refine cDrawT (n:=11) (.s [0,1,2,3,4,5,6,7,8,9]<| .o 10<| .x<| .d) [⟨some g8,54,[.int .i64 21,.int .i64 (ra:Int),.int .i64 (rb:Int),.int .i64 (rd:Int),.int .i64 (mi:Int)]⟩,⟨some gt,52,y.tcs⟩] hm rfl rfl ?_
   clear hm;intro t_ w1_ hm
   repeat' (first|(refine dgd799_ ?_;clear t_ hs hm a;intros;rename_i a hm hs t_)|refine tE t_ ?_|refine tC ?_ ?_|exact tN|intro t_|(refine oDoN (i:=10) hs rfl (Wnt.none rfl) rfl (by exact d_store hs rfl rfl rfl tab rfl rfl rfl rfl hm rep_ (putG (by show ra*2+2≤_;omega))) ?_;clear hs;rintro-w1 hm a hs;replace t_:=tX t_;refine⟨(hm.sub sub_),?_⟩)|(refine tD t_ ?_;(refine gsc5af_ ?_;clear hs hm a;intros;rename_i a hm hs);(exact endR ⟨0,IntKind.u16.wrap ((pc+1:Nat):Int)⟩ mi _ _ ⟨.inl rfl,u16_bd _⟩ (by omega) (fun h=>by cases h) ((sb_ hs)) (hm.sub sub_)))|fail)
  by_cases h22:op=22
  ·subst h22
   by_cases hct:ca.t=0
   ·by_cases hcv:255<ca.v
    ·refine gsc5af_ ?_;clear hs hm a;intros;rename_i a hm hs
     refine st hs rfl rfl rfl (d_call hs rfl rfl rfl (pl 42 rfl) ((trap_c gt t y.tcs 2 _ (hm.me _ mem_) (by omega)))) ?_;clear hs a;rintro _ w1 ⟨rfl,hk⟩ a hs
     replace hm:=hm.into hk rfl rep_
     clear hk
     refine gsc5af_ ?_;clear hs hm a;intros;rename_i a hm hs
     exact gRet1 hs rfl rfl (htr 2 _ (by omega) (hm.sub sub_))
    ·refine gsc5af_ ?_;clear hs hm a;intros;rename_i a hm hs
     have hcw:IntKind.i64.wrap ca.v=((ca.v.toNat:Nat):Int):=by
      have:=hva.2
      rw[wrap_idP (by omega)]
      omega
     rw[hcw]at hs
     exact end0 ca.v.toNat _ _ (by omega) (fun h=>by cases h) ((sb_ hs)) (hm.sub sub_)
   ·refine gsc5af_ ?_;clear hs hm a;intros;rename_i a hm hs
    refine st hs rfl rfl rfl (d_call hs rfl rfl rfl (pl 42 rfl) ((trap_c gt t y.tcs 3 _ (hm.me _ mem_) (by omega)))) ?_;clear hs a;rintro _ w1 ⟨rfl,hk⟩ a hs
    replace hm:=hm.into hk rfl rep_
    clear hk
    refine gsc5af_ ?_;clear hs hm a;intros;rename_i a hm hs
    exact gRet1 hs rfl rfl (htr 3 _ (by omega) (hm.sub sub_))
  by_cases h24:op=24
  ·subst h24
   by_cases hsv:q.d.sav=-1
   ·refine gsc5af_ ?_;clear hs hm a;intros;rename_i a hm hs
    refine st hs rfl rfl rfl (d_call hs rfl rfl rfl (pl 42 rfl) ((trap_c gt t y.tcs 1 _ (hm.me _ mem_) (by omega)))) ?_;clear hs a;rintro _ w1 ⟨rfl,hk⟩ a hs
    replace hm:=hm.into hk rfl rep_
    clear hk
    refine gsc5af_ ?_;clear hs hm a;intros;rename_i a hm hs
    exact gRet1 hs rfl rfl (htr 1 _ (by omega) (hm.sub sub_))
   ·obtain⟨sv,hsv2⟩:∃sv:Nat,q.d.sav=(sv:Int):=⟨q.d.sav.toNat,by have:=hqv.sav;omega⟩
    have hsb:=hqv.sav
    rw[hsv2]at e5
    have l5:t*8+5<y.tcs.length:=by omega
    refine gsc5af_ ?_;clear hs hm a;intros;rename_i a hm hs
    have r1:=trow_set hrow htk 5 (by omega) (.int .i64 (-1)) (q2:={q with d:={q.d with sav:=-1}}) rfl
    exact⟨y.m,{q with d:={q.d with sav:=-1}},_,sv,hy.m,hmv,MeO.like.refl _,hqo,hgq,⟨rfl,rfl,rfl,rfl,rfl,rfl,hqv.n,hqv.cv,⟨by dsimp only;omega,by dsimp only;omega⟩⟩,r1,by omega,fun h=>(by cases h),(sb_ hs),by rw[hW];exact hm.sub sub_⟩
  by_cases h23:op=23
  ·subst h23
   have l0:t*8+0<y.tcs.length:=by omega
   have l2b:t*8+2<(y.tcs.set (t*8+0) (.int .i64 2)).length:=by rw[List.length_set];omega
   refine gsc5af_ ?_;clear hs hm a;intros;rename_i a hm hs
   have r1:=trow_set hrow htk 0 (by omega) (.int .i64 2) (q2:={q with d:={q.d with st:=2}}) rfl
   have r2:=trow_set r1 htk 2 (by omega) (.int .i64 ((pc+1:Nat):Int)) (q2:={q with d:={q.d with st:=2,pc:=((pc+1:Nat):Int)}}) rfl
   refine gRet1 hs rfl rfl ⟨y.upd t {q with d:={q.d with st:=2,pc:=((pc+1:Nat):Int)}} _ y.m,1,q.d,{q.d with st:=2,pc:=((pc+1:Nat):Int)},rfl,MO.upd_ok hy hy.m hqo (by rw[hgt,htl];exact r2),MO.upd_val hv (by omega) hmv ⟨⟨by dsimp only;omega,by dsimp only;omega⟩,hqv.n,⟨by dsimp only;omega,by dsimp only;omega⟩,⟨hqv.cnt.1,by have:=hqv.cnt.2;dsimp only;omega⟩,hqv.han,hqv.sav,hqv.trp,hqv.cod,hqv.cv⟩,MO.upd_vs (MeO.like.refl _),hqd,MO.upd_th htk,.inr (.inl ⟨rfl,by omega,by omega,by dsimp only;omega,_,by rw[hpc,Int.toNat_natCast];exact hci,rfl⟩),MO.upd_mm htk ?_⟩
   rw[hR,hW,hgt]
   show Mm A0 wB (⟨q.A,103,q.cs⟩::_) _
   rw[hgq]
   exact hm.sub sub_
  have hgp:LGap y.bs p.ss:=hv.gap
  have hbl:y.bs.length=p.ss.length:=hgp.len
  have hsz:=hpv.sz
  have hrb:=hy.b
  obtain⟨gb,hgb⟩:=hrb.some_ (by have:=hsz.one;omega)
  rw[hgb]at hrb
  have hbe:=hrb.le
  by_cases h15:op=15
  ·subst h15
   have hl:=hlea rfl
   have eb:y.bcs[mi]?=some (.int .i64 (y.bs[mi]'(by omega))):=hrb.get (ints_some (by omega))
   generalize y.bs[mi]'(_)=bm at eb
   rw[hgb]at hm hh1
   refine gsc5af_ ?_;clear hs hm a;intros;rename_i a hm hs
   refine cDrawT (n:=19) (.s [0,1,2,3,4,5,6,7,8,9,10,11,12,13,14,15,16,17]<| .o 18<| .x<| .d) [⟨some g8,54,[.int .i64 15,.int .i64 (ra:Int),.int .i64 (rb:Int),.int .i64 (rd:Int),.int .i64 (mi:Int)]⟩,⟨some gt,52,y.tcs⟩,⟨some gb,3,y.bcs⟩] hm rfl rfl ?_
   clear hm;intro t_ w1_ hm
   repeat' (first|(refine dgd799_ ?_;clear t_ hs hm a;intros;rename_i a hm hs t_)|refine tE t_ ?_|refine tC ?_ ?_|exact tN|intro t_|(refine oDoN (i:=18) hs rfl (Wnt.none rfl) rfl (by exact d_store hs rfl rfl rfl tab rfl rfl rfl rfl hm rep_ (putG (by show ra*2+2≤_;omega))) ?_;clear hs;rintro-w1 hm a hs;replace t_:=tX t_;refine⟨(hm.sub sub_),?_⟩)|(refine tD t_ ?_;(refine gThen ?_);(rw[←hgb]at hm);(exact endR ⟨1,IntKind.u16.wrap bm⟩ (pc+1) _ _ ⟨.inr (.inl rfl),u16_bd _⟩ (by omega) (fun _=>rfl) ((sb_ hs)) (hm.sub sub_)))|fail)
  obtain⟨X,hX⟩:∃X:LS,X=⟨y.bA.map fun g=>⟨g,0,none⟩,p.ss.length,y.bc,y.bs,y.key,p.sA,p.sc,p.ss⟩:=⟨_,rfl⟩
  have hXg:LGap X.bs X.ss:=by rw[hX];exact hgp
  have lsok:∀(w:World)(M:List Hp),Mm A0 wB M w→(⟨y.bA,3,y.bcs⟩:Hp)∈M→X.ok w:=fun w M hm hM=>by
   have h1:=hm.rd_row hM (by rw[hgb];exact hrb)
   rw[hX]
   refine⟨hbl,rfl,h1,(hm.fr.rd hp.s hN hnA).more (Nat.le_trans hN hm.fr.size),fun z hz=>?_,hsz.bd,hsz.four⟩
   replace hz:z∈y.bs:=hz
   obtain⟨k,hk,rfl⟩:=List.mem_iff_getElem.1 hz
   have h2:=hgp.b k hk
   have h3:=hsz.bd _ (List.getElem_mem (show k<p.ss.length by omega))
   rw[getI hk,getI (l:=p.ss) (k:=k) (by omega)]at h2
   omega
  have hXl:X.l= .agg #[slv y.bA y.bs.length y.bc,.int .u16 y.key]:=by rw[hX,hbl];rfl
  have hXs:X.s= .slice p.sA p.ss.length p.sc:=by rw[hX];rfl
  have hhL:Ro wB gm 0 [slv y.bA y.bs.length y.bc,.int .u16 y.key]:=fun j v hj=>hh1 j v (by
   have:=(List.getElem?_eq_some_iff.1 hj).1
   rcases(by simp at this;omega:j=0∨j=1)with rfl|rfl<;>exact hj)
  have hhM:Ro wB gm (0+2) [slv y.m.cA y.m.xs.length y.m.cc,slv y.m.lA y.m.ls.length y.m.lc]:=Ro.sub (d:=2) hh1 (fun j v hj=>by
   have:=(List.getElem?_eq_some_iff.1 hj).1
   rcases(by simp at this;omega:j=0∨j=1)with rfl|rfl<;>exact hj)
  clear hh1 hh
  have hhM2:∀_:Unit,Ro wB gm (0+2) [slv y.m.cA y.m.xs.length y.m.cc,slv y.m.lA y.m.ls.length y.m.lc]:=fun _=>hhM
  clear hhM
  have hgm2:¬own y.m.hps gm:=fun⟨x,hx,e⟩=>hng ⟨x,List.mem_cons_of_mem _ (List.mem_cons_of_mem _ (List.mem_append_left _ hx)),e⟩
  by_cases h16:op=16
  ·subst h16
   refine gsc5af_ ?_;clear hs hm a;intros;rename_i a hm hs
   obtain⟨g12,rfl⟩:=hs.pp 12
   refine cMid (fun a w=>∃g13:Nat,Sl Tryz.f28.ntmps [(1,.pointer (some ⟨gm,0,none⟩)),(3,.pointer (some ⟨g3,0,none⟩)),(7,.pointer (some ⟨gt,t*8,none⟩)),(8,.pointer (some ⟨g8,0,none⟩)),(9,.int .i64 ((pc+1:Nat):Int)),(10,.pointer (some ⟨g10,0,none⟩)),(11,.pointer (some ⟨g11,0,none⟩)),(12,.pointer (some ⟨g12,0,none⟩)),(13,.pointer (some ⟨g13,0,none⟩)),(14,.int .i64 (movF X cb.t cb.v (IntKind.u16.wrap (mi:Int)) false).2)] a∧Mm A0 wB (⟨some g13,103,[.int .u8 (movF X cb.t cb.v (IntKind.u16.wrap (mi:Int)) false).1.1,.int .u16 (movF X cb.t cb.v (IntKind.u16.wrap (mi:Int)) false).1.2]⟩::⟨some g12,103,[.int .u8 cb.t,.int .u16 cb.v]⟩::⟨some g11,103,[.int .u8 cb.t,.int .u16 cb.v]⟩::⟨some g10,103,[.int .u8 ca.t,.int .u16 ca.v]⟩::⟨some g8,54,[.int .i64 16,.int .i64 (ra:Int),.int .i64 (rb:Int),.int .i64 (rd:Int),.int .i64 (mi:Int)]⟩::⟨some g3,38,[.slice (some ⟨bc,oc,none⟩) p.code.length p.cc,.slice p.sA p.ss.length p.sc,.slice p.dA p.ws.length p.dc]⟩::⟨some gq,103,q.cs⟩::⟨some gt,52,y.tcs⟩::⟨y.bA,3,y.bcs⟩::W) w) ?_ ?_
   ·with_reducible repeat(first|apply gThen|apply wp_seq)
    refine cDrawT (n:=17) (.s [0,1,2,3,4,5,6,7,8,9]<| .e [(10,.x<| .s [11,12,13]<| .o 14<| .o 15<| .t 16<| .d),(14,.o 10<| .x<| .s [11,12,13]<| .o 15<| .t 16<| .d)]) [⟨some g12,103,[.int .u8 cb.t,.int .u16 cb.v]⟩,⟨some g8,54,[.int .i64 16,.int .i64 (ra:Int),.int .i64 (rb:Int),.int .i64 (rd:Int),.int .i64 (mi:Int)]⟩,⟨some g3,38,[.slice (some ⟨bc,oc,none⟩) p.code.length p.cc,.slice p.sA p.ss.length p.sc,.slice p.dA p.ws.length p.dc]⟩] hm rfl rfl ?_
    clear hm;intro t_ w1_ hm
    repeat' (first|(refine dgd799_ ?_;clear t_ hs hm a;intros;rename_i a hm hs t_)|refine tE t_ ?_|refine tC ?_ ?_|exact tN|intro t_|(refine oDo (i:=10) hs rfl (Wnt.none rfl) rfl rfl (by exact d_call hs rfl rfl rfl (pl 43 rfl) ((by have h:=rmov_c X cb.t cb.v (IntKind.u16.wrap (mi:Int)) false _ (lsok _ _ hm mem_) hvb.2 (u16_bd _);rw[hXl,hXs]at h;exact h))) ?_;clear hs;rintro _ w1 ⟨rfl,hf⟩ a hs;(replace hm:=hm.pu hf);(clear hf);(unfold clV at hs);replace t_:=tX t_;refine⟨(hm.sub sub_),?_⟩)|(refine tD t_ ?_;(obtain⟨g13,rfl⟩:=hs.pp 13);(exact And.intro rfl ⟨g13,(sb_ hs),hm⟩))|fail)
   clear hs hm a
   rintro a w ⟨g13,hs,hm⟩
   obtain⟨hmo1,hmo2,hmo3⟩:=movF_ok hXg cb.t cb.v (IntKind.u16.wrap (mi:Int)) false
   generalize movF X cb.t cb.v (IntKind.u16.wrap (mi:Int)) false=mr at*
   obtain⟨⟨rt,rv⟩,e⟩:=mr
   dsimp only at hmo1 hmo2 hmo3 hs hm
   by_cases he:e=0
   ·subst he
    obtain⟨ad,had,rfl⟩:=hmo3 rfl
    have hwr:IntKind.i64.wrap (ad:Int)=(ad:Int):=wrap_idP (by omega)
    refine gsc5af_ ?_;clear hs hm a;intros;rename_i a hm hs
    rw[←hW]at hm
    refine cDrawT (n:=15) (.s [0,1,2,3,4,5,6,7,8,9,10,11]<| .o 12<| .x<| .t 13<| .o 14<| .x<| .d) [⟨some g13,103,[.int .u8 rt,.int .u16 (ad:Int)]⟩,⟨some g8,54,[.int .i64 16,.int .i64 (ra:Int),.int .i64 (rb:Int),.int .i64 (rd:Int),.int .i64 (mi:Int)]⟩,⟨some gt,52,y.tcs⟩] hm rfl rfl ?_
    clear hm;intro t_ w1_ hm
    repeat' (first|(refine dgd799_ ?_;clear t_ hs hm a;intros;rename_i a hm hs t_)|refine tE t_ ?_|refine tC ?_ ?_|exact tN|intro t_|(refine oDo (i:=12) hs rfl (Wnt.none rfl) rfl rfl (by exact d_call hs rfl rfl rfl (pl 44 rfl) ((by rw[hwr];exact load_c gm (0+2) y.m ad _ hm.part9 hy.m hmv ((hhM2 ()).ro hm hngA) hgm2 had))) ?_;clear hs;rintro _ w1 ⟨z,c,rfl,hcv,hzo,hzv,hzl,hk⟩ a hs;(replace hm:=hm.swap9 hk);(clear hk);replace t_:=tX t_;refine⟨(hm.sub sub_),?_⟩)|(refine oDoN (i:=14) hs rfl (Wnt.none rfl) rfl (by exact d_store hs rfl rfl rfl tab rfl rfl rfl rfl hm rep_ (putG (by show ra*2+2≤_;omega))) ?_;clear hs;rintro-w1 hm a hs;replace t_:=tX t_;refine⟨(hm.sub sub_),?_⟩)|(refine tD t_ ?_;(refine gThen ?_);(exact endM z c _ _ hcv hzo hzv hzl ((sb_ hs)) (hm.sub sub_)))|fail)
   ·refine gsc5af_ ?_;clear hs hm a;intros;rename_i a hm hs
    refine st hs rfl rfl rfl (d_call hs rfl rfl rfl (pl 42 rfl) ((trap_c gt t y.tcs e _ (hm.me _ mem_) (by omega)))) ?_;clear hs a;rintro _ w1 ⟨rfl,hk⟩ a hs
    replace hm:=hm.into hk rfl rep_
    clear hk
    refine gsc5af_ ?_;clear hs hm a;intros;rename_i a hm hs
    exact gRet1 hs rfl rfl (htr e _ (by omega) (hm.sub sub_))
  by_cases h17:op=17
  ·subst h17
   refine gsc5af_ ?_;clear hs hm a;intros;rename_i a hm hs
   obtain⟨g12,rfl⟩:=hs.pp 12
   refine cMid (fun a w=>∃g13:Nat,Sl Tryz.f28.ntmps [(1,.pointer (some ⟨gm,0,none⟩)),(3,.pointer (some ⟨g3,0,none⟩)),(7,.pointer (some ⟨gt,t*8,none⟩)),(8,.pointer (some ⟨g8,0,none⟩)),(9,.int .i64 ((pc+1:Nat):Int)),(10,.pointer (some ⟨g10,0,none⟩)),(11,.pointer (some ⟨g11,0,none⟩)),(12,.pointer (some ⟨g12,0,none⟩)),(13,.pointer (some ⟨g13,0,none⟩)),(14,.int .i64 (movF X ca.t ca.v (IntKind.u16.wrap (mi:Int)) false).2)] a∧Mm A0 wB (⟨some g13,103,[.int .u8 (movF X ca.t ca.v (IntKind.u16.wrap (mi:Int)) false).1.1,.int .u16 (movF X ca.t ca.v (IntKind.u16.wrap (mi:Int)) false).1.2]⟩::⟨some g12,103,[.int .u8 ca.t,.int .u16 ca.v]⟩::⟨some g11,103,[.int .u8 cb.t,.int .u16 cb.v]⟩::⟨some g10,103,[.int .u8 ca.t,.int .u16 ca.v]⟩::⟨some g8,54,[.int .i64 17,.int .i64 (ra:Int),.int .i64 (rb:Int),.int .i64 (rd:Int),.int .i64 (mi:Int)]⟩::⟨some g3,38,[.slice (some ⟨bc,oc,none⟩) p.code.length p.cc,.slice p.sA p.ss.length p.sc,.slice p.dA p.ws.length p.dc]⟩::⟨some gq,103,q.cs⟩::⟨some gt,52,y.tcs⟩::⟨y.bA,3,y.bcs⟩::W) w) ?_ ?_
   ·with_reducible repeat(first|apply gThen|apply wp_seq)
    refine cDrawT (n:=17) (.s [0,1,2,3,4,5,6,7,8,9]<| .e [(10,.x<| .s [11,12,13]<| .o 14<| .o 15<| .t 16<| .d),(14,.o 10<| .x<| .s [11,12,13]<| .o 15<| .t 16<| .d)]) [⟨some g12,103,[.int .u8 ca.t,.int .u16 ca.v]⟩,⟨some g8,54,[.int .i64 17,.int .i64 (ra:Int),.int .i64 (rb:Int),.int .i64 (rd:Int),.int .i64 (mi:Int)]⟩,⟨some g3,38,[.slice (some ⟨bc,oc,none⟩) p.code.length p.cc,.slice p.sA p.ss.length p.sc,.slice p.dA p.ws.length p.dc]⟩] hm rfl rfl ?_
    clear hm;intro t_ w1_ hm
    repeat' (first|(refine dgd799_ ?_;clear t_ hs hm a;intros;rename_i a hm hs t_)|refine tE t_ ?_|refine tC ?_ ?_|exact tN|intro t_|(refine oDo (i:=10) hs rfl (Wnt.none rfl) rfl rfl (by exact d_call hs rfl rfl rfl (pl 43 rfl) ((by have h:=rmov_c X ca.t ca.v (IntKind.u16.wrap (mi:Int)) false _ (lsok _ _ hm mem_) hva.2 (u16_bd _);rw[hXl,hXs]at h;exact h))) ?_;clear hs;rintro _ w1 ⟨rfl,hf⟩ a hs;(replace hm:=hm.pu hf);(clear hf);(unfold clV at hs);replace t_:=tX t_;refine⟨(hm.sub sub_),?_⟩)|(refine tD t_ ?_;(obtain⟨g13,rfl⟩:=hs.pp 13);(exact And.intro rfl ⟨g13,(sb_ hs),hm⟩))|fail)
   clear hs hm a
   rintro a w ⟨g13,hs,hm⟩
   obtain⟨hmo1,hmo2,hmo3⟩:=movF_ok hXg ca.t ca.v (IntKind.u16.wrap (mi:Int)) false
   generalize movF X ca.t ca.v (IntKind.u16.wrap (mi:Int)) false=mr at*
   obtain⟨⟨rt,rv⟩,e⟩:=mr
   dsimp only at hmo1 hmo2 hmo3 hs hm
   by_cases he:e=0
   ·subst he
    obtain⟨ad,had,rfl⟩:=hmo3 rfl
    have hwr:IntKind.i64.wrap (ad:Int)=(ad:Int):=wrap_idP (by omega)
    refine gsc5af_ ?_;clear hs hm a;intros;rename_i a hm hs
    rw[←hW]at hm
    refine cDrawT (n:=8) (.s [0,1,2,3,4,5,6]<| .o 7<| .x<| .d) [⟨some g13,103,[.int .u8 rt,.int .u16 (ad:Int)]⟩,⟨some g11,103,[.int .u8 cb.t,.int .u16 cb.v]⟩] hm rfl rfl ?_
    clear hm;intro t_ w1_ hm
    repeat' (first|(refine dgd799_ ?_;clear t_ hs hm a;intros;rename_i a hm hs t_)|refine tE t_ ?_|refine tC ?_ ?_|exact tN|intro t_|(refine oDo (i:=7) hs rfl (Wnt.none rfl) rfl rfl (by exact d_call hs rfl rfl rfl (pl 45 rfl) ((by rw[hwr];exact store_c gm (0+2) y.m ad cb _ hm.part9 hy.m hmv ((hhM2 ()).ro hm hngA) hgm2 had hvb))) ?_;clear hs;rintro _ w1 ⟨z,hzo,hzv,hzl,hk⟩ a hs;(replace hm:=hm.swap9 hk);(clear hk);replace t_:=tX t_;refine⟨(hm.sub sub_),?_⟩)|(refine tD t_ ?_;(refine gThen ?_);(exact endN z _ _ hzo hzv hzl ((sb_ hs)) (hm.sub sub_)))|fail)
   ·refine gsc5af_ ?_;clear hs hm a;intros;rename_i a hm hs
    refine st hs rfl rfl rfl (d_call hs rfl rfl rfl (pl 42 rfl) ((trap_c gt t y.tcs e _ (hm.me _ mem_) (by omega)))) ?_;clear hs a;rintro _ w1 ⟨rfl,hk⟩ a hs
    replace hm:=hm.into hk rfl rep_
    clear hk
    refine gsc5af_ ?_;clear hs hm a;intros;rename_i a hm hs
    exact gRet1 hs rfl rfl (htr e _ (by omega) (hm.sub sub_))
  have hop2:3≤op∧op≤14:=by omega
  refine gsc5af_ ?_;clear hs hm a;intros;rename_i a hm hs
  refine cMid (fun a w=>∃g15:Nat,Sl Tryz.f28.ntmps [(7,.pointer (some ⟨gt,t*8,none⟩)),(8,.pointer (some ⟨g8,0,none⟩)),(9,.int .i64 ((pc+1:Nat):Int)),(15,.pointer (some ⟨g15,0,none⟩)),(16,.int .i64 (doF X op cb.t cb.v cd.t cd.v).2)] a∧Mm A0 wB (⟨some g15,103,[.int .u8 (doF X op cb.t cb.v cd.t cd.v).1.1,.int .u16 (doF X op cb.t cb.v cd.t cd.v).1.2]⟩::⟨some g8,54,[.int .i64 op,.int .i64 (ra:Int),.int .i64 (rb:Int),.int .i64 (rd:Int),.int .i64 (mi:Int)]⟩::⟨some gq,103,q.cs⟩::⟨some gt,52,y.tcs⟩::⟨y.bA,3,y.bcs⟩::W) w) ?_ ?_
  ·with_reducible repeat(first|apply gThen|apply wp_seq)
   refine cDrawT (n:=24) (.s [0,1,2,3,4,5,6,7,8,9,10,11,12,13,14,15,16]<| .e [(17,.x<| .s [18,19,20]<| .o 21<| .o 22<| .t 23<| .d),(21,.o 17<| .x<| .s [18,19,20]<| .o 22<| .t 23<| .d)]) [⟨some g11,103,[.int .u8 cb.t,.int .u16 cb.v]⟩,⟨some g8,54,[.int .i64 op,.int .i64 (ra:Int),.int .i64 (rb:Int),.int .i64 (rd:Int),.int .i64 (mi:Int)]⟩,⟨some g3,38,[.slice (some ⟨bc,oc,none⟩) p.code.length p.cc,.slice p.sA p.ss.length p.sc,.slice p.dA p.ws.length p.dc]⟩,⟨some gq,103,q.cs⟩,⟨some gt,52,y.tcs⟩] hm rfl rfl ?_
   clear hm;intro t_ w1_ hm
   repeat' (first|(refine dgd799_ ?_;clear t_ hs hm a;intros;rename_i a hm hs t_)|refine tE t_ ?_|refine tC ?_ ?_|exact tN|intro t_|(refine oDo (i:=17) hs rfl (Wnt.none rfl) rfl rfl (by exact d_call hs rfl rfl rfl (pl 46 rfl) ((by have h:=rdo_c X op cb.t cb.v cd.t cd.v _ (lsok _ _ hm mem_) hvb.1 hvd.1 hvb.2 hvd.2;rw[hXl,hXs]at h;exact h))) ?_;clear hs;rintro _ w1 ⟨rfl,hf⟩ a hs;(replace hm:=hm.pu hf);(clear hf);(unfold dV clV at hs);replace t_:=tX t_;refine⟨(hm.sub sub_),?_⟩)|(refine tD t_ ?_;(obtain⟨g15,rfl⟩:=hs.pp 15);(exact And.intro rfl ⟨g15,(sb_ hs),hm.sub sub_⟩))|fail)
  clear hs hm a
  rintro a w ⟨g15,hs,hm⟩
  have hdo:=doF_ok hXg (op:=op) (t:=cb.t) (s:=cd.t) hvb.2 hvd.2
  generalize doF X op cb.t cb.v cd.t cd.v=dr at*
  obtain⟨⟨rt,rv⟩,e⟩:=dr
  dsimp only at hdo hs hm
  by_cases he:e=0
  ·subst he
   refine gsc5af_ ?_;clear hs hm a;intros;rename_i a hm hs
   refine cDrawT (n:=9) (.s [0,1,2,3,4,5,6,7]<| .o 8<| .x<| .d) [⟨some g15,103,[.int .u8 rt,.int .u16 rv]⟩,⟨some g8,54,[.int .i64 op,.int .i64 (ra:Int),.int .i64 (rb:Int),.int .i64 (rd:Int),.int .i64 (mi:Int)]⟩,⟨some gt,52,y.tcs⟩] hm rfl rfl ?_
   clear hm;intro t_ w1_ hm
   repeat' (first|(refine dgd799_ ?_;clear t_ hs hm a;intros;rename_i a hm hs t_)|refine tE t_ ?_|refine tC ?_ ?_|exact tN|intro t_|(refine oDoN (i:=8) hs rfl (Wnt.none rfl) rfl (by exact d_store hs rfl rfl rfl tab rfl rfl rfl rfl hm rep_ (putG (by show ra*2+2≤_;omega))) ?_;clear hs;rintro-w1 hm a hs;replace t_:=tX t_;refine⟨(hm.sub sub_),?_⟩)|(refine tD t_ ?_;(refine gThen ?_);(exact endR ⟨rt,rv⟩ (pc+1) _ _ hdo.1 (by omega) (fun _=>rfl) ((sb_ hs)) (hm.sub sub_)))|fail)
  ·refine gsc5af_ ?_;clear hs hm a;intros;rename_i a hm hs
   refine st hs rfl rfl rfl (d_call hs rfl rfl rfl (pl 42 rfl) ((trap_c gt t y.tcs e _ (hm.me _ mem_) (by omega)))) ?_;clear hs a;rintro _ w1 ⟨rfl,hk⟩ a hs
   replace hm:=hm.into hk rfl rep_
   clear hk
   refine gsc5af_ ?_;clear hs hm a;intros;rename_i a hm hs
   exact gRet1 hs rfl rfl (htr e _ (by omega) (hm.sub sub_))
 ·refine gq20dc_ ?_;clear hs hm a;intros;rename_i a hm hs
  refine st hs rfl rfl rfl (d_call hs rfl rfl rfl (pl 42 rfl) ((trap_c gt t y.tcs 2 _ (hm.me _ mem_) (by omega)))) ?_;clear hs a;rintro _ w1 ⟨rfl,hk⟩ a hs
  replace hm:=hm.into hk rfl rep_
  clear hk
  refine gsc5af_ ?_;clear hs hm a;intros;rename_i a hm hs
  exact gRet1 hs rfl rfl (htr 2 _ (by omega) (hm.sub sub_))
structure CqX where
 rs:List RW
 qA:Option Nat
 qc:Nat
 qcs:List Value
theorem rows_snoc(rs:List RW)(r:RW):rs.map RW.v++[r.v]=(rs++[r]).map RW.v:=by simp
theorem cpy_c(x:KS)(wB:World)(hx:x.ok wB)(hsm:x.sm):Ret Tryz.prog 122 [x.v] wB (fun u w'=>∃y:KO,u=y.v∧y.ok∧y.ab=x.ab∧y.rs.length=x.qs.length∧New wB w' y.hps∧Pu wB w'):=by
 have hon:=hx.o.1
 have hq1:=hsm.q
 have ho1:=hsm.o
 unfold KS.v IS.v at*
 refine enterR Tryz.func122 rfl rfl rfl fun a hs hm=>?_
 refine gs5eea_ ?_;clear hs hm a;intros;rename_i a hm hs
 obtain⟨g1,rfl⟩:=hs.pp 1
 obtain⟨g2,rfl⟩:=hs.pp 2
 refine dv hs (Wnt.none rfl) rfl rfl (d_appendS (A:=none) (n:=0) (c:=0) (xs:=[]) (news:=ints x.o.xs) hs rfl rfl rfl rfl tab rfl rfl rfl rfl rfl (hm.zero 3) mem_ (Row.empty 1) (by rw[ints_len,hon];exact(Nat.mul_one _).symm) (hm.fr.rd' hx.o.2) (ints_one _) (by show(0+x.o.n)*8≤_;omega) (by omega)) ?_
 clear hs
 rintro _ w2 ⟨oA,oc,ocs,rfl,hor,hM⟩ a hs
 replace hm:=hM _ rep_
 clear hM
 rw[Nat.zero_add,List.nil_append]at hor
 rw[Nat.zero_add]at hs
 refine gs5eea_ ?_;clear hs hm a;intros;rename_i a hm hs
 obtain⟨g3,rfl⟩:=hs.pp 3
 replace hm:=(hm.zero 22).sel (M':=[⟨some g3,84,[slv oA x.o.n oc,nS]⟩,⟨none,22,[]⟩,⟨oA,3,ocs⟩,⟨some g2,84,[nS,nS]⟩,⟨some g1,84,[.slice x.o.A x.o.n x.o.c,.slice x.qA x.qs.length x.qc]⟩]) [1,0,2,3,4] (by decide) rfl
 refine cLoop (X:=CqX) (fun X a w'=>X.rs.length≤x.qs.length∧Sl Tryz.f122.ntmps [(2,pt g2),(3,pt g3),(11,.slice x.qA x.qs.length x.qc),(12,.int .i64 (x.qs.length:Int)),(13,.int .i64 (X.rs.length:Int))] a∧Mm (fun _=>False) wB ([⟨some g3,84,[slv oA x.o.n oc,slv X.qA X.rs.length X.qc]⟩,⟨X.qA,22,X.qcs⟩,⟨oA,3,ocs⟩,⟨some g2,84,[nS,nS]⟩]++X.rs.map RW.hp) w'∧Row X.qA X.rs.length X.qc 1 (X.rs.map RW.v) X.qcs∧X.rs.map RW.xs=(x.qs.take X.rs.length).map IS.xs∧∀r∈X.rs,r.ok) (fun X=>x.qs.length-X.rs.length) ⟨[],none,0,[]⟩ ⟨Nat.zero_le _,(sb_ hs),hm.sub sub_,Row.empty 1,rfl,fun r hr=>by cases hr⟩ ?_
 clear hs hm a
 rintro⟨rs,qA,qc,qcs⟩ a w' ⟨hlen,hs,hm,hqr,hab,hok⟩
 dsimp only at*
 by_cases hlt:rs.length<x.qs.length
 ·obtain⟨b1,o1,hA,hb1,r1⟩:=hx.q.ro (by rw[List.length_map];omega)
  obtain⟨q,hq⟩:∃q,q=x.qs[rs.length]:=⟨_,rfl⟩
  have hqm:q∈x.qs:=by rw[hq];exact List.getElem_mem hlt
  have hcell:(x.qs.map IS.v)[rs.length]?=some (.slice q.A q.n q.c):=by rw[List.getElem?_map,List.getElem?_eq_getElem hlt,hq];rfl
  have hqo:=hx.qs q hqm
  have hqn:=hsm.qs q hqm
  have hqx:=hqo.1
  rw[hA]at hs
  refine gs5eea_ ?_;clear hs hm a;intros;rename_i a hm hs
  refine cMid (fun a w=>∃(r:RW)(qA':Option Nat)(qc':Nat)(qcs':List Value),r.ok∧r.xs=q.xs∧Row qA' (rs.length+1) qc' 1 ((rs++[r]).map RW.v) qcs'∧Sl Tryz.f122.ntmps [(2,pt g2),(3,pt g3),(11,.slice x.qA x.qs.length x.qc),(12,.int .i64 (x.qs.length:Int)),(13,.int .i64 (rs.length:Int))] a∧Mm (fun _=>False) wB (r.hp::([⟨some g3,84,[slv oA x.o.n oc,slv qA' (rs.length+1) qc']⟩,⟨qA',22,qcs'⟩,⟨oA,3,ocs⟩,⟨some g2,84,[nS,nS]⟩]++rs.map RW.hp)) w) ?_ ?_
  ·skip
   refine cDrawT (n:=8) (.s [0,2]<| .e [(1,.o 3<| .x<| .o 4<| .o 5<| .x<| .t 6<| .o 7<| .d),(3,.x<| .e [(1,.o 4<| .o 5<| .x<| .t 6<| .o 7<| .d),(4,.o 1<| .o 5<| .x<| .t 6<| .o 7<| .d)])]) [] hm rfl rfl ?_
   clear hm;intro t_ w1_ hm
   repeat' (first|(refine dg75f8_ ?_;clear t_ hs hm a;intros;rename_i a hm hs t_)|refine tE t_ ?_|refine tC ?_ ?_|exact tN|intro t_|(refine oDo (i:=3) hs rfl (Wnt.none rfl) rfl rfl (by exact d_appendS (A:=none) (n:=0) (c:=0) (xs:=[]) (news:=ints q.xs) hs rfl rfl rfl rfl tab rfl rfl rfl rfl rfl (hm.zero 3) mem_ (Row.empty 1) (by rw[ints_len,hqx];exact(Nat.mul_one _).symm) (hm.fr.rd' hqo.2) (ints_one _) (by show(0+q.n)*8≤_;omega) (by omega)) ?_;clear hs;rintro _ w1 ⟨rA,rc,rcs,rfl,hrr,hM⟩ a hs;(replace hm:=hM _ rep_);(clear hM);(rw[Nat.zero_add,List.nil_append]at hrr);(rw[Nat.zero_add]at hs);replace t_:=tX t_;refine⟨(hm.sub sub_),?_⟩)|(refine oDo (i:=5) hs rfl (Wnt.none rfl) rfl rfl (by exact d_append (A:=qA) (n:=rs.length) (c:=qc) (news:=[slv rA q.n rc]) hs rfl rfl rfl rfl rfl tab rfl rfl rfl rfl rfl hm mem_ hqr rfl (hm.ro (n:=1) mem_ (cutF_ok rfl)) rfl (by show(rs.length+1)*24≤_;omega) (by omega)) ?_;clear hs;rintro _ w1 ⟨qA',qc',qcs',rfl,hqr',hM⟩ a hs;(replace hm:=hM _ rep_);(clear hM);replace t_:=tX t_;refine⟨(hm.sub sub_),?_⟩)|(refine tD t_ ?_;(have hvv:slv rA q.n rc=RW.v ⟨rA,rc,rcs,q.xs⟩:=by unfold RW.v;rw[hqx]);(rw[hvv,rows_snoc]at hqr');(rw[←hA]at hs);(exact And.intro rfl ⟨⟨rA,rc,rcs,q.xs⟩,qA',qc',qcs',by unfold RW.ok;rw[hqx];exact hrr,rfl,hqr',(sb_ hs),hm.sub (List.Sublist.cons _ (List.Sublist.refl _))⟩))|fail)
  clear hs hm a hqr
  rintro a w ⟨r,qA',qc',qcs',hro,hrx,hqr',hs,hm⟩
  refine gs5eea_ ?_;clear hs hm a;intros;rename_i a hm hs
  refine⟨⟨rs++[r],qA',qc',qcs'⟩,by dsimp only;rw[List.length_append,List.length_singleton];omega,by dsimp only;rw[List.length_append,List.length_singleton];omega,?_,?_,?_,take_snoc_xs hab hlt (by rw[hrx,hq]),?_⟩
  ·dsimp only
   rw[List.length_append,List.length_singleton]
   exact(sb_ hs)
  ·dsimp only
   rw[List.length_append,List.length_singleton]
   exact cp_perm hm
  ·dsimp only
   rw[List.length_append,List.length_singleton]
   exact hqr'
  ·intro z hz
   rcases List.mem_append.1 hz with hz|hz
   ·exact hok z hz
   ·rcases List.mem_singleton.1 hz with rfl;exact hro
 ·have hln:rs.length=x.qs.length:=by omega
  refine gs5eea_ ?_;clear hs hm a;intros;rename_i a hm hs
  rw[hln,List.take_length]at hab
  refine gRetN tab hs rfl (.cons (.cells rfl rfl rfl rfl (hm.ro (k:=0) (n:=2) (g:=g2) mem_ (cutF_ok rfl))) .nil) ⟨⟨⟨oA,oc,ocs,x.o.xs⟩,qA,qc,qcs,rs⟩,?_,⟨by unfold RW.ok;rw[hon];exact hor,hqr,hok⟩,by unfold KO.ab KS.ab;rw[hab],hln,hm.new ?_,hm.fr⟩
  ·unfold KO.v RW.v
   dsimp only
   rw[hon]
   rfl
  ·unfold KO.hps
   dsimp only
   exact zbd11_
theorem any_take{α:Type}(p:α→Bool)(xs:List α)(h:∀k (hk:k<xs.length),p xs[k]=false):xs.any p=false:=by
 rw[List.any_eq_false]
 intro x hx
 obtain⟨k,hk,rfl⟩:=List.getElem_of_mem hx
 simp[h k hk]
def Ab.wt(a:Ab)(t:Int):Bool:=a.qs.any (fun q=>q.any (t==·))
def KO.ks(y:KO):KS:=⟨y.o.is,y.qA.map fun g=>⟨g,0,none⟩,y.qc,y.rs.map RW.is⟩
theorem KO.ks_v(y:KO):y.ks.v=y.v:=by
 unfold KO.ks KS.v KO.v slv
 rw[List.length_map]
 rfl
theorem KO.ks_ab(y:KO):y.ks.ab=y.ab:=by
 unfold KO.ks KS.ab KO.ab
 rw[List.map_map]
 rfl
theorem KO.ks_ok{S:Nat→Prop}{w0 w:World}{M:List Hp}{y:KO}(hm:Mm S w0 M w)(hM:∀h∈y.hps,h∈M)(hy:y.ok):y.ks.ok w:=by
 refine⟨RW.ok_is hm (hM _ (List.Mem.tail _ (List.Mem.head _))) hy.o,?_,fun q hq=>?_⟩
 ·have:=hm.rd_row (hM _ (List.Mem.head _)) hy.q
  show Rd w w.heap.size _ ((y.rs.map RW.is).map IS.v)
  rw[List.map_map]
  exact this
 ·obtain⟨r,hr,rfl⟩:=List.mem_map.1 hq
  exact RW.ok_is hm (hM _ (List.Mem.tail _ (List.Mem.tail _ (List.mem_map_of_mem hr)))) (hy.rs r hr)
theorem IS.blk_rw{r:RW}{g:Nat}(h:r.is.blk g):r.hp.g=some g:=by
 obtain⟨_,o,e⟩:=h
 unfold RW.is at e
 dsimp only at e
 unfold RW.hp
 dsimp only
 cases hA:r.A with
 |none=>rw[hA]at e;cases e
 |some b=>rw[hA]at e;cases e;rfl
theorem KO.blk_hps{y:KO}{g:Nat}(h:y.ks.blk g):∃h∈y.hps,h.g=some g:=by
 rcases h with h|⟨_,o,e⟩|⟨q,hq,h⟩
 ·exact⟨_,List.Mem.tail _ (List.Mem.head _),IS.blk_rw h⟩
 ·refine⟨_,List.Mem.head _,?_⟩
  unfold KO.ks at e
  dsimp only at e ⊢
  cases hA:y.qA with
  |none=>rw[hA]at e;cases e
  |some b=>rw[hA]at e;cases e;rfl
 ·obtain⟨r,hr,rfl⟩:=List.mem_map.1 hq
  exact⟨_,List.Mem.tail _ (List.Mem.tail _ (List.mem_map_of_mem hr)),IS.blk_rw h⟩
theorem KO.ks_new{y:KO}{n:Nat}(h:∀h∈y.hps,∀g,h.g=some g→n≤g):y.ks.new n:=fun g hg=>by
 obtain⟨z,hz,e⟩:=KO.blk_hps hg
 exact h z hz g e
theorem cp_gain{S:Nat→Prop}{w0 w w':World}{M:List Hp}{y:KO}(hm:Mm S w0 M w)(hf:Pu w w')(hN:New w w' y.hps):Mm S w0 (⟨y.qA,22,y.qcs⟩::y.o.hp::(M++y.rs.map RW.hp)) w':=by
 refine(hm.gain hf hN).perm ?_
 exact List.Perm.cons _ (List.Perm.cons _ List.perm_append_comm)
theorem rep_set{rs:List RW}{k:Nat}{r r':RW}(h:rs[k]?=some r):Rep (rs.map RW.hp) r.hp r'.hp ((rs.set k r').map RW.hp):=by
 induction rs generalizing k with
 |nil=>simp at h
 |cons a l ih=>
  cases k with
  |zero=>
   simp at h
   subst h
   exact Rep.head _ _ _
  |succ k=>
   simp only[List.getElem?_cons_succ]at h
   exact Rep.tail _ (ih h)
structure Ab.sh(a:Ab):Prop where
 o:a.os.length=4
 q:a.qs.length=4
 l:∀q∈a.qs,q.length≤500
theorem KS.sm_of{x:KS}{w:World}(hx:x.ok w)(h:x.ab.sh):x.sm:=by
 refine⟨by have:=hx.o.1;have:=h.o;unfold KS.ab at this;dsimp only at this;omega,by have:=h.q;unfold KS.ab at this;rw[List.length_map]at this;omega,fun q hq=>?_⟩
 have h1:=h.l q.xs (List.mem_map_of_mem hq)
 have h2:=(hx.qs q hq).1
 omega
def takF(a:Ab)(k:Nat)(t:Int):Ab × Int:=
 if a.os.getD k 0=t then(a,2)else if a.wt t=true then(a,2)
 else if a.os.getD k 0=-1 then(⟨a.os.set k t,a.qs⟩,0)
 else(⟨a.os,a.qs.set k (a.qs.getD k []++[t])⟩,1)
def givF(a:Ab)(k:Nat)(t:Int):Ab × Int × Bool:=
 if a.os.getD k 0=t then match a.qs.getD k []with
  |[]=>(⟨a.os.set k (-1),a.qs⟩,-1,true)
  |u::r=>(⟨a.os.set k u,a.qs.set k r⟩,u,true)
 else(a,-1,false)
def TakR(r:Ab × Int)(w:World)(u:Value)(w':World):Prop:=∃y:KS,u= .tuple #[y.v,.int .i64 r.2]∧y.ok w'∧y.new w.heap.size∧y.ab=r.1∧Pu w w'
def GivR(r:Ab × Int × Bool)(w:World)(u:Value)(w':World):Prop:=∃y:KS,u= .tuple #[y.v,.int .i64 r.2.1,.bool r.2.2]∧y.ok w'∧y.new w.heap.size∧y.ab=r.1∧Pu w w'
theorem KO.new_at{w0 w:World}{M:List Hp}{y:KO}(hm:Mm (fun _=>False) w0 M w)(hM:∀h∈y.hps,h∈M):y.ks.new w0.heap.size:=
 KO.ks_new fun h hh g hg=>(hm.ow h (hM h hh) g hg).resolve_right id
theorem RW.set_ok{r:RW}(h:r.ok)(k:Nat)(v:Int):RW.ok ⟨r.A,r.c,r.cs.set k (.int .i64 v),r.xs.set k v⟩:=by
 unfold RW.ok at*
 dsimp only
 rw[List.length_set,show ints (r.xs.set k v)=(ints r.xs).set k (.int .i64 v) by simp[ints,List.map_set]]
 exact Row.set h k _
theorem Mm.gen{S:Nat→Prop}{w0 w:World}{M:List Hp}(hm:Mm S w0 M w):∃M',M'=M∧Mm S w0 M' w:=⟨M,rfl,hm⟩
theorem rtak_c(x:KS)(k:Nat)(t:Int)(wB:World)(hx:x.ok wB)(hsh:x.ab.sh)(hk:k<4):Ret Tryz.prog 124 [x.v,.int .i64 (k:Int),.int .i64 t] wB (fun u w'=>TakR (takF x.ab k t) wB u w'):=by
 have hs0:=hsh.o
 have hq0:=hsh.q
 have hsm:=KS.sm_of hx hsh
 have hxo:=hx.o.1
 obtain⟨⟨oA,on,oc,os⟩,qA,qc,qs⟩:=x
 unfold KS.ab at hs0 hq0
 dsimp only at hs0 hq0 hxo
 rw[List.length_map]at hq0
 obtain rfl:on=4:=by omega
 obtain⟨b1,o1,hoA,hb1,r1⟩:=hx.o.2.ro (by rw[ints_len];dsimp only;omega)
 dsimp only at hoA r1
 subst hoA
 have e1:=ints_some (xs:=os) (k:=k) (by omega)
 have hg1:=getI (l:=os) (k:=k) (by omega)
 have hcp:=fun w'' (hf:Pu wB w'')=>cpy_c ⟨⟨some ⟨b1,o1,none⟩,4,oc,os⟩,qA,qc,qs⟩ w'' (hx.pu hf) hsm
 unfold KS.v IS.v KS.ab at*
 dsimp only at hcp ⊢
 obtain⟨v,hv⟩:∃v,os[k]=v:=⟨_,rfl⟩
 rw[hv]at e1 hg1
 unfold takF
 dsimp only
 rw[hg1]
 by_cases c1:v=t
 ·rw[if_pos c1]
  refine enterR Tryz.func124 rfl rfl rfl fun a hs hm=>?_
  refine gs87a7_ ?_;clear hs hm a;intros;rename_i a hm hs
  obtain⟨g3,rfl⟩:=hs.pp 3
  obtain⟨g6,rfl⟩:=hs.pp 6
  refine st hs rfl rfl rfl (d_call hs rfl rfl rfl (pl 122 rfl) ((hcp _ hm.fr))) ?_;clear hs a;rintro _ w1 ⟨y,rfl,hy,hyab,hyl,hN,hf⟩ a hs
  have hm6:=cp_gain hm hf hN
  clear hm hf hN
  have hm:=hm6
  clear hm6
  unfold KO.v RW.v at hs
  refine gs87a7_ ?_;clear hs hm a;intros;rename_i a hm hs
  refine gRetN tab hs rfl (.cons (.cells rfl rfl rfl rfl (hm.ro (k:=0) (n:=2) (g:=g6) mem_ (cutF_ok rfl))) (.cons (.tmp rfl) .nil)) ⟨y.ks,by rw[KO.ks_v];rfl,KO.ks_ok hm ?_ hy,KO.new_at hm ?_,by rw[KO.ks_ab,hyab],hm.fr⟩
  ·skip
   intro h hh
   rcases List.mem_cons.1 hh with rfl|hh
   ·exact mem_
   ·rcases List.mem_cons.1 hh with rfl|hh
    ·exact mem_
    ·repeat(first|exact hh|apply List.mem_cons_of_mem)
  ·skip
   intro h hh
   rcases List.mem_cons.1 hh with rfl|hh
   ·exact mem_
   ·rcases List.mem_cons.1 hh with rfl|hh
    ·exact mem_
    ·repeat(first|exact hh|apply List.mem_cons_of_mem)
 ·rw[if_neg c1]
  cases hb:Ab.wt ⟨os,qs.map IS.xs⟩ t
  ·rw[if_neg (by simp)]
   by_cases c3:v=-1
   ·rw[if_pos c3]
    refine enterR Tryz.func124 rfl rfl rfl fun a hs hm=>?_
    refine gs87a7_ ?_;clear hs hm a;intros;rename_i a hm hs
    obtain⟨g3,rfl⟩:=hs.pp 3
    obtain⟨g6,rfl⟩:=hs.pp 6
    refine st hs rfl rfl rfl (d_call hs rfl rfl rfl (pl 122 rfl) ((hcp _ hm.fr))) ?_;clear hs a;rintro _ w1 ⟨y,rfl,hy,hyab,hyl,hN,hf⟩ a hs
    have hm6:=cp_gain hm hf hN
    clear hm hf hN
    have hm:=hm6
    clear hm6
    unfold KO.v RW.v at hs
    obtain⟨⟨yoA,yoc,yocs,yos⟩,yqA,yqc,yqcs,yrs⟩:=y
    obtain⟨ho,hq,hrs⟩:=hy
    unfold KO.ab at hyab
    dsimp only at hyab hyl ho hq hrs
    obtain⟨rfl,hyq⟩:=Ab.mk.inj hyab
    obtain⟨go,rfl⟩:=Row.some_ (show Row yoA yos.length yoc 1 (ints yos) yocs from ho) (by omega)
    have hk2:k<yocs.length:=by rw[Row.len ho];have:=Row.le ho;dsimp only at this ⊢;omega
    unfold RW.hp at hm
    dsimp only at hs hm
    refine gs87a7_ ?_;clear hs hm a;intros;rename_i a hm hs
    obtain⟨g8,rfl⟩:=hs.pp 8
    obtain⟨M,hM,hm⟩:=hm.gen
    refine cLoop (X:=Nat) (fun i a w'=>Sl Tryz.f124.ntmps [(1,.int .i64 (k:Int)),(2,.int .i64 t),(3,pt g3),(6,pt g6),(8,pt g8),(32,.slice qA qs.length qc),(33,.int .i64 (qs.length:Int)),(34,.int .i64 (i:Int))] a∧Mm (fun _=>False) wB M w'∧i≤qs.length∧∀j (hj:j<qs.length),j<i→(qs[j].xs.any (t==·))=false) (fun i=>qs.length-i) 0 ⟨(sb_ hs),hm,Nat.zero_le _,fun j _ hj=>by omega⟩ ?_
    clear hs hm a
    rintro i a w' ⟨hs,hm,hi,hno⟩
    by_cases hi4:i<qs.length
    ·obtain⟨b2,o2,hA,hb2,r2⟩:=hx.q.ro (by rw[List.length_map];show 0<qs.length;omega)
     obtain⟨q,hq⟩:∃q,q=qs[i]:=⟨_,rfl⟩
     have hqm:q∈qs:=by rw[hq];exact List.getElem_mem hi4
     have hcell2:(qs.map IS.v)[i]?=some (.slice q.A q.n q.c):=by rw[List.getElem?_map,List.getElem?_eq_getElem hi4,hq];rfl
     have hqo:=hx.qs q hqm
     have hqn:=hsm.qs q hqm
     have hqx:=hqo.1
     dsimp only at hA r2
     rw[hA]at hs
     refine gs87a7_ ?_;clear hs hm a;intros;rename_i a hm hs
     rw[←hA]at hs
     refine cLoop (X:=Nat) (fun j a w'=>Sl Tryz.f124.ntmps [(1,.int .i64 (k:Int)),(2,.int .i64 t),(3,pt g3),(6,pt g6),(8,pt g8),(32,.slice qA qs.length qc),(33,.int .i64 (qs.length:Int)),(34,.int .i64 (i:Int)),(38,.slice q.A q.n q.c),(39,.int .i64 (q.n:Int)),(40,.int .i64 (j:Int))] a∧Mm (fun _=>False) wB M w'∧j≤q.n∧∀l (hl:l<q.xs.length),l<j→(t==q.xs[l])=false) (fun j=>q.n-j) 0 ⟨(sb_ hs),hm,Nat.zero_le _,fun l _ hl=>by omega⟩ ?_
     clear hs hm a hA r2
     rintro j a w' ⟨hs,hm,hj,hno2⟩
     by_cases hjn:j<q.n
     ·obtain⟨b3,o3,hA3,hb3,r3⟩:=hqo.2.ro (by rw[ints_len];omega)
      have e3:=ints_some (xs:=q.xs) (k:=j) (by omega)
      obtain⟨z,hz0⟩:∃z,q.xs[j]=z:=⟨_,rfl⟩
      have hzm:z∈q.xs:=by rw[←hz0];exact List.getElem_mem _
      rw[hz0]at e3
      rw[hA3]at hs
      by_cases hz:z=t
      ·subst hM
       exfalso
       have:=List.any_eq_false.1 hb q.xs (List.mem_map_of_mem hqm)
       exact this (by rw[List.any_eq_true];exact⟨z,hzm,by simp[hz]⟩)
      ·refine gs87a7_ ?_;clear hs hm a;intros;rename_i a hm hs
       rw[←hA3]at hs
       refine⟨j+1,by omega,(sb_ hs),hm,by omega,fun l hl hlj=>?_⟩
       by_cases e:l=j
       ·subst e;rw[hz0];simpa using fun h=>hz h.symm
       ·exact hno2 l hl (by omega)
     ·have hqf:q.xs.any (t==·)=false:=any_take _ _ fun l hl=>hno2 l hl (by omega)
      refine gs87a7_ ?_;clear hs hm a;intros;rename_i a hm hs
      refine⟨i+1,by omega,(sb_ hs),hm,by omega,fun l hl hlj=>?_⟩
      by_cases e:l=i
      ·subst e;rw[←hq];exact hqf
      ·exact hno l hl (by omega)
    ·subst hM
     refine gs87a7_ ?_;clear hs hm a;intros;rename_i a hm hs
     have hset:=RW.set_ok ho k t
     refine gRetN tab hs rfl (.cons (.cells rfl rfl rfl rfl (hm.ro (k:=0) (n:=2) (g:=g6) mem_ (cutF_ok rfl))) (.cons (.tmp rfl) .nil)) ⟨KO.ks ⟨⟨some go,yoc,yocs.set k (.int .i64 t),yos.set k t⟩,yqA,yqc,yqcs,yrs⟩,?_,KO.ks_ok hm ?_ ⟨hset,hq,hrs⟩,KO.new_at hm ?_,?_,hm.fr⟩
     ·rw[KO.ks_v]
      unfold KO.v RW.v
      dsimp only
      rw[List.length_set]
      rfl
     ·skip
      intro h hh
      rcases List.mem_cons.1 hh with rfl|hh
      ·exact mem_
      ·rcases List.mem_cons.1 hh with rfl|hh
       ·exact mem_
       ·repeat(first|exact hh|apply List.mem_cons_of_mem)
     ·skip
      intro h hh
      rcases List.mem_cons.1 hh with rfl|hh
      ·exact mem_
      ·rcases List.mem_cons.1 hh with rfl|hh
       ·exact mem_
       ·repeat(first|exact hh|apply List.mem_cons_of_mem)
     ·rw[KO.ks_ab]
      unfold KO.ab
      dsimp only
      rw[hyq]
   ·rw[if_neg c3]
    refine enterR Tryz.func124 rfl rfl rfl fun a hs hm=>?_
    refine gs87a7_ ?_;clear hs hm a;intros;rename_i a hm hs
    obtain⟨g3,rfl⟩:=hs.pp 3
    obtain⟨g6,rfl⟩:=hs.pp 6
    refine st hs rfl rfl rfl (d_call hs rfl rfl rfl (pl 122 rfl) ((hcp _ hm.fr))) ?_;clear hs a;rintro _ w1 ⟨y,rfl,hy,hyab,hyl,hN,hf⟩ a hs
    have hm6:=cp_gain hm hf hN
    clear hm hf hN
    have hm:=hm6
    clear hm6
    unfold KO.v RW.v at hs
    obtain⟨⟨yoA,yoc,yocs,yos⟩,yqA,yqc,yqcs,yrs⟩:=y
    obtain⟨ho,hq,hrs⟩:=hy
    unfold KO.ab at hyab
    dsimp only at hyab hyl ho hq hrs
    obtain⟨rfl,hyq⟩:=Ab.mk.inj hyab
    obtain⟨gq,rfl⟩:=hq.some_ (by omega)
    have hkl:k<yrs.length:=by omega
    obtain⟨r,hr⟩:∃r,r=yrs[k]:=⟨_,rfl⟩
    have hr2:yrs[k]?=some r:=by rw[hr];exact List.getElem?_eq_getElem hkl
    have hrm0:r∈yrs:=List.mem_of_getElem? hr2
    have hro:Row r.A r.xs.length r.c 1 (ints r.xs) r.cs:=hrs r hrm0
    have hcell:yqcs[k]?=some (slv r.A r.xs.length r.c):=hq.get (by rw[List.getElem?_map,hr2];rfl)
    have hk2:k<yqcs.length:=by rw[hq.len];have:=hq.le;omega
    have hrl:r.xs.length≤500:=hsh.l _ (by show r.xs∈qs.map IS.xs;rw[←hyq];exact List.mem_map_of_mem hrm0)
    have hrm:(⟨r.A,3,r.cs⟩:Hp)∈yrs.map RW.hp:=List.mem_map_of_mem (f:=RW.hp) hrm0
    have hrep:=fun rA rc rcs=>rep_set (r':=⟨rA,rc,rcs,r.xs++[t]⟩) hr2
    unfold RW.hp at hm hrep
    dsimp only at hs hm hrep
    refine gs87a7_ ?_;clear hs hm a;intros;rename_i a hm hs
    obtain⟨g8,rfl⟩:=hs.pp 8
    obtain⟨M,hM,hm⟩:=hm.gen
    refine cLoop (X:=Nat) (fun i a w'=>Sl Tryz.f124.ntmps [(1,.int .i64 (k:Int)),(2,.int .i64 t),(3,pt g3),(6,pt g6),(8,pt g8),(32,.slice qA qs.length qc),(33,.int .i64 (qs.length:Int)),(34,.int .i64 (i:Int))] a∧Mm (fun _=>False) wB M w'∧i≤qs.length∧∀j (hj:j<qs.length),j<i→(qs[j].xs.any (t==·))=false) (fun i=>qs.length-i) 0 ⟨(sb_ hs),hm,Nat.zero_le _,fun j _ hj=>by omega⟩ ?_
    clear hs hm a
    rintro i a w' ⟨hs,hm,hi,hno⟩
    by_cases hi4:i<qs.length
    ·obtain⟨b2,o2,hA,hb2,r2⟩:=hx.q.ro (by rw[List.length_map];show 0<qs.length;omega)
     obtain⟨q,hq⟩:∃q,q=qs[i]:=⟨_,rfl⟩
     have hqm:q∈qs:=by rw[hq];exact List.getElem_mem hi4
     have hcell2:(qs.map IS.v)[i]?=some (.slice q.A q.n q.c):=by rw[List.getElem?_map,List.getElem?_eq_getElem hi4,hq];rfl
     have hqo:=hx.qs q hqm
     have hqn:=hsm.qs q hqm
     have hqx:=hqo.1
     dsimp only at hA r2
     rw[hA]at hs
     refine gs87a7_ ?_;clear hs hm a;intros;rename_i a hm hs
     rw[←hA]at hs
     refine cLoop (X:=Nat) (fun j a w'=>Sl Tryz.f124.ntmps [(1,.int .i64 (k:Int)),(2,.int .i64 t),(3,pt g3),(6,pt g6),(8,pt g8),(32,.slice qA qs.length qc),(33,.int .i64 (qs.length:Int)),(34,.int .i64 (i:Int)),(38,.slice q.A q.n q.c),(39,.int .i64 (q.n:Int)),(40,.int .i64 (j:Int))] a∧Mm (fun _=>False) wB M w'∧j≤q.n∧∀l (hl:l<q.xs.length),l<j→(t==q.xs[l])=false) (fun j=>q.n-j) 0 ⟨(sb_ hs),hm,Nat.zero_le _,fun l _ hl=>by omega⟩ ?_
     clear hs hm a hA r2
     rintro j a w' ⟨hs,hm,hj,hno2⟩
     by_cases hjn:j<q.n
     ·obtain⟨b3,o3,hA3,hb3,r3⟩:=hqo.2.ro (by rw[ints_len];omega)
      have e3:=ints_some (xs:=q.xs) (k:=j) (by omega)
      obtain⟨z,hz0⟩:∃z,q.xs[j]=z:=⟨_,rfl⟩
      have hzm:z∈q.xs:=by rw[←hz0];exact List.getElem_mem _
      rw[hz0]at e3
      rw[hA3]at hs
      by_cases hz:z=t
      ·subst hM
       exfalso
       have:=List.any_eq_false.1 hb q.xs (List.mem_map_of_mem hqm)
       exact this (by rw[List.any_eq_true];exact⟨z,hzm,by simp[hz]⟩)
      ·refine gs87a7_ ?_;clear hs hm a;intros;rename_i a hm hs
       rw[←hA3]at hs
       refine⟨j+1,by omega,(sb_ hs),hm,by omega,fun l hl hlj=>?_⟩
       by_cases e:l=j
       ·subst e;rw[hz0];simpa using fun h=>hz h.symm
       ·exact hno2 l hl (by omega)
     ·have hqf:q.xs.any (t==·)=false:=any_take _ _ fun l hl=>hno2 l hl (by omega)
      refine gs87a7_ ?_;clear hs hm a;intros;rename_i a hm hs
      refine⟨i+1,by omega,(sb_ hs),hm,by omega,fun l hl hlj=>?_⟩
      by_cases e:l=i
      ·subst e;rw[←hq];exact hqf
      ·exact hno l hl (by omega)
    ·subst hM
     refine gs87a7_ ?_;clear hs hm a;intros;rename_i a hm hs
     refine cMid (fun a w'=>∃(rA:Option Nat)(rc:Nat)(rcs:List Value),Row rA (r.xs.length+1) rc 1 (ints r.xs++[.int .i64 t]) rcs∧Sl Tryz.f124.ntmps [(6,pt g6),(8,pt g8)] a∧Mm (fun _=>False) wB (⟨some g8,84,[slv yoA yos.length yoc,slv (some gq) yrs.length yqc]⟩::⟨some gq,22,yqcs.set k (slv rA (r.xs.length+1) rc)⟩::⟨yoA,3,yocs⟩::⟨some g6,84,[nS,nS]⟩::(yrs.set k ⟨rA,rc,rcs,r.xs++[t]⟩).map RW.hp) w') ?_ ?_
     ·skip
      refine cDrawT (n:=13) (.s [0,1,2,3,4,5,6,8]<| .e [(7,.o 9<| .o 10<| .x<| .t 11<| .o 12<| .d),(9,.o 7<| .o 10<| .x<| .t 11<| .o 12<| .d)]) [⟨some g8,84,[slv yoA yos.length yoc,slv (some gq) yrs.length yqc]⟩] hm rfl rfl ?_
      clear hm;intro t_ w1_ hm
      repeat' (first|(refine dgdadf_ ?_;clear t_ hs hm a;intros;rename_i a hm hs t_)|refine tE t_ ?_|refine tC ?_ ?_|exact tN|intro t_|(refine oDo (i:=10) hs rfl (Wnt.none rfl) rfl rfl (by exact d_append (A:=r.A) (n:=r.xs.length) (c:=r.c) (news:=[.int .i64 t]) hs rfl rfl rfl rfl rfl tab rfl rfl rfl rfl rfl hm (by repeat(first|exact hrm|apply mT)) hro rfl (hm.ro (n:=1) mem_ (cutF_ok rfl)) rfl (by show(r.xs.length+1)*8≤_;omega) (by omega)) ?_;clear hs;rintro _ w1 ⟨rA,rc,rcs,rfl,hrr,hM⟩ a hs;(replace hm:=hM _ (by repeat(first|exact hrep rA rc rcs|apply Rep.tail)));(clear hM);replace t_:=tX t_;refine⟨(hm.sub sub_),?_⟩)|(refine tD t_ ?_;(exact And.intro rfl ⟨rA,rc,rcs,hrr,(sb_ hs),hm.sub (List.Sublist.cons _ (List.Sublist.cons_cons _ (List.Sublist.cons_cons _ (List.Sublist.cons_cons _ (List.Sublist.cons_cons _ (List.Sublist.cons _ (List.Sublist.refl _)))))))⟩))|fail)
     clear hs hm a
     rintro a w' ⟨rA,rc,rcs,hrr,hs,hm⟩
     refine gs87a7_ ?_;clear hs hm a;intros;rename_i a hm hs
     refine gRetN tab hs rfl (.cons (.cells rfl rfl rfl rfl (hm.ro (k:=0) (n:=2) (g:=g6) mem_ (cutF_ok rfl))) (.cons (.tmp rfl) .nil)) ⟨KO.ks ⟨⟨yoA,yoc,yocs,yos⟩,some gq,yqc,yqcs.set k (slv rA (r.xs.length+1) rc),yrs.set k ⟨rA,rc,rcs,r.xs++[t]⟩⟩,?_,KO.ks_ok hm ?_ ⟨ho,?_,?_⟩,KO.new_at hm ?_,?_,hm.fr⟩
     ·rw[KO.ks_v]
      unfold KO.v RW.v
      dsimp only
      rw[List.length_set]
      rfl
     ·skip
      intro h hh
      rcases List.mem_cons.1 hh with rfl|hh
      ·exact mem_
      ·rcases List.mem_cons.1 hh with rfl|hh
       ·exact mem_
       ·repeat(first|exact hh|apply List.mem_cons_of_mem)
     ·show Row (some gq) (yrs.set k _).length yqc 1 _ _
      rw[List.length_set,List.map_set,show RW.v ⟨rA,rc,rcs,r.xs++[t]⟩=slv rA (r.xs.length+1) rc by unfold RW.v;simp]
      exact hq.set _ _
     ·intro z hz
      rcases List.mem_or_eq_of_mem_set hz with h|rfl
      ·exact hrs z h
      ·unfold RW.ok
       dsimp only
       rw[List.length_append,List.length_singleton,show ints (r.xs++[t])=ints r.xs++[.int .i64 t] by simp[ints]]
       exact hrr
     ·skip
      intro h hh
      rcases List.mem_cons.1 hh with rfl|hh
      ·exact mem_
      ·rcases List.mem_cons.1 hh with rfl|hh
       ·exact mem_
       ·repeat(first|exact hh|apply List.mem_cons_of_mem)
     ·rw[KO.ks_ab]
      unfold KO.ab
      dsimp only
      rw[List.map_set,hyq,←hyq,List.getD_eq_getElem?_getD,List.getElem?_map,hr2]
      rfl
  ·rw[if_pos rfl]
   refine enterR Tryz.func124 rfl rfl rfl fun a hs hm=>?_
   refine gs87a7_ ?_;clear hs hm a;intros;rename_i a hm hs
   obtain⟨g3,rfl⟩:=hs.pp 3
   obtain⟨g6,rfl⟩:=hs.pp 6
   refine st hs rfl rfl rfl (d_call hs rfl rfl rfl (pl 122 rfl) ((hcp _ hm.fr))) ?_;clear hs a;rintro _ w1 ⟨y,rfl,hy,hyab,hyl,hN,hf⟩ a hs
   have hm6:=cp_gain hm hf hN
   clear hm hf hN
   have hm:=hm6
   clear hm6
   unfold KO.v RW.v at hs
   refine gs87a7_ ?_;clear hs hm a;intros;rename_i a hm hs
   obtain⟨g8,rfl⟩:=hs.pp 8
   obtain⟨M,hM,hm⟩:=hm.gen
   refine cLoop (X:=Nat) (fun i a w'=>Sl Tryz.f124.ntmps [(1,.int .i64 (k:Int)),(2,.int .i64 t),(3,pt g3),(6,pt g6),(8,pt g8),(32,.slice qA qs.length qc),(33,.int .i64 (qs.length:Int)),(34,.int .i64 (i:Int))] a∧Mm (fun _=>False) wB M w'∧i≤qs.length∧∀j (hj:j<qs.length),j<i→(qs[j].xs.any (t==·))=false) (fun i=>qs.length-i) 0 ⟨(sb_ hs),hm,Nat.zero_le _,fun j _ hj=>by omega⟩ ?_
   clear hs hm a
   rintro i a w' ⟨hs,hm,hi,hno⟩
   by_cases hi4:i<qs.length
   ·obtain⟨b2,o2,hA,hb2,r2⟩:=hx.q.ro (by rw[List.length_map];show 0<qs.length;omega)
    obtain⟨q,hq⟩:∃q,q=qs[i]:=⟨_,rfl⟩
    have hqm:q∈qs:=by rw[hq];exact List.getElem_mem hi4
    have hcell2:(qs.map IS.v)[i]?=some (.slice q.A q.n q.c):=by rw[List.getElem?_map,List.getElem?_eq_getElem hi4,hq];rfl
    have hqo:=hx.qs q hqm
    have hqn:=hsm.qs q hqm
    have hqx:=hqo.1
    dsimp only at hA r2
    rw[hA]at hs
    refine gs87a7_ ?_;clear hs hm a;intros;rename_i a hm hs
    rw[←hA]at hs
    refine cLoop (X:=Nat) (fun j a w'=>Sl Tryz.f124.ntmps [(1,.int .i64 (k:Int)),(2,.int .i64 t),(3,pt g3),(6,pt g6),(8,pt g8),(32,.slice qA qs.length qc),(33,.int .i64 (qs.length:Int)),(34,.int .i64 (i:Int)),(38,.slice q.A q.n q.c),(39,.int .i64 (q.n:Int)),(40,.int .i64 (j:Int))] a∧Mm (fun _=>False) wB M w'∧j≤q.n∧∀l (hl:l<q.xs.length),l<j→(t==q.xs[l])=false) (fun j=>q.n-j) 0 ⟨(sb_ hs),hm,Nat.zero_le _,fun l _ hl=>by omega⟩ ?_
    clear hs hm a hA r2
    rintro j a w' ⟨hs,hm,hj,hno2⟩
    by_cases hjn:j<q.n
    ·obtain⟨b3,o3,hA3,hb3,r3⟩:=hqo.2.ro (by rw[ints_len];omega)
     have e3:=ints_some (xs:=q.xs) (k:=j) (by omega)
     obtain⟨z,hz0⟩:∃z,q.xs[j]=z:=⟨_,rfl⟩
     have hzm:z∈q.xs:=by rw[←hz0];exact List.getElem_mem _
     rw[hz0]at e3
     rw[hA3]at hs
     by_cases hz:z=t
     ·subst hM
      refine gs87a7_ ?_;clear hs hm a;intros;rename_i a hm hs
      refine gRetN tab hs rfl (.cons (.cells rfl rfl rfl rfl (hm.ro (k:=0) (n:=2) (g:=g6) mem_ (cutF_ok rfl))) (.cons (.tmp rfl) .nil)) ⟨y.ks,by rw[KO.ks_v];rfl,KO.ks_ok hm ?_ hy,KO.new_at hm ?_,by rw[KO.ks_ab,hyab],hm.fr⟩
      ·skip
       intro h hh
       rcases List.mem_cons.1 hh with rfl|hh
       ·exact mem_
       ·rcases List.mem_cons.1 hh with rfl|hh
        ·exact mem_
        ·repeat(first|exact hh|apply List.mem_cons_of_mem)
      ·skip
       intro h hh
       rcases List.mem_cons.1 hh with rfl|hh
       ·exact mem_
       ·rcases List.mem_cons.1 hh with rfl|hh
        ·exact mem_
        ·repeat(first|exact hh|apply List.mem_cons_of_mem)
     ·refine gs87a7_ ?_;clear hs hm a;intros;rename_i a hm hs
      rw[←hA3]at hs
      refine⟨j+1,by omega,(sb_ hs),hm,by omega,fun l hl hlj=>?_⟩
      by_cases e:l=j
      ·subst e;rw[hz0];simpa using fun h=>hz h.symm
      ·exact hno2 l hl (by omega)
    ·have hqf:q.xs.any (t==·)=false:=any_take _ _ fun l hl=>hno2 l hl (by omega)
     refine gs87a7_ ?_;clear hs hm a;intros;rename_i a hm hs
     refine⟨i+1,by omega,(sb_ hs),hm,by omega,fun l hl hlj=>?_⟩
     by_cases e:l=i
     ·subst e;rw[←hq];exact hqf
     ·exact hno l hl (by omega)
   ·subst hM
    exfalso
    have hf:Ab.wt ⟨os,qs.map IS.xs⟩ t=false:=by
     unfold Ab.wt
     rw[List.any_map]
     exact any_take _ _ fun j hj=>hno j hj (by omega)
    rw[hf]at hb
    cases hb
theorem er_perm{α:Type}{l:List α}{k:Nat}{r:α}(h:l[k]?=some r):l.Perm (r::l.eraseIdx k):=by
 induction l generalizing k with
 |nil=>simp at h
 |cons a l ih=>
  cases k with
  |zero=>simp at h;subst h;exact List.Perm.refl _
  |succ k=>
   simp only[List.getElem?_cons_succ]at h
   exact(List.Perm.cons a (ih h)).trans (List.Perm.swap _ _ _)
theorem ks_mk{S:Nat→Prop}{w0 w:World}{M:List Hp}{o:RW}{qA:Option Nat}{qc:Nat}{qcs:List Value}{qs:List IS}(hm:Mm S w0 M w)(h1:o.hp∈M)(ho:o.ok)(h2:(⟨qA,22,qcs⟩:Hp)∈M)(hq:Row qA qs.length qc 1 (qs.map IS.v) qcs)(hqs:∀q∈qs,q.ok w):KS.ok ⟨o.is,qA.map fun g=>⟨g,0,none⟩,qc,qs⟩ w:=
 ⟨RW.ok_is hm h1 ho,hm.rd_row h2 hq,hqs⟩
theorem ks_new{w0 w:World}{M:List Hp}{o:RW}{qA:Option Nat}{qc:Nat}{qcs:List Value}{qs:List IS}(hm:Mm (fun _=>False) w0 M w)(h1:o.hp∈M)(h2:(⟨qA,22,qcs⟩:Hp)∈M)(hqs:∀q∈qs,∀g,q.blk g→w0.heap.size≤g):KS.new ⟨o.is,qA.map fun g=>⟨g,0,none⟩,qc,qs⟩ w0.heap.size:=by
 intro g hg
 rcases hg with h|⟨_,o',e⟩|⟨q,hq,h⟩
 ·exact(hm.ow _ h1 g (IS.blk_rw h)).resolve_right id
 ·refine(hm.ow _ h2 g ?_).resolve_right id
  cases hA:qA with
  |none=>rw[hA]at e;cases e
  |some b=>rw[hA]at e;cases e;rfl
 ·exact hqs q hq g h
theorem mem5{h a b c d e:Hp}{L:List Hp}(hh:h∈b::L):h∈a::b::c::d::e::L:=by
 rcases List.mem_cons.1 hh with rfl|hh
 ·exact List.Mem.tail _ (List.Mem.head _)
 ·exact List.Mem.tail _ (List.Mem.tail _ (List.Mem.tail _ (List.Mem.tail _ (List.Mem.tail _ hh))))
def tlS(g n c:Nat)(l:List Int):IS:=⟨if c=(1:Int).toNat then some ⟨g,0,none⟩else(some ⟨g,0,none⟩:Option Addr).map (·.add ((1:Int).toNat*1)),n-(1:Int).toNat,c-(1:Int).toNat,l⟩
theorem tlS_ok{S:Nat→Prop}{w0 w:World}{M:List Hp}{g c:Nat}{u:Int}{l:List Int}{cs:List Value}(hm:Mm S w0 M w)(hM:(⟨some g,3,cs⟩:Hp)∈M)(hr:Row (some g) (u::l).length c 1 (ints (u::l)) cs):(tlS g (u::l).length c l).ok w:=by
 refine⟨by simp[tlS],fun h0=>?_⟩
 have hle:=hr.le
 have hl0:0<l.length:=by rw[ints_len]at h0;exact h0
 have hc:¬c=(1:Int).toNat:=by simp at hle ⊢;omega
 refine⟨g,1,?_,Hp.lt (hm.me _ hM) rfl,fun j v hj=>?_⟩
 ·unfold tlS
  dsimp only
  rw[if_neg hc]
  rfl
 ·rw[hm.at_ hM]
  refine hr.get ?_
  rw[Nat.add_comm]
  exact hj
theorem tlS_blk{g n c:Nat}{l:List Int}{b:Nat}(h:(tlS g n c l).blk b):b=g:=by
 obtain⟨_,o,e⟩:=h
 unfold tlS at e
 dsimp only at e
 split at e
 ·cases e;rfl
 ·simp[Addr.add]at e
  exact e.1.symm
theorem isv_set(rs:List RW)(k:Nat)(q:IS):(rs.map RW.v).set k q.v=((rs.map RW.is).set k q).map IS.v:=by
 rw[List.map_set,List.map_map]
 rfl
theorem Mm.front{S:Nat→Prop}{w0 w:World}{rs:List RW}{k:Nat}{r:RW}{L:List Hp}(hm:Mm S w0 (L++rs.map RW.hp) w)(h:rs[k]?=some r):Mm S w0 (r.hp::(L++(rs.eraseIdx k).map RW.hp)) w:=by
 refine hm.perm ?_
 have h1:=(er_perm h).map RW.hp
 exact(List.perm_middle.symm.trans (List.Perm.append_left L h1.symm))
theorem rgiv_c(x:KS)(k:Nat)(t:Int)(wB:World)(hx:x.ok wB)(hsh:x.ab.sh)(hk:k<4):Ret Tryz.prog 112 [x.v,.int .i64 (k:Int),.int .i64 t] wB (fun u w'=>GivR (givF x.ab k t) wB u w'):=by
 have hs0:=hsh.o
 have hq0:=hsh.q
 have hsm:=KS.sm_of hx hsh
 have hxo:=hx.o.1
 obtain⟨⟨oA,on,oc,os⟩,qA,qc,qs⟩:=x
 unfold KS.ab at hs0 hq0
 dsimp only at hs0 hq0 hxo
 rw[List.length_map]at hq0
 obtain rfl:on=4:=by omega
 obtain⟨b1,o1,hoA,hb1,r1⟩:=hx.o.2.ro (by rw[ints_len];dsimp only;omega)
 dsimp only at hoA r1
 subst hoA
 have e1:=ints_some (xs:=os) (k:=k) (by omega)
 have hg1:=getI (l:=os) (k:=k) (by omega)
 have hcp:=fun w'' (hf:Pu wB w'')=>cpy_c ⟨⟨some ⟨b1,o1,none⟩,4,oc,os⟩,qA,qc,qs⟩ w'' (hx.pu hf) hsm
 unfold KS.v IS.v KS.ab at*
 dsimp only at hcp ⊢
 obtain⟨v,hv⟩:∃v,os[k]=v:=⟨_,rfl⟩
 rw[hv]at e1 hg1
 unfold givF
 dsimp only
 rw[hg1]
 by_cases c1:v=t
 ·rw[if_pos c1]
  refine enterR Tryz.func112 rfl rfl rfl fun a hs hm=>?_
  refine gs0d2a_ ?_;clear hs hm a;intros;rename_i a hm hs
  obtain⟨g6,rfl⟩:=hs.pp 6
  refine st hs rfl rfl rfl (d_call hs rfl rfl rfl (pl 122 rfl) ((hcp _ hm.fr))) ?_;clear hs a;rintro _ w1 ⟨y,rfl,hy,hyab,hyl,hN,hf⟩ a hs
  have hm6:=cp_gain hm hf hN
  clear hm hf hN
  have hm:=hm6
  clear hm6
  unfold KO.v RW.v at hs
  obtain⟨⟨yoA,yoc,yocs,yos⟩,yqA,yqc,yqcs,yrs⟩:=y
  obtain⟨ho,hq,hrs⟩:=hy
  unfold KO.ab at hyab
  dsimp only at hyab hyl ho hq hrs
  obtain⟨rfl,hyq⟩:=Ab.mk.inj hyab
  obtain⟨gq,rfl⟩:=hq.some_ (by omega)
  obtain⟨go,rfl⟩:=Row.some_ (show Row yoA yos.length yoc 1 (ints yos) yocs from ho) (by omega)
  have hko:k<yocs.length:=by rw[Row.len ho];have:=Row.le ho;dsimp only at this ⊢;omega
  have hkl:k<yrs.length:=by omega
  obtain⟨r,hr⟩:∃r,r=yrs[k]:=⟨_,rfl⟩
  have hr2:yrs[k]?=some r:=by rw[hr];exact List.getElem?_eq_getElem hkl
  have hrm0:r∈yrs:=List.mem_of_getElem? hr2
  have hro:Row r.A r.xs.length r.c 1 (ints r.xs) r.cs:=hrs r hrm0
  have hcell:yqcs[k]?=some (slv r.A r.xs.length r.c):=hq.get (by rw[List.getElem?_map,hr2];rfl)
  have hk2:k<yqcs.length:=by rw[hq.len];have:=hq.le;omega
  have hrl:r.xs.length≤500:=hsh.l _ (by show r.xs∈qs.map IS.xs;rw[←hyq];exact List.mem_map_of_mem hrm0)
  have hqk:(qs.map IS.xs).getD k []=r.xs:=by rw[←hyq,List.getD_eq_getElem?_getD,List.getElem?_map,hr2];rfl
  rw[hqk]
  unfold RW.hp at hm
  dsimp only at hs hm
  cases hxs:r.xs with
  |nil=>
   rw[hxs]at hcell
   dsimp only
   have hlast:(yocs.set k (.int .i64 (-1)))[k]?=some (.int .i64 (-1)):=by simp[hko]
   refine gs0d2a_ ?_;clear hs hm a;intros;rename_i a hm hs
   obtain⟨g9,rfl⟩:=hs.pp 9
   refine cMid (fun a w'=>Sl Tryz.f112.ntmps [(6,pt g6),(7,.int .i64 (-1)),(8,.bool true)] a∧Mm (fun _=>False) wB (⟨some gq,22,yqcs⟩::⟨some go,3,yocs.set k (.int .i64 (-1))⟩::⟨some g6,84,[slv (some go) yos.length yoc,slv (some gq) yrs.length yqc]⟩::yrs.map RW.hp) w') ?_ ?_
   ·skip
    refine cDrawT (n:=9) (.s [0,1,2,3,4,5]<| .o 6<| .s [7,8]<| .d) [⟨some g9,84,[slv (some go) yos.length yoc,slv (some gq) yrs.length yqc]⟩,⟨some go,3,yocs.set k (.int .i64 (-1))⟩] hm rfl rfl ?_
    clear hm;intro t_ w1_ hm
    repeat' (first|(refine dge39a_ ?_;clear t_ hs hm a;intros;rename_i a hm hs t_)|refine tE t_ ?_|refine tC ?_ ?_|exact tN|intro t_|(refine tD t_ ?_;(exact And.intro rfl ⟨(sb_ hs),hm.sub (List.Sublist.cons _ (List.Sublist.cons_cons _ (List.Sublist.cons_cons _ (List.Sublist.cons_cons _ (List.Sublist.cons _ (List.Sublist.refl _))))))⟩))|fail)
   clear hs hm a
   rintro a w' ⟨hs,hm⟩
   refine gs0d2a_ ?_;clear hs hm a;intros;rename_i a hm hs
   have hset:=RW.set_ok ho k (-1)
   refine gRetN tab hs rfl (.cons (.cells rfl rfl rfl rfl (hm.ro (k:=0) (n:=2) (g:=g6) mem_ (cutF_ok rfl))) (.cons (.tmp rfl) (.cons (.tmp rfl) .nil))) ⟨KO.ks ⟨⟨some go,yoc,yocs.set k (.int .i64 (-1)),yos.set k (-1)⟩,some gq,yqc,yqcs,yrs⟩,?_,KO.ks_ok hm ?_ ⟨hset,hq,hrs⟩,KO.new_at hm ?_,?_,hm.fr⟩
   ·rw[KO.ks_v]
    unfold KO.v RW.v
    dsimp only
    rw[List.length_set]
    rfl
   ·skip
    intro h hh
    rcases List.mem_cons.1 hh with rfl|hh
    ·exact mem_
    ·rcases List.mem_cons.1 hh with rfl|hh
     ·exact mem_
     ·repeat(first|exact hh|apply List.mem_cons_of_mem)
   ·skip
    intro h hh
    rcases List.mem_cons.1 hh with rfl|hh
    ·exact mem_
    ·rcases List.mem_cons.1 hh with rfl|hh
     ·exact mem_
     ·repeat(first|exact hh|apply List.mem_cons_of_mem)
   ·rw[KO.ks_ab]
    unfold KO.ab
    dsimp only
    rw[hyq]
  |cons u l=>
   rw[hxs]at hcell hro
   dsimp only
   obtain⟨gr,hgr⟩:=hro.some_ (by simp)
   rw[hgr]at hcell hro
   have hc0:r.cs[0]?=some (.int .i64 u):=hro.get rfl
   have hpos:0<(u::l).length:=Nat.succ_pos _
   have hm6:=Mm.front (L:=[_,_,_,_]) hm hr2
   clear hm
   have hm:=hm6
   clear hm6
   unfold RW.hp at hm
   rw[hgr]at hm
   rw[hxs]at hrl
   have hlast:((yocs.set k (.int .i64 (-1))).set k (.int .i64 u))[k]?=some (.int .i64 u):=by simp[hko]
   have hko2:k<(yocs.set k (.int .i64 (-1))).length:=by rw[List.length_set];exact hko
   refine gs0d2a_ ?_;clear hs hm a;intros;rename_i a hm hs
   obtain⟨g9,rfl⟩:=hs.pp 9
   refine cMid (fun a w'=>Sl Tryz.f112.ntmps [(1,.int .i64 (k:Int)),(6,pt g6),(9,pt g9)] a∧Mm (fun _=>False) wB (⟨some g9,84,[slv (some go) yos.length yoc,slv (some gq) yrs.length yqc]⟩::⟨some gr,3,r.cs⟩::⟨some gq,22,yqcs⟩::⟨some go,3,(yocs.set k (.int .i64 (-1))).set k (.int .i64 u)⟩::⟨some g6,84,[nS,nS]⟩::(yrs.eraseIdx k).map RW.hp) w') ?_ ?_
   ·skip
    refine cDrawT (n:=12) (.s [0,1,2,3,4,5,6,7,8,9,10]<| .o 11<| .d) [⟨some g9,84,[slv (some go) yos.length yoc,slv (some gq) yrs.length yqc]⟩,⟨some gr,3,r.cs⟩,⟨some gq,22,yqcs⟩] hm rfl rfl ?_
    clear hm;intro t_ w1_ hm
    repeat' (first|(refine dge39a_ ?_;clear t_ hs hm a;intros;rename_i a hm hs t_)|refine tE t_ ?_|refine tC ?_ ?_|exact tN|intro t_|(refine tD t_ ?_;(exact And.intro rfl ⟨(sb_ hs),hm.sub (List.Sublist.cons_cons _ (List.Sublist.cons_cons _ (List.Sublist.cons_cons _ (List.Sublist.cons_cons _ (List.Sublist.cons_cons _ (List.Sublist.cons _ (List.Sublist.refl _)))))))⟩))|fail)
   clear hs hm a
   rintro a w' ⟨hs,hm⟩
   refine gs0d2a_ ?_;clear hs hm a;intros;rename_i a hm hs
   refine cMid (fun a w'=>Sl Tryz.f112.ntmps [(1,.int .i64 (k:Int)),(6,pt g6),(9,pt g9)] a∧Mm (fun _=>False) wB (⟨some g9,84,[slv (some go) yos.length yoc,slv (some gq) yrs.length yqc]⟩::⟨some gr,3,r.cs⟩::⟨some gq,22,yqcs.set k (tlS gr (u::l).length r.c l).v⟩::⟨some go,3,(yocs.set k (.int .i64 (-1))).set k (.int .i64 u)⟩::⟨some g6,84,[nS,nS]⟩::(yrs.eraseIdx k).map RW.hp) w') ?_ ?_
   ·skip
    refine cDrawT (n:=11) (.s [0,1,2,3,4,5,6]<| .o 7<| .s [8,9]<| .o 10<| .d) [⟨some g9,84,[slv (some go) yos.length yoc,slv (some gq) yrs.length yqc]⟩] hm rfl rfl ?_
    clear hm;intro t_ w1_ hm
    repeat' (first|(refine dge39a_ ?_;clear t_ hs hm a;intros;rename_i a hm hs t_)|refine tE t_ ?_|refine tC ?_ ?_|exact tN|intro t_|(refine tD t_ ?_;(exact And.intro rfl ⟨(sb_ hs),hm⟩))|fail)
   clear hs hm a
   rintro a w' ⟨hs,hm⟩
   refine gs0d2a_ ?_;clear hs hm a;intros;rename_i a hm hs
   refine cMid (fun a w'=>Sl Tryz.f112.ntmps [(6,pt g6),(7,.int .i64 u),(8,.bool true)] a∧Mm (fun _=>False) wB (⟨some g9,84,[slv (some go) yos.length yoc,slv (some gq) yrs.length yqc]⟩::⟨some gr,3,r.cs⟩::⟨some gq,22,yqcs.set k (tlS gr (u::l).length r.c l).v⟩::⟨some go,3,(yocs.set k (.int .i64 (-1))).set k (.int .i64 u)⟩::⟨some g6,84,[slv (some go) yos.length yoc,slv (some gq) yrs.length yqc]⟩::(yrs.eraseIdx k).map RW.hp) w') ?_ ?_
   ·skip
    refine cDrawT (n:=9) (.s [0,1,2,3,4,5]<| .o 6<| .s [7,8]<| .d) [⟨some g9,84,[slv (some go) yos.length yoc,slv (some gq) yrs.length yqc]⟩,⟨some go,3,(yocs.set k (.int .i64 (-1))).set k (.int .i64 u)⟩] hm rfl rfl ?_
    clear hm;intro t_ w1_ hm
    repeat' (first|(refine dge39a_ ?_;clear t_ hs hm a;intros;rename_i a hm hs t_)|refine tE t_ ?_|refine tC ?_ ?_|exact tN|intro t_|(refine tD t_ ?_;(exact And.intro rfl ⟨(sb_ hs),hm⟩))|fail)
   clear hs hm a
   rintro a w' ⟨hs,hm⟩
   rw[List.set_set]at hm
   refine gs0d2a_ ?_;clear hs hm a;intros;rename_i a hm hs
   have hset:=RW.set_ok ho k u
   have hlq:((yrs.map RW.is).set k (tlS gr (u::l).length r.c l)).length=yrs.length:=by rw[List.length_set,List.length_map]
   have hmem:∀r'∈yrs,r'.hp∈(⟨some gr,3,r.cs⟩:Hp)::(yrs.eraseIdx k).map RW.hp:=fun r' hr'=>by
    rcases List.mem_cons.1 ((er_perm hr2).mem_iff.1 hr')with rfl|h
    ·unfold RW.hp;rw[hgr];exact List.Mem.head _
    ·exact List.Mem.tail _ (List.mem_map_of_mem h)
   refine gRetN tab hs rfl (.cons (.cells rfl rfl rfl rfl (hm.ro (k:=0) (n:=2) (g:=g6) mem_ (cutF_ok rfl))) (.cons (.tmp rfl) (.cons (.tmp rfl) .nil))) ⟨⟨RW.is ⟨some go,yoc,yocs.set k (.int .i64 u),yos.set k u⟩,(some gq:Option Nat).map fun g=>⟨g,0,none⟩,yqc,(yrs.map RW.is).set k (tlS gr (u::l).length r.c l)⟩,?_,ks_mk (qcs:=yqcs.set k (tlS gr (u::l).length r.c l).v) hm mem_ hset mem_ ?_ ?_,ks_new (qcs:=yqcs.set k (tlS gr (u::l).length r.c l).v) hm mem_ mem_ ?_,?_,hm.fr⟩
   ·unfold KS.v
    dsimp only
    rw[hlq,RW.is_v]
    unfold RW.v
    dsimp only
    rw[List.length_set]
    rfl
   ·rw[hlq,←isv_set]
    exact hq.set _ _
   ·intro q hq'
    rcases List.mem_or_eq_of_mem_set hq' with h|rfl
    ·obtain⟨r',hr',rfl⟩:=List.mem_map.1 h
     exact RW.ok_is hm (mem5 (hmem r' hr')) (hrs r' hr')
    ·exact tlS_ok hm mem_ hro
   ·intro q hq' b hb
    rcases List.mem_or_eq_of_mem_set hq' with h|rfl
    ·obtain⟨r',hr',rfl⟩:=List.mem_map.1 h
     exact(hm.ow _ (mem5 (hmem r' hr')) b (IS.blk_rw hb)).resolve_right id
    ·obtain rfl:=tlS_blk hb
     exact(hm.ow ⟨some b,3,r.cs⟩ mem_ b rfl).resolve_right id
   ·unfold KS.ab
    dsimp only
    rw[List.map_set,List.map_map,←hyq]
    rfl
 ·rw[if_neg c1]
  refine enterR Tryz.func112 rfl rfl rfl fun a hs hm=>?_
  refine gs0d2a_ ?_;clear hs hm a;intros;rename_i a hm hs
  obtain⟨g6,rfl⟩:=hs.pp 6
  refine st hs rfl rfl rfl (d_call hs rfl rfl rfl (pl 122 rfl) ((hcp _ hm.fr))) ?_;clear hs a;rintro _ w1 ⟨y,rfl,hy,hyab,hyl,hN,hf⟩ a hs
  have hm6:=cp_gain hm hf hN
  clear hm hf hN
  have hm:=hm6
  clear hm6
  unfold KO.v RW.v at hs
  refine gs0d2a_ ?_;clear hs hm a;intros;rename_i a hm hs
  refine gRetN tab hs rfl (.cons (.cells rfl rfl rfl rfl (hm.ro (k:=0) (n:=2) (g:=g6) mem_ (cutF_ok rfl))) (.cons (.tmp rfl) (.cons (.tmp rfl) .nil))) ⟨y.ks,by rw[KO.ks_v];rfl,KO.ks_ok hm ?_ hy,KO.new_at hm ?_,by rw[KO.ks_ab,hyab],hm.fr⟩
  ·skip
   intro h hh
   rcases List.mem_cons.1 hh with rfl|hh
   ·exact mem_
   ·rcases List.mem_cons.1 hh with rfl|hh
    ·exact mem_
    ·repeat(first|exact hh|apply List.mem_cons_of_mem)
  ·skip
   intro h hh
   rcases List.mem_cons.1 hh with rfl|hh
   ·exact mem_
   ·rcases List.mem_cons.1 hh with rfl|hh
    ·exact mem_
    ·repeat(first|exact hh|apply List.mem_cons_of_mem)
end Go.Proofs.YtbjffoojenpmfaaGreat
