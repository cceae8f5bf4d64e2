/- Texts put together: Shn, Sho, Shp, Shq, Sgu. -/
import Derived.Test.YtbjffoojenpmfaaGreatMgSOj
set_option maxRecDepth 20000
set_option maxHeartbeats 64000000
set_option linter.unusedVariables false
set_option linter.unusedSimpArgs false
namespace Go.Proofs.YtbjffoojenpmfaaGreat
open Go.RowKit
theorem gcShn0_{G H:Prop}(k:H)(s:Bx H→G:=by intro k_;(repeat(first|(refine ov701a_ ?_;(try clear hs a);intro a hs)|((with_reducible apply lCons);first|(refine dv hs gw_ rfl rfl da_ ?_;(try clear hs hm a);rintro _ w_ ⟨g_,rfl,-,hm⟩ a hs)|(refine stn hs rfl rfl ds_ ?_;(try clear hs hm a);rintro-w_ hm a hs))|refine sc_ ?_|((with_reducible apply lCons);first|(refine dvc hs hm gw_ rfl rfl rfl rfl rfl (pl 111 rfl) (kb _) ?_;(try clear hs hm a);intro w_ hm a hs))));(first|(have m_:=hm;have s_:=hs;clear hs;(try clear hm);revert m_ s_ a)|((first|refine rexc_ hs hm ?_|refine rexl_ hs hm ?_|refine rexg_ hs hm ?_|refine rexq_ hs hm ?_);intro a hm hs;revert hm hs a));(try revert w_);(repeat revert g_);exact k_.h):G:=s ⟨k⟩
theorem put_spw [HB](p:PV)(N gm:Nat)(y:MO)(B:Int)(tk:Nat)(q:ThD)(r:RqV)(x:RsV)(wB:World)(hp:p.at wB N)(hpv:p.val)(hN:N≤wB.heap.size)(hM:Mm (own y.hps) wB y.hps wB)(hno:∀b,b<N→¬own y.hps b)(hy:y.ok)(hv:y.d.val p.ss B)(hh:Ro wB gm 0 y.vs)(hng:¬own y.hps gm)(ht:tk<4)(hth:r.th=(tk:Int))(hq:y.d.ts[tk]?=some q) (hq2:q.st=2) (hra:Rd wB N r.a.A (cns r.a.xs)) (hrv:r.val) (hrk:r.kin) (hst:r.stop=1) (hxd:Rd wB N x.d.A (cns x.d.xs)) (hxf:x.fit) (hcall:r.call=10):
  Ret Tryz.prog 128 [p.v,pt gm,r.v,x.v] wB (fun u w'=>∃(z:MO)(b:Bool),u= .bool b∧z.ok∧z.d.val p.ss B∧z.vs=y.vs∧Mm (own y.hps) wB z.hps w'):=by
 obtain⟨A0,hA0⟩:∃A0,own y.hps=A0:=⟨_,rfl⟩
 rw[hA0]
 obtain⟨th,stop,trap,cnt,pc,call,ra,rd⟩:=r
 obtain⟨xv,xd,sp,wt⟩:=x
 dsimp only at hth hst hra hxd hcall
 subst hth hst
 have htl:y.ts.length=4:=by have:=hv.t;rwa[MO.d_len]at this
 have hrt:=hy.t
 rw[htl]at hrt
 obtain⟨gt,hgt⟩:=hrt.some_ (by omega)
 rw[hgt]at hrt
 have hcl:=hrt.len
 have hle:=hrt.le
 have hm0:Mm A0 wB (⟨some gt,52,y.tcs⟩::⟨y.bA,3,y.bcs⟩::(y.m.hps++y.ts.map ThO.hp)) wB:=by
  rw[←hA0,←hgt]
  exact hM
 have hh1:Ro wB gm 0 (y.cl [slv (some gt) 4 y.tc]):=by rw[←hgt,←htl];exact hh
 have hnA:∀b,b<N→¬A0 b:=hA0▸hno
 have hngA:¬A0 gm:=hA0▸hng
 have hrav:∀c∈ra.xs,c.val:=hrv.av
 have hxv:xv.val:=hxf.v
 have hxdn:xd.xs.length≤16:=hxf.d
 have hxdv:∀c∈xd.xs,c.val:=hxf.dv
 have hsp:-1≤sp∧sp≤3:=hxf.sp
 have hLS:∀{L:List Hp}{z:MO}{w:World},Mm A0 wB L w→(∀h∈z.hps,h∈L)→z.ok→z.d.val p.ss B→(lsX p z.mv).ok w:=fun hm hM zo zv=>lsX_ok ((hp.fr hm.fr hN hnA).ok (Nat.le_trans hN hm.fr.size)) hpv (MO.mv_ok hm hM zo) (by rw[MO.mv_d];exact zv)
 have kraw:∀(z:MO)(c:CN)(w'':World),(lsX p z.mv).ok w''→z.d.val p.ss B→c.val→Ret Tryz.prog 63 [.agg #[slv z.bA z.bs.length z.bc,.int .u16 z.key],.slice p.sA p.ss.length p.sc,.agg #[.int .u8 c.t,.int .u16 c.v,.int .i64 c.r,.int .i64 c.o]] w'' (fun u w'=>u= .tuple #[.agg #[.int .u8 (rawC (lsX p z.mv) c).t,.int .u16 (rawC (lsX p z.mv) c).v],.int .i64 (rawE (lsX p z.mv) c)]∧Pu w'' w'):=fun z c w'' hX zv hc=>by
  have h:=rawz_c (lsX p z.mv) c w'' hX hc
  rw[lsX_l (B:=B) (by rw[MO.mv_d];exact zv)]at h
  exact h
 have hex:∀(z:MO)(b:Bool)(w':World),z.ok→z.d.val p.ss B→z.vs=y.vs→Mm A0 wB z.hps w'→∃(z':MO)(b':Bool),Value.bool b= .bool b'∧z'.ok∧z'.d.val p.ss B∧z'.vs=y.vs∧Mm A0 wB z'.hps w':=fun z b w' h1 h2 h3 h4=>⟨z,b,rfl,h1,h2,h3,h4⟩
 obtain⟨qy,hqy,hqyd⟩:=MO.d_th hq
 have hyh:∀h∈y.hps,h∈(⟨some gt,52,y.tcs⟩:Hp)::⟨y.bA,3,y.bcs⟩::(y.m.hps++y.ts.map ThO.hp):=fun h hh=>by rw[←hgt];exact hh
 subst hcall
 have kb:=fun w''=>buf_c 10 w'' (by omega)
 rw[show bufF 10=0 from rfl]at kb
 have hal:ra.xs.length=2:=hrk.n
 have hc1v:=hrav _ (List.getElem_mem (show 1<ra.xs.length by omega))
 obtain⟨b1,o1,hA,hb1,r1⟩:=hra.ro (by rw[cns_len];omega)
 have hnb1:=hnA b1 hb1
 have r2:=r1.flat CN.cs_len (show 0<ra.xs.length by omega)
 have hc0:=hrav _ (List.getElem_mem (show 0<ra.xs.length by omega))
 have ht0:(ra.xs[0]'(by omega)).t=0:=by
  have h:=hrk.k 0 (show 0<ra.xs.length by omega) (by show 0<(kndF 10).length;decide)
  simpa[kndF,fitB]using h
 have r4:=r1.flat CN.cs_len (show 1<ra.xs.length by omega)
 have r4':∀_:Unit,Ro wB b1 (o1+1*4) (CN.cs (ra.xs[1]'(by omega))):=fun _=>r4
 clear r4
 generalize ra.xs[1]'(by omega)=c1 at r4' hc1v
 generalize ra.xs[0]'(by omega)=c0 at r2 hc0 ht0
 unfold CN.cs at r2 r4'
 rw[ht0]at r2
 have hwr:IntKind.i64.wrap c0.v=c0.v:=wrap_idP (by have:=hc0.v;omega)
 have hc0v:=hc0.v
 unfold PV.v RqV.v RsV.v
 dsimp only
 rw[hA]
 refine enterR Tryz.func128 rfl rfl rfl fun a hs hm=>?_
 clear hm
 have hm:=hm0
 refine gq20dc_ ?_;clear hs hm a;intros;rename_i a hm hs
 obtain⟨g4,rfl⟩:=hs.pp 4
 obtain⟨g6,rfl⟩:=hs.pp 6
 obtain⟨g7,rfl⟩:=hs.pp 7
 have hhU:∀_:Unit,Ro wB gm 0 (y.cl [slv (some gt) 4 y.tc]):=fun _=>hh1
 have hhL:Ro wB gm 0 [slv y.bA y.bs.length y.bc,.int .u16 y.key]:=fun j v hj=>hh1 j v (by
  have:=(List.getElem?_eq_some_iff.1 hj).1
  rcases(by simp at this;omega:j=0∨j=1)with rfl|rfl<;>exact hj)
 clear hh1 hh
 refine cMid (fun a w=>∃g10:Nat,Sl Tryz.f128.ntmps [(1,pt gm),(4,pt g4),(6,pt g6),(7,pt g7),(9,.pointer (some ⟨gt,tk*8,none⟩)),(10,pt g10),(11,.int .i64 (rawE (lsX p y.mv) xv))] a∧Mm A0 wB (⟨some g10,103,[.int .u8 (rawC (lsX p y.mv) xv).t,.int .u16 (rawC (lsX p y.mv) xv).v]⟩::⟨some g7,175,[.int .u8 xv.t,.int .u16 xv.v,.int .i64 xv.r,.int .i64 xv.o,.slice xd.A xd.xs.length xd.c,.int .i64 sp,.bool wt]⟩::⟨some g6,173,[.int .i64 (tk:Int),.int .i64 1,.int .i64 trap,.int .i64 cnt,.int .i64 pc,.int .i64 10,.slice (some ⟨b1,o1,none⟩) ra.xs.length ra.c,.slice rd.A rd.xs.length rd.c]⟩::⟨some g4,38,(p.cl [])⟩::⟨some gt,52,y.tcs⟩::⟨y.bA,3,y.bcs⟩::(y.m.hps++y.ts.map ThO.hp)) w) ?_ ?_
 ·with_reducible repeat(first|apply gThen|apply wp_seq)
  refine cDrawT (n:=15) (.s [0,1,2,3,4,5,6,7]<| .e [(8,.x<| .s [9,10,11]<| .o 12<| .o 13<| .t 14<| .d),(12,.o 8<| .x<| .s [9,10,11]<| .o 13<| .t 14<| .d)]) [⟨some g7,175,[.int .u8 xv.t,.int .u16 xv.v,.int .i64 xv.r,.int .i64 xv.o,.slice xd.A xd.xs.length xd.c,.int .i64 sp,.bool wt]⟩,⟨some g4,38,(p.cl [])⟩] hm rfl rfl ?_
  clear hm;intro t_ w1_ hm
  repeat' (first|(refine dgd799_ ?_;clear t_ hs hm a;intros;rename_i a hm hs t_)|refine tE t_ ?_|refine tC ?_ ?_|exact tN|intro t_|(refine oDo (i:=8) hs rfl (Wnt.none rfl) rfl rfl (by exact d_call hs rfl rfl rfl (pl 63 rfl) ((kraw y xv _ (hLS hm (fun h hh=>by repeat(first|exact hyh h hh|apply List.mem_cons_of_mem)) hy hv) hv hxv))) ?_;clear hs;rintro _ w1 ⟨rfl,hf⟩ a hs;(replace hm:=hm.pu hf);(clear hf);replace t_:=tX t_;refine⟨(hm.sub sub_),?_⟩)|(refine tD t_ ?_;(obtain⟨g10,rfl⟩:=hs.pp 10);(exact And.intro rfl ⟨g10,(sb_ hs),hm⟩))|fail)
 clear hs hm a
 rintro a w ⟨g10,hs,hm⟩
 have hcv:=rawC_val (lsX p y.mv) hxv
 generalize rawC (lsX p y.mv) xv=cv at hs hm hcv
 by_cases he:rawE (lsX p y.mv) xv=0
 rotate_left
 ·refine gsc5af_ ?_;clear hs hm a;intros;rename_i a hm hs
  refine gRet1 hs rfl rfl (hex y false _ hy hv rfl ?_)
  have hm':Mm A0 wB (⟨some gt,52,y.tcs⟩::⟨y.bA,3,y.bcs⟩::(y.m.hps++y.ts.map ThO.hp)) _:=hm.sub sub_
  rw[←hgt]at hm'
  exact hm'
 by_cases hs0:0≤sp
 rotate_left
 ·refine gcShn0_ ?_;clear hs hm a;intros;rename_i a hm hs
  replace hm:=MO.open_ (L:=[⟨some g10,103,[.int .u8 cv.t,.int .u16 cv.v]⟩,⟨some g7,175,[.int .u8 xv.t,.int .u16 xv.v,.int .i64 xv.r,.int .i64 xv.o,.slice xd.A xd.xs.length xd.c,.int .i64 sp,.bool wt]⟩,⟨some g6,173,[.int .i64 (tk:Int),.int .i64 1,.int .i64 trap,.int .i64 cnt,.int .i64 pc,.int .i64 10,.slice (some ⟨b1,o1,none⟩) ra.xs.length ra.c,.slice rd.A rd.xs.length rd.c]⟩,⟨some g4,38,(p.cl [])⟩]) (z:=y) (by rw[show y.hps=⟨y.tA,52,y.tcs⟩::⟨y.bA,3,y.bcs⟩::(y.m.hps++y.ts.map ThO.hp)from rfl,hgt];exact hm) hqy
  simp only[List.cons_append,List.nil_append]at hm
  have hqyv:=(hv).tt qy.d (List.mem_map.2 ⟨qy,List.mem_of_getElem? hqy,rfl⟩)
  have hqyo:=(hy).tt qy (List.mem_of_getElem? hqy)
  have hqyr:Row qy.A qy.d.xs.length qy.c 2 (cvs qy.d.xs) qy.cs:=hqyo
  rw[hqyv.n]at hqyr
  obtain⟨gq,hgq⟩:=hqyr.some_ (by omega)
  rw[show qy.hp=⟨some gq,103,qy.cs⟩ by unfold ThO.hp;rw[hgq],hgt]at hm
  rw[hgq]at hqyr
  have hztl:y.ts.length=4:=by have:=(hv).t;rwa[MO.d_len]at this
  have hzt:=(hy).t
  rw[hztl,hgt]at hzt
  have hztk:tk<y.ts.length:=by omega
  have hzcl:=hzt.len
  have hzle:=hzt.le
  have hqcl:=hqyr.len
  have hqle:=hqyr.le
  have e1:y.tcs[tk*8+1]?=some (slv (some gq) 8 qy.c):=hzt.get (by rw[flat_get ThO.v 8 ThO.len y.ts tk 1 hztk (by omega),(List.getElem?_eq_some_iff.1 hqy).2,←hgq,←hqyv.n];rfl)
  obtain⟨W,hW⟩:∃W,(⟨y.bA,3,y.bcs⟩:Hp)::(y.m.hps++(y.ts.eraseIdx tk).map ThO.hp)=W:=⟨_,rfl⟩
  rw[hW]at hm
  refine cMid (fun a w=>Mm A0 wB (⟨some gq,103,cv.cs++qy.cs.drop 2⟩::⟨some gt,52,y.tcs.set (tk*8+0) (.int .i64 1)⟩::W) w∧Sl Tryz.f128.ntmps [(9,.pointer (some ⟨gt,tk*8,none⟩))] a) ?_ ?_
  ·with_reducible repeat(first|apply gThen|apply wp_seq)
   refine cDrawTB (n:=11) (.s [0,1,2,3,4,5,6]<| .o 7<| .x<| .s [8,9]<| .o 10<| .d) 10 [⟨some g10,103,[.int .u8 cv.t,.int .u16 cv.v]⟩,⟨some gt,52,y.tcs⟩] hm rfl rfl ?_
   clear hm;intro t_ w1_ hm
   repeat' (first|(refine dg95fa_ ?_;clear t_ hs hm a;intros;rename_i a hm hs t_)|refine tEB t_ ?_|refine tCB ?_ ?_|exact tNB|intro t_|(refine oDoNB (i:=7) hs rfl (Wnt.none rfl) rfl (by exact d_store hs rfl rfl rfl tab rfl rfl rfl rfl hm rep_ (putG (by show 0+2≤_;omega))) ?_;clear hs;rintro-w1 hm a hs;replace t_:=tX t_;refine⟨bu_,?_⟩)|(refine tDB t_ ?_;(exact And.intro rfl ⟨hm.sub sub_,(sb_ hs)⟩))|fail)
  clear hs hm a
  rintro a w ⟨hm,hs⟩
  refine gsc5af_ ?_;clear hs hm a;intros;rename_i a hm hs
  obtain⟨k1,k2,k3⟩:=ThO.reg_ok hqyo hqyv (r:=0) (by omega) hcv
  have hrow:Row (some gt) 4 y.tc 8 ((y.ts.set tk (qy.reg 0 cv)).flatMap ThO.v) y.tcs:=by rw[trow_same hztk k3,set_self hqy];exact hzt
  have r1:=trow_set hrow hztk 0 (by omega) (.int .i64 1) (q2:={qy.reg 0 cv with d:={(qy.reg 0 cv).d with st:=1}}) rfl
  refine gRet1 hs rfl rfl (hex (y.upd tk {qy.reg 0 cv with d:={(qy.reg 0 cv).d with st:=1}} (y.tcs.set (tk*8+0) (.int .i64 1)) y.m) true _ (MO.upd_ok hy (hy).m k1 (by rw[hgt,hztl];exact r1)) (MO.upd_val hv (Int.le_refl _) (MO.m_val hv) ⟨by dsimp only;omega,k2.n,by rw[k2.pc];exact hqyv.pc,by rw[k2.cnt];exact hqyv.cnt,by rw[k2.han];exact hqyv.han,k2.sav,by rw[k2.trp];exact hqyv.trp,by rw[k2.cod];exact hqyv.cod,k2.cv⟩) ((MO.upd_vs (MeO.like.refl _)).trans rfl) ?_)
  refine MO.close_ (L:=[]) (m:=y.m) hztk ?_
  rw[hW,hgt,show ThO.hp {qy.reg 0 cv with d:={(qy.reg 0 cv).d with st:=1}}=⟨some gq,103,cv.cs++qy.cs.drop 2⟩ by unfold ThO.hp;rw[←hgq];rfl]
  exact hm
 obtain⟨sk,rfl⟩:∃k:Nat,sp=(k:Int):=⟨sp.toNat,by omega⟩
 have hsk:sk<y.ts.length:=by omega
 refine gcShn0_ ?_;clear hs hm a;intros;rename_i a hm hs
 have r4:=r4' ()
 refine cMid (fun a w=>∃g19:Nat,Sl Tryz.f128.ntmps [(1,pt gm),(4,pt g4),(6,pt g6),(7,pt g7),(9,.pointer (some ⟨gt,tk*8,none⟩)),(10,pt g10),(19,pt g19),(20,.int .i64 (rawE (lsX p y.mv) c1))] a∧Mm A0 wB (⟨some g19,103,[.int .u8 (rawC (lsX p y.mv) c1).t,.int .u16 (rawC (lsX p y.mv) c1).v]⟩::⟨some g10,103,[.int .u8 cv.t,.int .u16 cv.v]⟩::⟨some g7,175,[.int .u8 xv.t,.int .u16 xv.v,.int .i64 xv.r,.int .i64 xv.o,.slice xd.A xd.xs.length xd.c,.int .i64 (sk:Int),.bool wt]⟩::⟨some g6,173,[.int .i64 (tk:Int),.int .i64 1,.int .i64 trap,.int .i64 cnt,.int .i64 pc,.int .i64 10,.slice (some ⟨b1,o1,none⟩) ra.xs.length ra.c,.slice rd.A rd.xs.length rd.c]⟩::⟨some g4,38,(p.cl [])⟩::⟨some gt,52,y.tcs⟩::⟨y.bA,3,y.bcs⟩::(y.m.hps++y.ts.map ThO.hp)) w) ?_ ?_
 ·with_reducible repeat(first|apply gThen|apply wp_seq)
  refine cDrawT (n:=17) (.s [0,1,2,3,4,5,6,7,8,9]<| .e [(10,.x<| .s [11,12,13]<| .o 14<| .o 15<| .t 16<| .d),(14,.o 10<| .x<| .s [11,12,13]<| .o 15<| .t 16<| .d)]) [⟨some g6,173,[.int .i64 (tk:Int),.int .i64 1,.int .i64 trap,.int .i64 cnt,.int .i64 pc,.int .i64 10,.slice (some ⟨b1,o1,none⟩) ra.xs.length ra.c,.slice rd.A rd.xs.length rd.c]⟩,⟨some g4,38,(p.cl [])⟩] hm rfl rfl ?_
  clear hm;intro t_ w1_ hm
  repeat' (first|(refine dgd799_ ?_;clear t_ hs hm a;intros;rename_i a hm hs t_)|refine tE t_ ?_|refine tC ?_ ?_|exact tN|intro t_|(refine oDo (i:=10) hs rfl (Wnt.none rfl) rfl rfl (by exact d_call hs rfl rfl rfl (pl 63 rfl) ((kraw y c1 _ (hLS hm (fun h hh=>by repeat(first|exact hyh h hh|apply List.mem_cons_of_mem)) hy hv) hv hc1v))) ?_;clear hs;rintro _ w1 ⟨rfl,hf⟩ a hs;(replace hm:=hm.pu hf);(clear hf);replace t_:=tX t_;refine⟨(hm.sub sub_),?_⟩)|(refine tD t_ ?_;(obtain⟨g19,rfl⟩:=hs.pp 19);(exact And.intro rfl ⟨g19,(sb_ hs),hm⟩))|fail)
 clear hs hm a r4 r4'
 rintro a w ⟨g19,hs,hm⟩
 have hca:=rawC_val (lsX p y.mv) hc1v
 generalize rawC (lsX p y.mv) c1=ca at hs hm hca
 have hh1:=hhU ()
 clear hhL
 obtain⟨qs,hqs⟩:∃q,y.ts[sk]?=some q:=⟨_,List.getElem?_eq_getElem hsk⟩
 have hget:∀j v,j<8→qs.v[j]?=some v→y.tcs[sk*8+j]?=some v:=fun j v hj hv'=>hrt.get (by rw[flat_get ThO.v 8 ThO.len y.ts sk j hsk hj,(List.getElem?_eq_some_iff.1 hqs).2];exact hv')
 have es:=hget 0 (.int .i64 qs.d.st) (by omega) rfl
 by_cases he2:rawE (lsX p y.mv) c1=0
 rotate_left
 ·refine gq20dc_ ?_;clear hs hm a;intros;rename_i a hm hs
  refine gRet1 hs rfl rfl (hex y false _ hy hv rfl ?_)
  have hm':Mm A0 wB (⟨some gt,52,y.tcs⟩::⟨y.bA,3,y.bcs⟩::(y.m.hps++y.ts.map ThO.hp)) _:=hm.sub sub_
  rw[←hgt]at hm'
  exact hm'
 by_cases hst0:qs.d.st=0
 rotate_left
 ·refine gq20dc_ ?_;clear hs hm a;intros;rename_i a hm hs
  refine gRet1 hs rfl rfl (hex y false _ hy hv rfl ?_)
  have hm':Mm A0 wB (⟨some gt,52,y.tcs⟩::⟨y.bA,3,y.bcs⟩::(y.m.hps++y.ts.map ThO.hp)) _:=hm.sub sub_
  rw[←hgt]at hm'
  exact hm'
 by_cases h255:c0.v≤255
 rotate_left
 ·refine gq20dc_ ?_;clear hs hm a;intros;rename_i a hm hs
  refine gRet1 hs rfl rfl (hex y false _ hy hv rfl ?_)
  have hm':Mm A0 wB (⟨some gt,52,y.tcs⟩::⟨y.bA,3,y.bcs⟩::(y.m.hps++y.ts.map ThO.hp)) _:=hm.sub sub_
  rw[←hgt]at hm'
  exact hm'
 refine gq20dc_ ?_;clear hs hm a;intros;rename_i a hm hs
 have hsk8:sk*8+8≤y.tcs.length:=by omega
 refine cMid (fun a w=>∃qn:ThO,qn.ok∧qn.d={thd0 with st:=1,pc:=c0.v,xs:=ca::List.replicate 7 ⟨0,0⟩}∧Sl Tryz.f128.ntmps [(1,pt gm),(4,pt g4),(6,pt g6),(7,pt g7),(9,.pointer (some ⟨gt,tk*8,none⟩)),(10,pt g10)] a∧Mm A0 wB (qn.hp::⟨some g10,103,[.int .u8 cv.t,.int .u16 cv.v]⟩::⟨some g7,175,[.int .u8 xv.t,.int .u16 xv.v,.int .i64 xv.r,.int .i64 xv.o,.slice xd.A xd.xs.length xd.c,.int .i64 (sk:Int),.bool wt]⟩::⟨some g6,173,[.int .i64 (tk:Int),.int .i64 1,.int .i64 trap,.int .i64 cnt,.int .i64 pc,.int .i64 10,.slice (some ⟨b1,o1,none⟩) ra.xs.length ra.c,.slice rd.A rd.xs.length rd.c]⟩::⟨some g4,38,(p.cl [])⟩::⟨some gt,52,y.tcs.take (sk*8)++qn.v++y.tcs.drop (sk*8+8)⟩::⟨y.bA,3,y.bcs⟩::(y.m.hps++y.ts.map ThO.hp)) w) ?_ ?_
 ·with_reducible repeat(first|apply gThen|apply wp_seq)
  refine cDrawT (n:=16) (.s [0,1,2,3,4,5,6,7,8,9,10,11,12]<| .o 13<| .x<| .t 14<| .o 15<| .x<| .d) [⟨some g19,103,[.int .u8 ca.t,.int .u16 ca.v]⟩,⟨some g7,175,[.int .u8 xv.t,.int .u16 xv.v,.int .i64 xv.r,.int .i64 xv.o,.slice xd.A xd.xs.length xd.c,.int .i64 (sk:Int),.bool wt]⟩,⟨some g6,173,[.int .i64 (tk:Int),.int .i64 1,.int .i64 trap,.int .i64 cnt,.int .i64 pc,.int .i64 10,.slice (some ⟨b1,o1,none⟩) ra.xs.length ra.c,.slice rd.A rd.xs.length rd.c]⟩] hm rfl rfl ?_
  clear hm;intro t_ w1_ hm
  repeat' (first|(refine dgd799_ ?_;clear t_ hs hm a;intros;rename_i a hm hs t_)|refine tE t_ ?_|refine tC ?_ ?_|exact tN|intro t_|(refine oDo (i:=13) hs rfl (Wnt.none rfl) rfl rfl (by exact d_call hs rfl rfl rfl (pl 140 rfl) ((by rw[hwr];exact tnew_c c0.v ca _))) ?_;clear hs;rintro _ w1 ⟨qn,rfl,hqno,hqnd,hN',hf⟩ a hs;(replace hm:=hm.gain hf hN');(clear hf hN');(simp only[List.cons_append,List.nil_append]at hm);replace t_:=tX t_;refine⟨(hm.sub sub_),?_⟩)|(refine oDoN (i:=15) hs rfl (Wnt.none rfl) rfl (by exact d_store hs rfl rfl rfl tab rfl rfl rfl rfl hm rep_ (putG (by show sk*8+8≤_;omega))) ?_;clear hs;rintro-w1 hm a hs;replace t_:=tX t_;refine⟨(hm.sub sub_),?_⟩)|(refine tD t_ ?_;(exact And.intro rfl ⟨qn,hqno,hqnd,(sb_ hs),hm.sub sub_⟩))|fail)
 clear hs hm a
 rintro a w ⟨qn,hqno,hqnd,hs,hm⟩
 have hne:sk≠tk:=fun e=>by
  subst e
  rw[hqy]at hqs
  obtain rfl:=Option.some.inj hqs
  rw[hqyd]at hst0
  omega
 have hsp2:=hrt.splice (o:=sk*8) (ys:=qn.v) (by rw[ThO.len];omega)
 rw[ThO.len,flat_splice ThO.v 8 ThO.len y.ts sk qn hsk]at hsp2
 obtain⟨z,hz⟩:∃z,z=y.upd sk qn (y.tcs.take (sk*8)++qn.v++y.tcs.drop (sk*8+8)) y.m:=⟨_,rfl⟩
 have hB0:0≤B:=by
  have:=(hv.tt qy.d (List.mem_map.2 ⟨qy,List.mem_of_getElem? hqy,rfl⟩)).cnt
  omega
 have zo:z.ok:=by rw[hz];exact MO.upd_ok hy hy.m hqno (by rw[hgt,htl];exact hsp2)
 have zv:z.d.val p.ss B:=by
  rw[hz]
  refine MO.upd_val hv (Int.le_refl _) (MO.m_val hv) ?_
  rw[hqnd]
  exact⟨by dsimp only;omega,rfl,by dsimp only;omega,by show(0:Int)≤0∧(0:Int)≤B;omega,⟨Int.le_refl _,by have:=HB.ge;show(-1:Int)≤HB.h;omega⟩,by show(-1:Int)≤-1∧(-1:Int)≤255;omega,by show(0:Int)≤0∧(0:Int)≤6;omega,by show(0:Int)≤0∧(0:Int)≤65535;omega,fun c hc=>by
   rcases List.mem_cons.1 hc with rfl|hc
   ·exact hca
   ·obtain⟨-,rfl⟩:=List.mem_replicate.1 hc
    exact⟨.inl rfl,by dsimp only;omega,by dsimp only;omega⟩⟩
 have zvs:z.vs=y.vs:=by rw[hz];exact MO.upd_vs (MeO.like.refl _)
 have hzt':z.ts[tk]?=some qy:=by rw[hz];exact(List.getElem?_set_ne hne).trans hqy
 have zA:z.tA=some gt:=by rw[hz];exact hgt
 replace hm:=MO.close_ (z:=y) (q:=qn) (m:=y.m) (L:=[⟨some g10,103,[.int .u8 cv.t,.int .u16 cv.v]⟩,⟨some g7,175,[.int .u8 xv.t,.int .u16 xv.v,.int .i64 xv.r,.int .i64 xv.o,.slice xd.A xd.xs.length xd.c,.int .i64 (sk:Int),.bool wt]⟩,⟨some g6,173,[.int .i64 (tk:Int),.int .i64 1,.int .i64 trap,.int .i64 cnt,.int .i64 pc,.int .i64 10,.slice (some ⟨b1,o1,none⟩) ra.xs.length ra.c,.slice rd.A rd.xs.length rd.c]⟩,⟨some g4,38,(p.cl [])⟩]) hsk (tcs:=y.tcs.take (sk*8)++qn.v++y.tcs.drop (sk*8+8)) (by
  have h1:=MO.open_ (L:=[qn.hp,⟨some g10,103,[.int .u8 cv.t,.int .u16 cv.v]⟩,⟨some g7,175,[.int .u8 xv.t,.int .u16 xv.v,.int .i64 xv.r,.int .i64 xv.o,.slice xd.A xd.xs.length xd.c,.int .i64 (sk:Int),.bool wt]⟩,⟨some g6,173,[.int .i64 (tk:Int),.int .i64 1,.int .i64 trap,.int .i64 cnt,.int .i64 pc,.int .i64 10,.slice (some ⟨b1,o1,none⟩) ra.xs.length ra.c,.slice rd.A rd.xs.length rd.c]⟩,⟨some g4,38,(p.cl [])⟩]) (z:={y with tcs:=y.tcs.take (sk*8)++qn.v++y.tcs.drop (sk*8+8)}) (q:=qs) (t:=sk) (by
   rw[show MO.hps {y with tcs:=y.tcs.take (sk*8)++qn.v++y.tcs.drop (sk*8+8)}=⟨y.tA,52,y.tcs.take (sk*8)++qn.v++y.tcs.drop (sk*8+8)⟩::⟨y.bA,3,y.bcs⟩::(y.m.hps++y.ts.map ThO.hp)from rfl,hgt]
   exact hm) hqs
  have h2:=h1.sub (List.Sublist.cons_cons _ (List.Sublist.cons_cons _ (List.Sublist.cons_cons _ (List.Sublist.cons_cons _ (List.Sublist.cons_cons _ (List.Sublist.cons _ (List.Sublist.refl _)))))))
  exact h2.perm (List.perm_middle (l₁:=[_,_,_,_])))
 rw[←hz]at hm
 refine gsc5af_ ?_;clear hs hm a;intros;rename_i a hm hs
 replace hm:=MO.open_ (L:=[⟨some g10,103,[.int .u8 cv.t,.int .u16 cv.v]⟩,⟨some g7,175,[.int .u8 xv.t,.int .u16 xv.v,.int .i64 xv.r,.int .i64 xv.o,.slice xd.A xd.xs.length xd.c,.int .i64 (sk:Int),.bool wt]⟩,⟨some g6,173,[.int .i64 (tk:Int),.int .i64 1,.int .i64 trap,.int .i64 cnt,.int .i64 pc,.int .i64 10,.slice (some ⟨b1,o1,none⟩) ra.xs.length ra.c,.slice rd.A rd.xs.length rd.c]⟩,⟨some g4,38,(p.cl [])⟩]) (z:=z) hm hzt'
 simp only[List.cons_append,List.nil_append]at hm
 have hqyv:=(zv).tt qy.d (List.mem_map.2 ⟨qy,List.mem_of_getElem? hzt',rfl⟩)
 have hqyo:=(zo).tt qy (List.mem_of_getElem? hzt')
 have hqyr:Row qy.A qy.d.xs.length qy.c 2 (cvs qy.d.xs) qy.cs:=hqyo
 rw[hqyv.n]at hqyr
 obtain⟨gq,hgq⟩:=hqyr.some_ (by omega)
 rw[show qy.hp=⟨some gq,103,qy.cs⟩ by unfold ThO.hp;rw[hgq],zA]at hm
 rw[hgq]at hqyr
 have hztl:z.ts.length=4:=by have:=(zv).t;rwa[MO.d_len]at this
 have hzt:=(zo).t
 rw[hztl,zA]at hzt
 have hztk:tk<z.ts.length:=by omega
 have hzcl:=hzt.len
 have hzle:=hzt.le
 have hqcl:=hqyr.len
 have hqle:=hqyr.le
 have e1:z.tcs[tk*8+1]?=some (slv (some gq) 8 qy.c):=hzt.get (by rw[flat_get ThO.v 8 ThO.len z.ts tk 1 hztk (by omega),(List.getElem?_eq_some_iff.1 hzt').2,←hgq,←hqyv.n];rfl)
 obtain⟨W,hW⟩:∃W,(⟨z.bA,3,z.bcs⟩:Hp)::(z.m.hps++(z.ts.eraseIdx tk).map ThO.hp)=W:=⟨_,rfl⟩
 rw[hW]at hm
 refine cMid (fun a w=>Mm A0 wB (⟨some gq,103,cv.cs++qy.cs.drop 2⟩::⟨some gt,52,z.tcs.set (tk*8+0) (.int .i64 1)⟩::W) w∧Sl Tryz.f128.ntmps [(9,.pointer (some ⟨gt,tk*8,none⟩))] a) ?_ ?_
 ·with_reducible repeat(first|apply gThen|apply wp_seq)
  refine cDrawTB (n:=11) (.s [0,1,2,3,4,5,6]<| .o 7<| .x<| .s [8,9]<| .o 10<| .d) 10 [⟨some g10,103,[.int .u8 cv.t,.int .u16 cv.v]⟩,⟨some gt,52,z.tcs⟩] hm rfl rfl ?_
  clear hm;intro t_ w1_ hm
  repeat' (first|(refine dg95fa_ ?_;clear t_ hs hm a;intros;rename_i a hm hs t_)|refine tEB t_ ?_|refine tCB ?_ ?_|exact tNB|intro t_|(refine oDoNB (i:=7) hs rfl (Wnt.none rfl) rfl (by exact d_store hs rfl rfl rfl tab rfl rfl rfl rfl hm rep_ (putG (by show 0+2≤_;omega))) ?_;clear hs;rintro-w1 hm a hs;replace t_:=tX t_;refine⟨bu_,?_⟩)|(refine tDB t_ ?_;(exact And.intro rfl ⟨hm.sub sub_,(sb_ hs)⟩))|fail)
 clear hs hm a
 rintro a w ⟨hm,hs⟩
 refine gsc5af_ ?_;clear hs hm a;intros;rename_i a hm hs
 obtain⟨k1,k2,k3⟩:=ThO.reg_ok hqyo hqyv (r:=0) (by omega) hcv
 have hrow:Row (some gt) 4 z.tc 8 ((z.ts.set tk (qy.reg 0 cv)).flatMap ThO.v) z.tcs:=by rw[trow_same hztk k3,set_self hzt'];exact hzt
 have r1:=trow_set hrow hztk 0 (by omega) (.int .i64 1) (q2:={qy.reg 0 cv with d:={(qy.reg 0 cv).d with st:=1}}) rfl
 refine gRet1 hs rfl rfl (hex (z.upd tk {qy.reg 0 cv with d:={(qy.reg 0 cv).d with st:=1}} (z.tcs.set (tk*8+0) (.int .i64 1)) z.m) true _ (MO.upd_ok zo (zo).m k1 (by rw[zA,hztl];exact r1)) (MO.upd_val zv (Int.le_refl _) (MO.m_val zv) ⟨by dsimp only;omega,k2.n,by rw[k2.pc];exact hqyv.pc,by rw[k2.cnt];exact hqyv.cnt,by rw[k2.han];exact hqyv.han,k2.sav,by rw[k2.trp];exact hqyv.trp,by rw[k2.cod];exact hqyv.cod,k2.cv⟩) ((MO.upd_vs (MeO.like.refl _)).trans zvs) ?_)
 refine MO.close_ (L:=[]) (m:=z.m) hztk ?_
 rw[hW,zA,show ThO.hp {qy.reg 0 cv with d:={(qy.reg 0 cv).d with st:=1}}=⟨some gq,103,cv.cs++qy.cs.drop 2⟩ by unfold ThO.hp;rw[←hgq];rfl]
 exact hm
theorem gpSho0_{G H:Prop}(k:H)(s:Bx H→G:=by intro k_;(repeat(first|(refine ov701a_ ?_;(try clear hs a);intro a hs)|((with_reducible apply lCons);first|(refine dv hs gw_ rfl rfl da_ ?_;(try clear hs hm a);rintro _ w_ ⟨g_,rfl,-,hm⟩ a hs)|(refine stn hs rfl rfl ds_ ?_;(try clear hs hm a);rintro-w_ hm a hs))|refine sc_ ?_));have m_:=hm;have s_:=hs;clear hs;(try clear hm);revert m_ s_ a;(try revert w_);(repeat revert g_);exact k_.h):G:=s ⟨k⟩
theorem gcSho1_{G H:Prop}(k:H)(s:Bx H→G:=by intro k_;(repeat(first|(refine oq8d44_ ?_;(try clear hs a);intro a hs)|((with_reducible apply lCons);first|(refine dv hs gw_ rfl rfl da_ ?_;(try clear hs hm a);rintro _ w_ ⟨g_,rfl,-,hm⟩ a hs)|(refine stn hs rfl rfl ds_ ?_;(try clear hs hm a);rintro-w_ hm a hs))|((with_reducible apply qNil);(try clear hm);intro w_ hm)|refine cQ_ ?_|refine sc_ ?_|((with_reducible apply lCons);first|(refine dvc hs hm gw_ rfl rfl rfl rfl rfl (pl 61 rfl) (kprp _ (hLS hm (fun h hh=>by repeat(first|exact hyh h hh|apply List.mem_cons_of_mem)) hy hv)) ?_;(try clear hs hm a);intro w_ hm a hs))|((with_reducible apply qCons);first|(refine qwc hs gw_ rfl rfl rfl rfl rfl (pl 61 rfl) (fun w hm=>kprp _ (hLS hm (fun h hh=>by repeat(first|exact hyh h hh|apply List.mem_cons_of_mem)) hy hv)) ?_;(try clear hs a);intro a hs))));(first|(have m_:=hm;have s_:=hs;clear hs;(try clear hm);revert m_ s_ a)|((first|refine rexc_ hs hm ?_|refine rexl_ hs hm ?_|refine rexg_ hs hm ?_|refine rexq_ hs hm ?_);intro a hm hs;revert hm hs a));(try revert w_);(repeat revert g_);exact k_.h):G:=s ⟨k⟩
theorem gpSho2_{G H:Prop}(k:H)(s:Bx H→G:=by intro k_;(repeat(first|(refine oq8d44_ ?_;(try clear hs a);intro a hs)|((with_reducible apply lCons);first|(refine dv hs gw_ rfl rfl da_ ?_;(try clear hs hm a);rintro _ w_ ⟨g_,rfl,-,hm⟩ a hs)|(refine stn hs rfl rfl ds_ ?_;(try clear hs hm a);rintro-w_ hm a hs))|((with_reducible apply qNil);(try clear hm);intro w_ hm)|refine cQ_ ?_|refine sc_ ?_));have m_:=hm;have s_:=hs;clear hs;(try clear hm);revert m_ s_ a;(try revert w_);(repeat revert g_);exact k_.h):G:=s ⟨k⟩
theorem bufF_two{c:Int}(h:bufF c=2):c=2∨c=14:=by
 unfold bufF at h
 split at h
 ·omega
 ·split at h
  ·omega
  ·split at h
   ·exact .inl (by assumption)
   ·split at h
    ·exact .inr (by assumption)
    ·omega
structure PbX where
 k:Nat
 m:MeO
theorem put_buf [HB](p:PV)(N gm:Nat)(y:MO)(B:Int)(tk:Nat)(q:ThD)(r:RqV)(x:RsV)(wB:World)(hp:p.at wB N)(hpv:p.val)(hN:N≤wB.heap.size)(hM:Mm (own y.hps) wB y.hps wB)(hno:∀b,b<N→¬own y.hps b)(hy:y.ok)(hv:y.d.val p.ss B)(hh:Ro wB gm 0 y.vs)(hng:¬own y.hps gm)(ht:tk<4)(hth:r.th=(tk:Int))(hq:y.d.ts[tk]?=some q) (hq2:q.st=2) (hra:Rd wB N r.a.A (cns r.a.xs)) (hrv:r.val) (hrk:r.kin) (hst:r.stop=1) (hxd:Rd wB N x.d.A (cns x.d.xs)) (hxf:x.fit) (hcall:bufF r.call=2) (hnz:0<x.d.xs.length):
  Ret Tryz.prog 128 [p.v,pt gm,r.v,x.v] wB (fun u w'=>∃(z:MO)(b:Bool),u= .bool b∧z.ok∧z.d.val p.ss B∧z.vs=y.vs∧Mm (own y.hps) wB z.hps w'):=by
 obtain⟨A0,hA0⟩:∃A0,own y.hps=A0:=⟨_,rfl⟩
 rw[hA0]
 obtain⟨th,stop,trap,cnt,pc,call,ra,rd⟩:=r
 obtain⟨xv,xd,sp,wt⟩:=x
 dsimp only at hth hst hra hxd hcall hnz
 subst hth hst
 have htl:y.ts.length=4:=by have:=hv.t;rwa[MO.d_len]at this
 have hrt:=hy.t
 rw[htl]at hrt
 obtain⟨gt,hgt⟩:=hrt.some_ (by omega)
 rw[hgt]at hrt
 have hcl:=hrt.len
 have hle:=hrt.le
 have hm0:Mm A0 wB (⟨some gt,52,y.tcs⟩::⟨y.bA,3,y.bcs⟩::(y.m.hps++y.ts.map ThO.hp)) wB:=by
  rw[←hA0,←hgt]
  exact hM
 have hh1:Ro wB gm 0 (y.cl [slv (some gt) 4 y.tc]):=by rw[←hgt,←htl];exact hh
 have hnA:∀b,b<N→¬A0 b:=hA0▸hno
 have hngA:¬A0 gm:=hA0▸hng
 have hrav:∀c∈ra.xs,c.val:=hrv.av
 have hxv:xv.val:=hxf.v
 have hxdn:xd.xs.length≤16:=hxf.d
 have hxdv:∀c∈xd.xs,c.val:=hxf.dv
 have hsp:-1≤sp∧sp≤3:=hxf.sp
 have hLS:∀{L:List Hp}{z:MO}{w:World},Mm A0 wB L w→(∀h∈z.hps,h∈L)→z.ok→z.d.val p.ss B→(lsX p z.mv).ok w:=fun hm hM zo zv=>lsX_ok ((hp.fr hm.fr hN hnA).ok (Nat.le_trans hN hm.fr.size)) hpv (MO.mv_ok hm hM zo) (by rw[MO.mv_d];exact zv)
 have kraw:∀(z:MO)(c:CN)(w'':World),(lsX p z.mv).ok w''→z.d.val p.ss B→c.val→Ret Tryz.prog 63 [.agg #[slv z.bA z.bs.length z.bc,.int .u16 z.key],.slice p.sA p.ss.length p.sc,.agg #[.int .u8 c.t,.int .u16 c.v,.int .i64 c.r,.int .i64 c.o]] w'' (fun u w'=>u= .tuple #[.agg #[.int .u8 (rawC (lsX p z.mv) c).t,.int .u16 (rawC (lsX p z.mv) c).v],.int .i64 (rawE (lsX p z.mv) c)]∧Pu w'' w'):=fun z c w'' hX zv hc=>by
  have h:=rawz_c (lsX p z.mv) c w'' hX hc
  rw[lsX_l (B:=B) (by rw[MO.mv_d];exact zv)]at h
  exact h
 have hex:∀(z:MO)(b:Bool)(w':World),z.ok→z.d.val p.ss B→z.vs=y.vs→Mm A0 wB z.hps w'→∃(z':MO)(b':Bool),Value.bool b= .bool b'∧z'.ok∧z'.d.val p.ss B∧z'.vs=y.vs∧Mm A0 wB z'.hps w':=fun z b w' h1 h2 h3 h4=>⟨z,b,rfl,h1,h2,h3,h4⟩
 obtain⟨qy,hqy,hqyd⟩:=MO.d_th hq
 have hyh:∀h∈y.hps,h∈(⟨some gt,52,y.tcs⟩:Hp)::⟨y.bA,3,y.bcs⟩::(y.m.hps++y.ts.map ThO.hp):=fun h hh=>by rw[←hgt];exact hh
 have hc2:=bufF_two hcall
 have kb:=fun w''=>buf_c call w'' (by omega)
 rw[hcall]at kb
 have hal:ra.xs.length=3:=by rcases hc2 with rfl|rfl<;>exact hrk.n
 have hc1v:=hrav _ (List.getElem_mem (show 1<ra.xs.length by omega))
 obtain⟨b1,o1,hA,hb1,r1⟩:=hra.ro (by rw[cns_len];omega)
 have hnb1:=hnA b1 hb1
 have r2:=r1.flat CN.cs_len (show 1<ra.xs.length by omega)
 have ht1:(ra.xs[1]'(by omega)).t=1:=by
  rcases hc2 with rfl|rfl
  ·have h:=hrk.k 1 (show 1<ra.xs.length by omega) (by show 1<(kndF 2).length;decide)
   simpa[kndF,fitB]using h
  ·have h:=hrk.k 1 (show 1<ra.xs.length by omega) (by show 1<(kndF 14).length;decide)
   simpa[kndF,fitB]using h
 generalize ra.xs[1]'(by omega)=c1 at r2 hc1v ht1
 unfold CN.cs at r2
 rw[ht1]at r2
 obtain⟨-,hc1r1,hc1r2,hc1o1,hc1o2,-⟩:=hc1v.p ht1
 obtain⟨b5,o5,hD,hb5,r5⟩:=hxd.ro (by rw[cns_len];omega)
 have hnb5:=hnA b5 hb5
 have kprp:∀w'',(lsX p y.mv).ok w''→Ret Tryz.prog 61 [.slice p.sA p.ss.length p.sc,.agg #[.int .u8 1,.int .u16 c1.v,.int .i64 c1.r,.int .i64 c1.o]] w'' (fun u w'=>u= .bool (prpF p.ss 1 c1.v c1.r c1.o)∧Pu w'' w'):=fun w'' hX=>rprp_c (lsX p y.mv) 1 c1.v c1.r c1.o w'' hX (.inr (.inl rfl))
 have kins:∀(z:MO)(o:Int) w'',(lsX p z.mv).ok w''→Ret Tryz.prog 72 [.slice p.sA p.ss.length p.sc,.agg #[.int .i64 c1.r,.int .i64 o]] w'' (fun u w'=>u= .bool (insF p.ss c1.r o)∧Pu w'' w'):=fun z o w'' hX=>rins_c p.sA p.ss.length p.sc p.ss c1.r o w'' rfl hX.sr
 have kadr:∀(z:MO)(o:Int) w'',(lsX p z.mv).ok w''→z.d.val p.ss B→Ret Tryz.prog 139 [.agg #[slv z.bA z.bs.length z.bc,.int .u16 z.key],.slice p.sA p.ss.length p.sc,.agg #[.int .i64 c1.r,.int .i64 o]] w'' (fun u w'=>u= .tuple #[.int .i64 (adrF (lsX p z.mv) c1.r o).1,.int .i64 (adrF (lsX p z.mv) c1.r o).2]∧Pu w'' w'):=fun z o w'' hX zv=>by
  have h:=radr_c (lsX p z.mv) c1.r o w'' hX
  rw[lsX_l (B:=B) (by rw[MO.mv_d];exact zv)]at h
  exact h
 have hgm2:∀m:MeO,own m.hps gm→∀{L:List Hp}{w:World},Mm A0 wB L w→(∀h∈m.hps,h∈L)→False:=fun m ⟨h,hh,e⟩ L w hm hM=>by
  have hlt:gm<wB.heap.size:=World.block_lt_of_cell? _ _ (hh1 0 _ rfl)
  rcases hm.ow h (hM h hh) gm e with h1|h1
  ·omega
  ·exact hngA h1
 unfold PV.v RqV.v RsV.v
 dsimp only
 rw[hA,hD]
 refine enterR Tryz.func128 rfl rfl rfl fun a hs hm=>?_
 clear hm
 have hm:=hm0
 refine gq20dc_ ?_;clear hs hm a;intros;rename_i a hm hs
 obtain⟨g4,rfl⟩:=hs.pp 4
 obtain⟨g6,rfl⟩:=hs.pp 6
 obtain⟨g7,rfl⟩:=hs.pp 7
 have hhU:∀_:Unit,Ro wB gm 0 (y.cl [slv (some gt) 4 y.tc]):=fun _=>hh1
 have hhL:Ro wB gm 0 [slv y.bA y.bs.length y.bc,.int .u16 y.key]:=fun j v hj=>hh1 j v (by
  have:=(List.getElem?_eq_some_iff.1 hj).1
  rcases(by simp at this;omega:j=0∨j=1)with rfl|rfl<;>exact hj)
 clear hh1 hh
 refine cMid (fun a w=>∃g10:Nat,Sl Tryz.f128.ntmps [(1,pt gm),(4,pt g4),(6,pt g6),(7,pt g7),(9,.pointer (some ⟨gt,tk*8,none⟩)),(10,pt g10),(11,.int .i64 (rawE (lsX p y.mv) xv))] a∧Mm A0 wB (⟨some g10,103,[.int .u8 (rawC (lsX p y.mv) xv).t,.int .u16 (rawC (lsX p y.mv) xv).v]⟩::⟨some g7,175,[.int .u8 xv.t,.int .u16 xv.v,.int .i64 xv.r,.int .i64 xv.o,.slice (some ⟨b5,o5,none⟩) xd.xs.length xd.c,.int .i64 sp,.bool wt]⟩::⟨some g6,173,[.int .i64 (tk:Int),.int .i64 1,.int .i64 trap,.int .i64 cnt,.int .i64 pc,.int .i64 call,.slice (some ⟨b1,o1,none⟩) ra.xs.length ra.c,.slice rd.A rd.xs.length rd.c]⟩::⟨some g4,38,(p.cl [])⟩::⟨some gt,52,y.tcs⟩::⟨y.bA,3,y.bcs⟩::(y.m.hps++y.ts.map ThO.hp)) w) ?_ ?_
 ·with_reducible repeat(first|apply gThen|apply wp_seq)
  refine cDrawT (n:=15) (.s [0,1,2,3,4,5,6,7]<| .e [(8,.x<| .s [9,10,11]<| .o 12<| .o 13<| .t 14<| .d),(12,.o 8<| .x<| .s [9,10,11]<| .o 13<| .t 14<| .d)]) [⟨some g7,175,[.int .u8 xv.t,.int .u16 xv.v,.int .i64 xv.r,.int .i64 xv.o,.slice (some ⟨b5,o5,none⟩) xd.xs.length xd.c,.int .i64 sp,.bool wt]⟩,⟨some g4,38,(p.cl [])⟩] hm rfl rfl ?_
  clear hm;intro t_ w1_ hm
  repeat' (first|(refine dgd799_ ?_;clear t_ hs hm a;intros;rename_i a hm hs t_)|refine tE t_ ?_|refine tC ?_ ?_|exact tN|intro t_|(refine oDo (i:=8) hs rfl (Wnt.none rfl) rfl rfl (by exact d_call hs rfl rfl rfl (pl 63 rfl) ((kraw y xv _ (hLS hm (fun h hh=>by repeat(first|exact hyh h hh|apply List.mem_cons_of_mem)) hy hv) hv hxv))) ?_;clear hs;rintro _ w1 ⟨rfl,hf⟩ a hs;(replace hm:=hm.pu hf);(clear hf);replace t_:=tX t_;refine⟨(hm.sub sub_),?_⟩)|(refine tD t_ ?_;(obtain⟨g10,rfl⟩:=hs.pp 10);(exact And.intro rfl ⟨g10,(sb_ hs),hm⟩))|fail)
 clear hs hm a
 rintro a w ⟨g10,hs,hm⟩
 have hcv:=rawC_val (lsX p y.mv) hxv
 generalize rawC (lsX p y.mv) xv=cv at hs hm hcv
 by_cases he:rawE (lsX p y.mv) xv=0
 rotate_left
 ·refine gsc5af_ ?_;clear hs hm a;intros;rename_i a hm hs
  refine gRet1 hs rfl rfl (hex y false _ hy hv rfl ?_)
  have hm':Mm A0 wB (⟨some gt,52,y.tcs⟩::⟨y.bA,3,y.bcs⟩::(y.m.hps++y.ts.map ThO.hp)) _:=hm.sub sub_
  rw[←hgt]at hm'
  exact hm'
 repeat(first|(refine gpSho0_ ?_;clear hs hm a;intros;rename_i a hm hs)|refine sc_ ?_|((with_reducible apply lCons);first|(refine dvc hs hm gw_ rfl rfl rfl rfl rfl (pl 111 rfl) (kb _) ?_;clear hs hm a;intro w hm a hs)))
 refine cMid (fun a w=>∃g12:Nat,Sl Tryz.f128.ntmps [(1,pt gm),(4,pt g4),(6,pt g6),(7,pt g7),(9,.pointer (some ⟨gt,tk*8,none⟩)),(10,pt g10),(12,pt g12)] a∧Mm A0 wB (⟨some g12,129,[.int .i64 c1.r,.int .i64 (c1.o+(0:Int))]⟩::⟨some g10,103,[.int .u8 cv.t,.int .u16 cv.v]⟩::⟨some g7,175,[.int .u8 xv.t,.int .u16 xv.v,.int .i64 xv.r,.int .i64 xv.o,.slice (some ⟨b5,o5,none⟩) xd.xs.length xd.c,.int .i64 sp,.bool wt]⟩::⟨some g6,173,[.int .i64 (tk:Int),.int .i64 1,.int .i64 trap,.int .i64 cnt,.int .i64 pc,.int .i64 call,.slice (some ⟨b1,o1,none⟩) ra.xs.length ra.c,.slice rd.A rd.xs.length rd.c]⟩::⟨some g4,38,(p.cl [])⟩::⟨some gt,52,y.tcs⟩::⟨y.bA,3,y.bcs⟩::(y.m.hps++y.ts.map ThO.hp)) w) ?_ ?_
 ·with_reducible repeat(first|apply gThen|apply wp_seq)
  refine cDrawT (n:=13) (.s [0,1,2,3,4,5,6,7,8,9,10]<| .o 11<| .o 12<| .d) [⟨some g6,173,[.int .i64 (tk:Int),.int .i64 1,.int .i64 trap,.int .i64 cnt,.int .i64 pc,.int .i64 call,.slice (some ⟨b1,o1,none⟩) ra.xs.length ra.c,.slice rd.A rd.xs.length rd.c]⟩] hm rfl rfl ?_
  clear hm;intro t_ w1_ hm
  repeat' (first|(refine dgd799_ ?_;clear t_ hs hm a;intros;rename_i a hm hs t_)|refine tE t_ ?_|refine tC ?_ ?_|exact tN|intro t_|(refine tD t_ ?_;(obtain⟨g12,rfl⟩:=hs.pp 12);(rw[show c1.o=c1.o+((0:Nat):Int) by omega]at hm);(exact And.intro rfl ⟨g12,(sb_ hs),hm⟩))|fail)
 clear hs hm a
 rintro a w ⟨g12,hs,hm⟩
 cases hpr:prpF p.ss 1 c1.v c1.r c1.o
 ·rw[hpr]at kprp
  refine gcSho1_ ?_;clear hs hm a;intros;rename_i a hm hs
  refine gRet1 hs rfl rfl (hex y false _ hy hv rfl ?_)
  have hm':Mm A0 wB (⟨some gt,52,y.tcs⟩::⟨y.bA,3,y.bcs⟩::(y.m.hps++y.ts.map ThO.hp)) _:=hm.sub sub_
  rw[←hgt]at hm'
  exact hm'
 rw[hpr]at kprp
 refine gcSho1_ ?_;clear hs hm a;intros;rename_i a hm hs
 refine cLoop (X:=PbX) (fun X a w=>X.k≤xd.xs.length∧X.m.ok∧X.m.val∧y.m.like X.m∧Sl Tryz.f128.ntmps [(1,pt gm),(4,pt g4),(6,pt g6),(7,pt g7),(9,.pointer (some ⟨gt,tk*8,none⟩)),(10,pt g10),(12,pt g12),(80,.slice (some ⟨b5,o5,none⟩) xd.xs.length xd.c),(81,.int .i64 (xd.xs.length:Int)),(82,.int .i64 (X.k:Int))] a∧Mm A0 wB (⟨some g12,129,[.int .i64 c1.r,.int .i64 (c1.o+(X.k:Int))]⟩::⟨some g10,103,[.int .u8 cv.t,.int .u16 cv.v]⟩::⟨some g7,175,[.int .u8 xv.t,.int .u16 xv.v,.int .i64 xv.r,.int .i64 xv.o,.slice (some ⟨b5,o5,none⟩) xd.xs.length xd.c,.int .i64 sp,.bool wt]⟩::⟨some g6,173,[.int .i64 (tk:Int),.int .i64 1,.int .i64 trap,.int .i64 cnt,.int .i64 pc,.int .i64 call,.slice (some ⟨b1,o1,none⟩) ra.xs.length ra.c,.slice rd.A rd.xs.length rd.c]⟩::⟨some g4,38,(p.cl [])⟩::⟨some gt,52,y.tcs⟩::⟨y.bA,3,y.bcs⟩::(X.m.hps++y.ts.map ThO.hp)) w) (fun X=>xd.xs.length-X.k) ⟨0,y.m⟩ ⟨Nat.zero_le _,hy.m,MO.m_val hv,MeO.like.refl _,(sb_ hs),hm⟩ ?_
 clear hs hm a
 rintro⟨k,m⟩ a w ⟨hk,mo,mv,ml,hs,hm⟩
 dsimp only at hk mo mv ml hs hm
 have htk:tk<y.ts.length:=by omega
 have zeq:y.upd tk qy y.tcs m={y with m:=m}:=by unfold MO.upd;rw[set_self hqy]
 have zo:MO.ok {y with m:=m}:=by rw[←zeq];exact MO.upd_ok hy mo (hy.tt qy (List.mem_of_getElem? hqy)) (by rw[set_self hqy];exact hy.t)
 have zv:MD.val (MO.d {y with m:=m}) p.ss B:=by rw[←zeq];exact MO.upd_val hv (Int.le_refl _) mv (hv.tt qy.d (List.mem_map.2 ⟨qy,List.mem_of_getElem? hqy,rfl⟩))
 have zvs:MO.vs {y with m:=m}=y.vs:=by rw[←zeq];exact MO.upd_vs ml
 have zh:∀h∈MO.hps {y with m:=m},h∈⟨some gt,52,y.tcs⟩::⟨y.bA,3,y.bcs⟩::(m.hps++y.ts.map ThO.hp):=fun h hh=>by rw[←hgt];exact hh
 by_cases hlt:k<xd.xs.length
 ·have r3:=r5.flat CN.cs_len hlt
  have hev:=hxdv _ (List.getElem_mem hlt)
  generalize xd.xs[k]=e at r3 hev
  unfold CN.cs at r3
  refine gsc5af_ ?_;clear hs hm a;intros;rename_i a hm hs
  obtain⟨g14,rfl⟩:=hs.pp 14
  refine cMid (fun a w=>∃g15:Nat,Sl Tryz.f128.ntmps [(1,pt gm),(4,pt g4),(6,pt g6),(7,pt g7),(9,.pointer (some ⟨gt,tk*8,none⟩)),(10,pt g10),(12,pt g12),(80,.slice (some ⟨b5,o5,none⟩) xd.xs.length xd.c),(81,.int .i64 (xd.xs.length:Int)),(82,.int .i64 (k:Int)),(14,pt g14),(15,pt g15),(16,.int .i64 (rawE (lsX p (MO.mv {y with m:=m})) e))] a∧Mm A0 wB (⟨some g15,103,[.int .u8 (rawC (lsX p (MO.mv {y with m:=m})) e).t,.int .u16 (rawC (lsX p (MO.mv {y with m:=m})) e).v]⟩::⟨some g14,95,[.int .u8 e.t,.int .u16 e.v,.int .i64 e.r,.int .i64 e.o]⟩::⟨some g12,129,[.int .i64 c1.r,.int .i64 (c1.o+(k:Int))]⟩::⟨some g10,103,[.int .u8 cv.t,.int .u16 cv.v]⟩::⟨some g7,175,[.int .u8 xv.t,.int .u16 xv.v,.int .i64 xv.r,.int .i64 xv.o,.slice (some ⟨b5,o5,none⟩) xd.xs.length xd.c,.int .i64 sp,.bool wt]⟩::⟨some g6,173,[.int .i64 (tk:Int),.int .i64 1,.int .i64 trap,.int .i64 cnt,.int .i64 pc,.int .i64 call,.slice (some ⟨b1,o1,none⟩) ra.xs.length ra.c,.slice rd.A rd.xs.length rd.c]⟩::⟨some g4,38,(p.cl [])⟩::⟨some gt,52,y.tcs⟩::⟨y.bA,3,y.bcs⟩::(m.hps++y.ts.map ThO.hp)) w) ?_ ?_
  ·with_reducible repeat(first|apply gThen|apply wp_seq)
   refine cDrawT (n:=14) (.s [0,1,2,3,4,5,6]<| .e [(7,.x<| .s [8,9,10]<| .o 11<| .o 12<| .t 13<| .d),(11,.o 7<| .x<| .s [8,9,10]<| .o 12<| .t 13<| .d)]) [⟨some g14,95,[.int .u8 e.t,.int .u16 e.v,.int .i64 e.r,.int .i64 e.o]⟩,⟨some g4,38,(p.cl [])⟩] hm rfl rfl ?_
   clear hm;intro t_ w1_ hm
   repeat' (first|(refine dgd799_ ?_;clear t_ hs hm a;intros;rename_i a hm hs t_)|refine tE t_ ?_|refine tC ?_ ?_|exact tN|intro t_|(refine oDo (i:=7) hs rfl (Wnt.none rfl) rfl rfl (by exact d_call hs rfl rfl rfl (pl 63 rfl) ((kraw {y with m:=m} e _ (hLS hm (fun h hh=>by repeat(first|exact zh h hh|apply List.mem_cons_of_mem)) zo zv) zv hev))) ?_;clear hs;rintro _ w1 ⟨rfl,hf⟩ a hs;(replace hm:=hm.pu hf);(clear hf);replace t_:=tX t_;refine⟨(hm.sub sub_),?_⟩)|(refine tD t_ ?_;(obtain⟨g15,rfl⟩:=hs.pp 15);(exact And.intro rfl ⟨g15,(sb_ hs),hm⟩))|fail)
  clear hs hm a
  rintro a w ⟨g15,hs,hm⟩
  have hce:=rawC_val (lsX p (MO.mv {y with m:=m})) hev
  generalize rawC (lsX p (MO.mv {y with m:=m})) e=ce at hs hm hce
  by_cases he3:rawE (lsX p (MO.mv {y with m:=m})) e=0
  rotate_left
  ·refine gsc5af_ ?_;clear hs hm a;intros;rename_i a hm hs
   refine gRet1 hs rfl rfl (hex {y with m:=m} false _ zo zv zvs ?_)
   have hm':Mm A0 wB (⟨some gt,52,y.tcs⟩::⟨y.bA,3,y.bcs⟩::(m.hps++y.ts.map ThO.hp)) _:=hm.sub sub_
   rw[←hgt]at hm'
   exact hm'
  cases hin:insF p.ss c1.r (c1.o+(k:Int))
  ·have kin:=kins {y with m:=m} (c1.o+(k:Int))
   rw[hin]at kin
   repeat(first|(refine gpSho2_ ?_;clear hs hm a;intros;rename_i a hm hs)|refine sc_ ?_|((with_reducible apply lCons);first|(refine dvc hs hm gw_ rfl rfl rfl rfl rfl (pl 72 rfl) (kin _ (hLS hm (fun h hh=>by repeat(first|exact zh h hh|apply List.mem_cons_of_mem)) zo zv)) ?_;clear hs hm a;intro w hm a hs))|((with_reducible apply qCons);first|(refine qwc hs gw_ rfl rfl rfl rfl rfl (pl 72 rfl) (fun w hm=>kin _ (hLS hm (fun h hh=>by repeat(first|exact zh h hh|apply List.mem_cons_of_mem)) zo zv)) ?_;clear hs a;intro a hs)))
   refine gRet1 hs rfl rfl (hex {y with m:=m} false _ zo zv zvs ?_)
   have hm':Mm A0 wB (⟨some gt,52,y.tcs⟩::⟨y.bA,3,y.bcs⟩::(m.hps++y.ts.map ThO.hp)) _:=hm.sub sub_
   rw[←hgt]at hm'
   exact hm'
  have kin:=kins {y with m:=m} (c1.o+(k:Int))
  rw[hin]at kin
  obtain⟨ad,had,hae⟩:=adr_in (X:=lsX p (MO.mv {y with m:=m})) zv.gap (r:=c1.r) (o:=c1.o+(k:Int)) hin
  have kad:=fun w'' hX=>kadr {y with m:=m} (c1.o+(k:Int)) w'' hX zv
  rw[hae]at kad
  repeat(first|(refine gpSho0_ ?_;clear hs hm a;intros;rename_i a hm hs)|refine sc_ ?_|((with_reducible apply lCons);first|(refine dvc hs hm gw_ rfl rfl rfl rfl rfl (pl 72 rfl) (kin _ (hLS hm (fun h hh=>by repeat(first|exact zh h hh|apply List.mem_cons_of_mem)) zo zv)) ?_;clear hs hm a;intro w hm a hs)))
  refine cMid (fun a w=>Sl Tryz.f128.ntmps [(1,pt gm),(4,pt g4),(6,pt g6),(7,pt g7),(9,.pointer (some ⟨gt,tk*8,none⟩)),(10,pt g10),(12,pt g12),(80,.slice (some ⟨b5,o5,none⟩) xd.xs.length xd.c),(81,.int .i64 (xd.xs.length:Int)),(82,.int .i64 (k:Int)),(15,pt g15),(17,.int .i64 (ad:Int))] a∧Mm A0 wB (⟨some g15,103,[.int .u8 ce.t,.int .u16 ce.v]⟩::⟨some g14,95,[.int .u8 e.t,.int .u16 e.v,.int .i64 e.r,.int .i64 e.o]⟩::⟨some g12,129,[.int .i64 c1.r,.int .i64 (c1.o+(k:Int))]⟩::⟨some g10,103,[.int .u8 cv.t,.int .u16 cv.v]⟩::⟨some g7,175,[.int .u8 xv.t,.int .u16 xv.v,.int .i64 xv.r,.int .i64 xv.o,.slice (some ⟨b5,o5,none⟩) xd.xs.length xd.c,.int .i64 sp,.bool wt]⟩::⟨some g6,173,[.int .i64 (tk:Int),.int .i64 1,.int .i64 trap,.int .i64 cnt,.int .i64 pc,.int .i64 call,.slice (some ⟨b1,o1,none⟩) ra.xs.length ra.c,.slice rd.A rd.xs.length rd.c]⟩::⟨some g4,38,(p.cl [])⟩::⟨some gt,52,y.tcs⟩::⟨y.bA,3,y.bcs⟩::(m.hps++y.ts.map ThO.hp)) w) ?_ ?_
  ·with_reducible repeat(first|apply gThen|apply wp_seq)
   refine cDrawT (n:=13) (.s [0,1,2,3,4,5,6]<| .o 7<| .x<| .s [8,9,10,11,12]<| .d) [⟨some g12,129,[.int .i64 c1.r,.int .i64 (c1.o+(k:Int))]⟩,⟨some g4,38,(p.cl [])⟩] hm rfl rfl ?_
   clear hm;intro t_ w1_ hm
   repeat' (first|(refine dgd799_ ?_;clear t_ hs hm a;intros;rename_i a hm hs t_)|refine tE t_ ?_|refine tC ?_ ?_|exact tN|intro t_|(refine oDo (i:=7) hs rfl (Wnt.none rfl) rfl rfl (by exact d_call hs rfl rfl rfl (pl 139 rfl) ((kad _ (hLS hm (fun h hh=>by repeat(first|exact zh h hh|apply List.mem_cons_of_mem)) zo zv)))) ?_;clear hs;rintro _ w1 ⟨rfl,hf⟩ a hs;(replace hm:=hm.pu hf);(clear hf);replace t_:=tX t_;refine⟨(hm.sub sub_),?_⟩)|(refine tD t_ ?_;(exact And.intro rfl ⟨(sb_ hs),hm⟩))|fail)
  clear hs hm a
  rintro a w ⟨hs,hm⟩
  have hhM:Ro wB gm (0+2) [slv y.m.cA y.m.xs.length y.m.cc,slv y.m.lA y.m.ls.length y.m.lc]:=Ro.sub (d:=2) (hhU ()) (fun j v hj=>by
   have:=(List.getElem?_eq_some_iff.1 hj).1
   rcases(by simp at this;omega:j=0∨j=1)with rfl|rfl<;>exact hj)
  have hhM':Ro wB gm (0+2) [slv m.cA m.xs.length m.cc,slv m.lA m.ls.length m.lc]:=by rw[ml.cA,ml.cc,ml.lA,ml.lc,ml.n,ml.l];exact hhM
  clear hhM
  have hgmm:¬own m.hps gm:=fun e=>hgm2 m e hm (fun h hh=>by
   have h1:h∈m.hps++y.ts.map ThO.hp:=List.mem_append_left _ hh
   repeat(first|exact h1|apply List.mem_cons_of_mem))
  refine cMid (fun a w=>∃m':MeO,m'.ok∧m'.val∧m.like m'∧Sl Tryz.f128.ntmps [(1,pt gm),(4,pt g4),(6,pt g6),(7,pt g7),(9,.pointer (some ⟨gt,tk*8,none⟩)),(10,pt g10),(12,pt g12),(80,.slice (some ⟨b5,o5,none⟩) xd.xs.length xd.c),(81,.int .i64 (xd.xs.length:Int)),(82,.int .i64 (k:Int))] a∧Mm A0 wB (⟨some g15,103,[.int .u8 ce.t,.int .u16 ce.v]⟩::⟨some g14,95,[.int .u8 e.t,.int .u16 e.v,.int .i64 e.r,.int .i64 e.o]⟩::⟨some g12,129,[.int .i64 c1.r,.int .i64 (c1.o+((k+1:Nat):Int))]⟩::⟨some g10,103,[.int .u8 cv.t,.int .u16 cv.v]⟩::⟨some g7,175,[.int .u8 xv.t,.int .u16 xv.v,.int .i64 xv.r,.int .i64 xv.o,.slice (some ⟨b5,o5,none⟩) xd.xs.length xd.c,.int .i64 sp,.bool wt]⟩::⟨some g6,173,[.int .i64 (tk:Int),.int .i64 1,.int .i64 trap,.int .i64 cnt,.int .i64 pc,.int .i64 call,.slice (some ⟨b1,o1,none⟩) ra.xs.length ra.c,.slice rd.A rd.xs.length rd.c]⟩::⟨some g4,38,(p.cl [])⟩::⟨some gt,52,y.tcs⟩::⟨y.bA,3,y.bcs⟩::(m'.hps++y.ts.map ThO.hp)) w) ?_ ?_
  ·with_reducible repeat(first|apply gThen|apply wp_seq)
   refine cDrawT (n:=6) (.s [0,1,2,3,4]<| .o 5<| .x<| .d) [⟨some g15,103,[.int .u8 ce.t,.int .u16 ce.v]⟩] hm rfl rfl ?_
   clear hm;intro t_ w1_ hm
   repeat' (first|(refine dgd799_ ?_;clear t_ hs hm a;intros;rename_i a hm hs t_)|refine tE t_ ?_|refine tC ?_ ?_|exact tN|intro t_|(refine oDo (i:=5) hs rfl (Wnt.none rfl) rfl rfl (by exact d_call hs rfl rfl rfl (pl 45 rfl) ((store_c gm (0+2) m ad ce _ (Mm.partL (A:=m.hps) (B:=y.ts.map ThO.hp) [⟨some g15,103,[.int .u8 ce.t,.int .u16 ce.v]⟩,⟨some g14,95,[.int .u8 e.t,.int .u16 e.v,.int .i64 e.r,.int .i64 e.o]⟩,⟨some g12,129,[.int .i64 c1.r,.int .i64 (c1.o+(k:Int))]⟩,⟨some g10,103,[.int .u8 cv.t,.int .u16 cv.v]⟩,⟨some g7,175,[.int .u8 xv.t,.int .u16 xv.v,.int .i64 xv.r,.int .i64 xv.o,.slice (some ⟨b5,o5,none⟩) xd.xs.length xd.c,.int .i64 sp,.bool wt]⟩,⟨some g6,173,[.int .i64 (tk:Int),.int .i64 1,.int .i64 trap,.int .i64 cnt,.int .i64 pc,.int .i64 call,.slice (some ⟨b1,o1,none⟩) ra.xs.length ra.c,.slice rd.A rd.xs.length rd.c]⟩,⟨some g4,38,(p.cl [])⟩,⟨some gt,52,y.tcs⟩,⟨y.bA,3,y.bcs⟩] hm) mo mv (hhM'.ro hm hngA) hgmm had hce))) ?_;clear hs;rintro _ w1 ⟨m',mo',mv',ml',hk9⟩ a hs;(replace hm:=Mm.swapL (A:=m.hps) (B:=y.ts.map ThO.hp) [⟨some g15,103,[.int .u8 ce.t,.int .u16 ce.v]⟩,⟨some g14,95,[.int .u8 e.t,.int .u16 e.v,.int .i64 e.r,.int .i64 e.o]⟩,⟨some g12,129,[.int .i64 c1.r,.int .i64 (c1.o+(k:Int))]⟩,⟨some g10,103,[.int .u8 cv.t,.int .u16 cv.v]⟩,⟨some g7,175,[.int .u8 xv.t,.int .u16 xv.v,.int .i64 xv.r,.int .i64 xv.o,.slice (some ⟨b5,o5,none⟩) xd.xs.length xd.c,.int .i64 sp,.bool wt]⟩,⟨some g6,173,[.int .i64 (tk:Int),.int .i64 1,.int .i64 trap,.int .i64 cnt,.int .i64 pc,.int .i64 call,.slice (some ⟨b1,o1,none⟩) ra.xs.length ra.c,.slice rd.A rd.xs.length rd.c]⟩,⟨some g4,38,(p.cl [])⟩,⟨some gt,52,y.tcs⟩,⟨y.bA,3,y.bcs⟩] hm hk9);(clear hk9);(simp only[List.cons_append,List.nil_append]at hm);replace t_:=tX t_;refine⟨(hm.sub sub_),?_⟩)|(refine tD t_ ?_;(refine gsc5af_ ?_;clear hs hm a;intros;rename_i a hm hs);(rw[show c1.o+(k:Int)+1=c1.o+((k+1:Nat):Int) by omega]at hm);(exact And.intro rfl ⟨m',mo',mv',ml',(sb_ hs),hm⟩))|fail)
  clear hs hm a
  rintro a w ⟨m',mo',mv',ml',hs,hm⟩
  refine gsc5af_ ?_;clear hs hm a;intros;rename_i a hm hs
  exact⟨⟨k+1,m'⟩,by dsimp only;omega,by dsimp only;omega,mo',mv',ml.trans ml',(sb_ hs),hm.sub sub_⟩
 ·obtain rfl:k=xd.xs.length:=by omega
  refine gsc5af_ ?_;clear hs hm a;intros;rename_i a hm hs
  replace hm:=hm.sub (List.Sublist.cons _ (List.Sublist.refl _))
  obtain⟨z,hz⟩:∃z:MO,z={y with m:=m}:=⟨_,rfl⟩
  have hzt':z.ts[tk]?=some qy:=by rw[hz];exact hqy
  have zA:z.tA=some gt:=by rw[hz];exact hgt
  have zh':z.hps=⟨some gt,52,y.tcs⟩::⟨y.bA,3,y.bcs⟩::(m.hps++y.ts.map ThO.hp):=by rw[hz,←hgt];rfl
  rw[←zh']at hm
  rw[←hz]at zo zv zvs
  replace hm:=MO.open_ (L:=[⟨some g10,103,[.int .u8 cv.t,.int .u16 cv.v]⟩,⟨some g7,175,[.int .u8 xv.t,.int .u16 xv.v,.int .i64 xv.r,.int .i64 xv.o,.slice (some ⟨b5,o5,none⟩) xd.xs.length xd.c,.int .i64 sp,.bool wt]⟩,⟨some g6,173,[.int .i64 (tk:Int),.int .i64 1,.int .i64 trap,.int .i64 cnt,.int .i64 pc,.int .i64 call,.slice (some ⟨b1,o1,none⟩) ra.xs.length ra.c,.slice rd.A rd.xs.length rd.c]⟩,⟨some g4,38,(p.cl [])⟩]) (z:=z) hm hzt'
  simp only[List.cons_append,List.nil_append]at hm
  have hqyv:=(zv).tt qy.d (List.mem_map.2 ⟨qy,List.mem_of_getElem? hzt',rfl⟩)
  have hqyo:=(zo).tt qy (List.mem_of_getElem? hzt')
  have hqyr:Row qy.A qy.d.xs.length qy.c 2 (cvs qy.d.xs) qy.cs:=hqyo
  rw[hqyv.n]at hqyr
  obtain⟨gq,hgq⟩:=hqyr.some_ (by omega)
  rw[show qy.hp=⟨some gq,103,qy.cs⟩ by unfold ThO.hp;rw[hgq],zA]at hm
  rw[hgq]at hqyr
  have hztl:z.ts.length=4:=by have:=(zv).t;rwa[MO.d_len]at this
  have hzt:=(zo).t
  rw[hztl,zA]at hzt
  have hztk:tk<z.ts.length:=by omega
  have hzcl:=hzt.len
  have hzle:=hzt.le
  have hqcl:=hqyr.len
  have hqle:=hqyr.le
  have e1:z.tcs[tk*8+1]?=some (slv (some gq) 8 qy.c):=hzt.get (by rw[flat_get ThO.v 8 ThO.len z.ts tk 1 hztk (by omega),(List.getElem?_eq_some_iff.1 hzt').2,←hgq,←hqyv.n];rfl)
  obtain⟨W,hW⟩:∃W,(⟨z.bA,3,z.bcs⟩:Hp)::(z.m.hps++(z.ts.eraseIdx tk).map ThO.hp)=W:=⟨_,rfl⟩
  rw[hW]at hm
  refine cMid (fun a w=>Mm A0 wB (⟨some gq,103,cv.cs++qy.cs.drop 2⟩::⟨some gt,52,z.tcs.set (tk*8+0) (.int .i64 1)⟩::W) w∧Sl Tryz.f128.ntmps [(9,.pointer (some ⟨gt,tk*8,none⟩))] a) ?_ ?_
  ·with_reducible repeat(first|apply gThen|apply wp_seq)
   refine cDrawTB (n:=11) (.s [0,1,2,3,4,5,6]<| .o 7<| .x<| .s [8,9]<| .o 10<| .d) 10 [⟨some g10,103,[.int .u8 cv.t,.int .u16 cv.v]⟩,⟨some gt,52,z.tcs⟩] hm rfl rfl ?_
   clear hm;intro t_ w1_ hm
   repeat' (first|(refine dg95fa_ ?_;clear t_ hs hm a;intros;rename_i a hm hs t_)|refine tEB t_ ?_|refine tCB ?_ ?_|exact tNB|intro t_|(refine oDoNB (i:=7) hs rfl (Wnt.none rfl) rfl (by exact d_store hs rfl rfl rfl tab rfl rfl rfl rfl hm rep_ (putG (by show 0+2≤_;omega))) ?_;clear hs;rintro-w1 hm a hs;replace t_:=tX t_;refine⟨bu_,?_⟩)|(refine tDB t_ ?_;(exact And.intro rfl ⟨hm.sub sub_,(sb_ hs)⟩))|fail)
  clear hs hm a
  rintro a w ⟨hm,hs⟩
  refine gsc5af_ ?_;clear hs hm a;intros;rename_i a hm hs
  obtain⟨k1,k2,k3⟩:=ThO.reg_ok hqyo hqyv (r:=0) (by omega) hcv
  have hrow:Row (some gt) 4 z.tc 8 ((z.ts.set tk (qy.reg 0 cv)).flatMap ThO.v) z.tcs:=by rw[trow_same hztk k3,set_self hzt'];exact hzt
  have r1:=trow_set hrow hztk 0 (by omega) (.int .i64 1) (q2:={qy.reg 0 cv with d:={(qy.reg 0 cv).d with st:=1}}) rfl
  refine gRet1 hs rfl rfl (hex (z.upd tk {qy.reg 0 cv with d:={(qy.reg 0 cv).d with st:=1}} (z.tcs.set (tk*8+0) (.int .i64 1)) z.m) true _ (MO.upd_ok zo (zo).m k1 (by rw[zA,hztl];exact r1)) (MO.upd_val zv (Int.le_refl _) (MO.m_val zv) ⟨by dsimp only;omega,k2.n,by rw[k2.pc];exact hqyv.pc,by rw[k2.cnt];exact hqyv.cnt,by rw[k2.han];exact hqyv.han,k2.sav,by rw[k2.trp];exact hqyv.trp,by rw[k2.cod];exact hqyv.cod,k2.cv⟩) ((MO.upd_vs (MeO.like.refl _)).trans zvs) ?_)
  refine MO.close_ (L:=[]) (m:=z.m) hztk ?_
  rw[hW,zA,show ThO.hp {qy.reg 0 cv with d:={(qy.reg 0 cv).d with st:=1}}=⟨some gq,103,cv.cs++qy.cs.drop 2⟩ by unfold ThO.hp;rw[←hgq];rfl]
  exact hm
theorem gcShp0_{G H:Prop}(k:H)(s:Bx H→G:=by intro k_;(repeat(first|(refine oqR_ ?_;(try clear hs a);intro a hs)|((with_reducible apply lCons);first|(refine dv hs gw_ rfl rfl da_ ?_;(try clear hs hm a);rintro _ w_ ⟨g_,rfl,-,hm⟩ a hs)|(refine stn hs rfl rfl ds_ ?_;(try clear hs hm a);rintro-w_ hm a hs))|((with_reducible apply qNil);(try clear hm);intro w_ hm)|refine cQ_ ?_|refine sc_ ?_|((with_reducible apply lCons);first|(refine dvc hs hm gw_ rfl rfl rfl rfl rfl (pl 27 rfl) (k1 _ hm.fr) ?_;(try clear hs hm a);intro w_ hm a hs)|(refine dvc hs hm gw_ rfl rfl rfl rfl rfl (pl 126 rfl) (k3 _ hm.fr) ?_;(try clear hs hm a);intro w_ hm a hs)|(refine dvc hs hm gw_ rfl rfl rfl rfl rfl (pl 110 rfl) (k4 _) ?_;(try clear hs hm a);intro w_ hm a hs)|(refine dvc hs hm gw_ rfl rfl rfl rfl rfl (pl 127 rfl) (k5 _ hm.fr) ?_;(try clear hs hm a);intro w_ hm a hs))|((with_reducible apply qCons);first|(refine qwc hs gw_ rfl rfl rfl rfl rfl (pl 27 rfl) (fun w hm=>k1 _ hm.fr) ?_;(try clear hs a);intro a hs)|(refine qwc hs gw_ rfl rfl rfl rfl rfl (pl 126 rfl) (fun w hm=>k3 _ hm.fr) ?_;(try clear hs a);intro a hs)|(refine qwc hs gw_ rfl rfl rfl rfl rfl (pl 110 rfl) (fun w hm=>k4 _) ?_;(try clear hs a);intro a hs)|(refine qwc hs gw_ rfl rfl rfl rfl rfl (pl 127 rfl) (fun w hm=>k5 _ hm.fr) ?_;(try clear hs a);intro a hs))));(first|(have m_:=hm;have s_:=hs;clear hs;(try clear hm);revert m_ s_ a)|((first|refine rexc_ hs hm ?_|refine rexl_ hs hm ?_|refine rexg_ hs hm ?_|refine rexq_ hs hm ?_);intro a hm hs;revert hm hs a));(try revert w_);(repeat revert g_);exact k_.h):G:=s ⟨k⟩
theorem dgShp1_{G H:Prop}(k:H)(s:Bx H→G:=by intro k_;(repeat(first|(refine tTakeB false t_ hs rfl (by kernel_rfl) (by kernel_rfl) gw_ rfl rfl (by intro w _;(first|exact kvR_|exact r_loadO hs rfl rfl tab rfl rfl rfl hm (by repeat(first|exact mH|apply mT)) (by assumption))) bu_ ?_;(try clear t_ hs a);intro t_ a hs)|(refine tTakeB true t_ hs rfl (by kernel_rfl) (by kernel_rfl) gw_ rfl rfl (by intro w hm;replace hm:Mm _ _ _ w:=hm rfl;(first|exact klR_|exact r_loadO hs rfl rfl tab rfl rfl rfl hm (by repeat(first|exact mH|apply mT)) (by assumption))) bu_ ?_;(try clear t_ hs a);intro t_ a hs)|(refine tE1B t_ ?_;(try clear t_);intro t_)|(refine nx_ t_ rfl ?_;have t_:=t_;first|(refine oDoB hs rfl gw_ rfl rfl da_ ?_;(try clear hs hm a);rintro _ w_ ⟨g_,rfl,-,hm⟩ a hs;refine⟨bu_,?_⟩)|(refine oDoNB hs rfl gw_ rfl ds_ ?_;(try clear hs hm a);rintro-w_ hm a hs;refine⟨bu_,?_⟩)|(refine oDoVB hs rfl gw_ rfl rfl (by(first|exact klR_|exact r_loadO hs rfl rfl tab rfl rfl rfl hm (by repeat(first|exact mH|apply mT)) (by assumption))) ?_;(try clear hs a);intro a hs;refine⟨bu_,?_⟩))));have y_:=t_;clear t_;(first|(have m_:=hm;have s_:=hs;have z_:=y_;clear hs;(try clear hm);revert m_ s_ z_ a)|((first|refine rexd_ hs hm ?_|refine rexb_ hs hm ?_);intro a hm hs;have z_:=y_;revert hm hs z_ a));(try revert w_);(repeat revert g_);exact k_.h):G:=s ⟨k⟩
theorem CO_mem{l:List ThO}{k:Nat}{q:ThO}(h:l[k]?=some q):q.hp∈l.map ThO.hp:=List.mem_map.2 ⟨q,List.mem_of_getElem? h,rfl⟩
theorem put_c [HB](p:PV)(N gm:Nat)(y:MO)(B:Int)(tk:Nat)(q:ThD)(r:RqV)(x:RsV)(wB:World)(hp:p.at wB N)(hpv:p.val)(hN:N≤wB.heap.size)(hM:Mm (own y.hps) wB y.hps wB)(hno:∀b,b<N→¬own y.hps b)(hy:y.ok)(hv:y.d.val p.ss B)(hh:Ro wB gm 0 y.vs)(hng:¬own y.hps gm)(ht:tk<4)(hth:r.th=(tk:Int))(hq:y.d.ts[tk]?=some q) (hq2:q.st=2) (hra:Rd wB N r.a.A (cns r.a.xs)) (hrv:r.val) (hrk:r.kin) (hst:r.stop=1) (hxd:Rd wB N x.d.A (cns x.d.xs)) (hxf:x.fit):
  Ret Tryz.prog 128 [p.v,pt gm,r.v,x.v] wB (fun u w'=>∃(z:MO)(b:Bool),u= .bool b∧z.ok∧z.d.val p.ss B∧z.vs=y.vs∧Mm (own y.hps) wB z.hps w'):=by
 by_cases h10:r.call=10
 ·exact put_spw p N gm y B tk q r x wB hp hpv hN hM hno hy hv hh hng ht hth hq hq2 hra hrv hrk hst hxd hxf h10
 by_cases h12:r.call=12
 ·exact put_han p N gm y B tk q r x wB hp hpv hN hM hno hy hv hh hng ht hth hq hq2 hra hrv hrk hst hxd hxf h12
 by_cases hd:0<x.d.xs.length
 ·by_cases hb:bufF r.call=2
  ·exact put_buf p N gm y B tk q r x wB hp hpv hN hM hno hy hv hh hng ht hth hq hq2 hra hrv hrk hst hxd hxf hb hd
  ·exact put_non p N gm y B tk q r x wB hp hpv hN hM hno hy hv hh hng ht hth hq hq2 hra hrv hrk hst hxd hxf ⟨h10,h12,fun e=>absurd e hb⟩
 ·exact put_non p N gm y B tk q r x wB hp hpv hN hM hno hy hv hh hng ht hth hq hq2 hra hrv hrk hst hxd hxf ⟨h10,h12,fun _=>List.eq_nil_of_length_eq_zero (by omega)⟩
theorem rput_c [HB](p:PV)(y:MO)(B:Int)(r:RqV)(x:RsV)(wB:World)(hp:p.ok wB)(hpv:p.val)(hmv:y.mv.ok wB)(hy:y.ok)(hv:y.d.val p.ss B)(hB:B≤1000000000)(hr:r.ok wB)(hrv:r.val)(hrk:r.kin)(hst:r.stop=1)(hx:x.ok wB)(hxf:x.fit):
  Ret Tryz.prog 114 [p.v,y.v,r.v,x.v] wB (fun u w'=>∃(z:MO)(b:Bool),u= .tuple #[z.v,.bool b]∧z.ok∧z.d.val p.ss B∧(z=y∨New wB w' z.hps)∧Pu wB w'):=by
 have hvv:y.mv.d.val p.ss B:=by rw[MO.mv_d];exact hv
 have hsm:=hvv.sm hpv.sz
 have k1:=fun w'' (hf:Pu wB w'')=>xval_c p y.mv B w'' (hp.pu hf) hpv (hmv.pu hf) hvv (Row.le hy.b) (by omega)
 have k2:=fun w'' (hf:Pu wB w'')=>rcp_c y.mv w'' (hmv.pu hf) hsm
 have k3:=fun w'' (hf:Pu wB w'')=>rqval_c r w'' (hr.pu hf) hrv
 have k4:=fun w''=>arg_c r.call w'' hrv.call
 have k5:=fun w'' (hf:Pu wB w'')=>rsval_c x w'' (hx.pu hf) hxf
 have hth4:=hrv.th
 have hkn:=hrk.n
 obtain⟨tk,htk⟩:∃k:Nat,r.th=(k:Int):=⟨r.th.toNat,by omega⟩
 have htl:y.ts.length=4:=by have:=hv.t;rwa[MO.d_len]at this
 have hty:tk<y.ts.length:=by omega
 have hyt:=hy.t
 rw[htl]at hyt
 obtain⟨gt,hgt⟩:=hyt.some_ (by omega)
 obtain⟨qy,hqy⟩:∃q,y.ts[tk]?=some q:=⟨_,List.getElem?_eq_getElem hty⟩
 have hq:y.d.ts[tk]?=some qy.d:=by rw[MO.d_ts y hty,(List.getElem?_eq_some_iff.1 hqy).2]
 have hyv:y.v= .agg #[slv y.bA y.bs.length y.bc,.int .u16 y.key,slv y.m.cA y.m.xs.length y.m.cc,slv y.m.lA y.m.ls.length y.m.lc,slv (some gt) 4 y.tc]:=by unfold MO.v;rw[hgt,htl]
 rw[MO.mv_v]at k1 k2
 rw[hyv]at k1 k2 ⊢
 obtain⟨bt,ot,hbt,-,rt⟩:=hmv.t.ro (by rw[flat_len ThV.v 8 ThV.len];show 0<(y.ts.map ThO.tv).length*8;rw[List.length_map];omega)
 have hbt':ad y.tA=some ⟨bt,ot,none⟩:=hbt
 rw[hgt]at hbt'
 obtain⟨rfl,rfl⟩:gt=bt∧0=ot:=by unfold ad at hbt';simpa using hbt'
 have r1:=rt.flat ThV.len (show tk<y.mv.ts.length by show tk<(y.ts.map ThO.tv).length;rw[List.length_map];exact hty)
 rw[show y.mv.ts[tk]'(by show tk<(y.ts.map ThO.tv).length;rw[List.length_map];exact hty)=ThO.tv qy by show(y.ts.map ThO.tv)[tk]'_=_;rw[List.getElem_map,(List.getElem?_eq_some_iff.1 hqy).2]]at r1
 unfold ThV.v ThO.tv at r1
 dsimp only at r1
 rw[Nat.zero_add]at r1
 clear rt
 have hno:∀w',Pu wB w'→∃(z:MO)(b:Bool),Value.tuple #[.agg #[slv y.bA y.bs.length y.bc,.int .u16 y.key,slv y.m.cA y.m.xs.length y.m.cc,slv y.m.lA y.m.ls.length y.m.lc,slv (some gt) 4 y.tc],.bool false]= .tuple #[z.v,.bool b]∧z.ok∧z.d.val p.ss B∧(z=y∨New wB w' z.hps)∧Pu wB w':=fun w' hf=>⟨y,false,by rw[hyv],hy,hv,.inl rfl,hf⟩
 obtain⟨th,stop,trap,cnt,pc,call,ra,rd⟩:=r
 obtain⟨xv,xd,sp,wt⟩:=x
 have hra:ra.ok wB:=hr.a
 have hrd:rd.ok wB:=hr.d
 have hxd:xd.ok wB:=hx
 unfold PV.v RqV.v RsV.v at*
 dsimp only at*
 subst htk hst
 by_cases hs2:qy.d.st=2
 rotate_left
 ·refine enterR Tryz.func114 rfl rfl rfl fun a hs hm=>?_
  refine gcShp0_ ?_;clear hs hm a;intros;rename_i a hm hs
  obtain⟨g8,rfl⟩:=hs.pp 8
  exact z3a12_
 refine enterR Tryz.func114 rfl rfl rfl fun a hs hm=>?_
 refine gcShp0_ ?_;clear hs hm a;intros;rename_i a hm hs
 obtain⟨g4,rfl⟩:=hs.pp 4
 obtain⟨g5,rfl⟩:=hs.pp 5
 obtain⟨g6,rfl⟩:=hs.pp 6
 obtain⟨g7,rfl⟩:=hs.pp 7
 obtain⟨g8,rfl⟩:=hs.pp 8
 refine st hs rfl rfl rfl (d_call hs rfl rfl rfl (pl 19 rfl) ((k2 _ hm.fr))) ?_;clear hs a;rintro _ w1 ⟨c,rfl,hco,hcd,hN,hf⟩ a hs
 replace hm:=gainE hm hf hN
 clear hN hf k1 k2 k3 k4 k5 hsm
 have hcd':c.d=y.d:=by rw[hcd,MO.mv_d]
 clear hcd
 have hcv:c.d.val p.ss B:=hcd'▸hv
 have hctl:c.ts.length=4:=by have:=hcv.t;rwa[MO.d_len]at this
 have hct:=hco.t
 rw[hctl]at hct
 obtain⟨gc,hgc⟩:=hct.some_ (by omega)
 have hctk:tk<c.ts.length:=by omega
 obtain⟨qc,hqc⟩:∃q,c.ts[tk]?=some q:=⟨_,List.getElem?_eq_getElem hctk⟩
 have hqcd:c.d.ts[tk]?=some qc.d:=by rw[MO.d_ts c hctk,(List.getElem?_eq_some_iff.1 hqc).2]
 have hqe:qc.d=qy.d:=by rw[hcd',hq]at hqcd;exact(Option.some.inj hqcd).symm
 have hqcv:=hcv.tt qc.d (List.mem_map.2 ⟨qc,List.mem_of_getElem? hqc,rfl⟩)
 have hqco:=hco.tt qc (List.mem_of_getElem? hqc)
 rw[hgc]at hct
 have hccl:=hct.len
 have hccle:=hct.le
 unfold MO.v at hs
 rw[hgc,hctl]at hs
 rw[show c.hps=⟨c.tA,52,c.tcs⟩::⟨c.bA,3,c.bcs⟩::(c.m.hps++c.ts.map ThO.hp)from rfl,hgc]at hm
 simp only[List.cons_append,List.nil_append]at hm
 have hcvs:c.vs=(c.cl [slv (some gc) 4 c.tc]):=by unfold MO.vs;rw[hgc,hctl]
 have hyes:∀(z:MO) w',z.vs=c.vs→z.ok→z.d.val p.ss B→New wB w' z.hps→Pu wB w'→∃(z:MO)(b:Bool),Value.tuple #[.agg #[slv c.bA c.bs.length c.bc,.int .u16 c.key,slv c.m.cA c.m.xs.length c.m.cc,slv c.m.lA c.m.ls.length c.m.lc,slv (some gc) 4 c.tc],.bool true]= .tuple #[z.v,.bool b]∧z.ok∧z.d.val p.ss B∧(z=y∨New wB w' z.hps)∧Pu wB w':=fun z w' h1 h2 h3 h4 h5=>⟨z,true,by rw[MO.v_vs,h1,hcvs],h2,h3,.inr h4,h5⟩
 have hend:∀{a:Act}{w:World}{M:List Hp}(z:MO),z.vs=c.vs→z.ok→z.d.val p.ss B→(∃L,Mm (fun _=>False) wB (L++z.hps) w)→True:=fun _ _ _ _ _=>trivial
 clear hend
 by_cases hc0:call=0
 ·subst hc0
  have hal:ra.xs.length=1:=hkn
  obtain⟨b1,o1,hA,hb1,r2⟩:=Rd.ro hra (by rw[cns_len];omega)
  have r3:=r2.flat CN.cs_len (show 0<ra.xs.length by omega)
  have hc0v:=(hrv.av _ (List.getElem_mem (show 0<ra.xs.length by omega))).v
  generalize ra.xs[0]'(by omega)=c0 at r3 hc0v
  unfold CN.cs at r3
  rw[hA]at hm
  refine gsce98_ ?_;clear hs hm a;intros;rename_i a hm hs
  obtain⟨g10,rfl⟩:=hs.pp 10
  have hqr:Row qc.A qc.d.xs.length qc.c 2 (cvs qc.d.xs) qc.cs:=hqco
  have hcut:cutF c.tcs (tk*8) 8=some [.int .i64 qc.d.st,slv qc.A qc.d.xs.length qc.c,.int .i64 qc.d.pc,.int .i64 qc.d.cnt,.int .i64 qc.d.han,.int .i64 qc.d.sav,.int .i64 qc.d.trp,.int .u16 qc.d.cod]:=
   cutF_of c.tcs (tk*8) qc.v (by rw[ThO.len];omega) (fun j v hj=>hct.get (by rw[flat_get ThO.v 8 ThO.len c.ts tk j hctk (List.getElem?_eq_some_iff.1 hj).1,(List.getElem?_eq_some_iff.1 hqc).2];exact hj))
  have kend:∀(w'':World),Rd w'' w''.heap.size (ad qc.A) (cvs qc.d.xs)→Ret Tryz.prog 109 [.agg #[.int .i64 qc.d.st,slv qc.A qc.d.xs.length qc.c,.int .i64 qc.d.pc,.int .i64 qc.d.cnt,.int .i64 qc.d.han,.int .i64 qc.d.sav,.int .i64 qc.d.trp,.int .u16 qc.d.cod],.int .i64 0,.int .u16 c0.v] w'' (fun u w'=>∃q':ThO,u= .agg q'.v.toArray∧q'.ok∧q'.d={qc.d with st:=4,trp:=0,cod:=c0.v}∧New w'' w' [q'.hp]∧Pu w'' w'):=fun w'' hr=>tend_c ⟨ad qc.A,qc.c,qc.d⟩ 0 c0.v w'' hr (by have:=hqcv.n;dsimp only;omega)
  have hqcR:=CO_mem hqc
  generalize hR:c.ts.map ThO.hp=R at hm hqcR
  refine cMid (fun a w=>∃q':ThO,q'.ok∧q'.d={qc.d with st:=4,trp:=0,cod:=c0.v}∧Sl Tryz.f114.ntmps [(8,pt g8),(10,pt g10)] a∧Mm (fun _=>False) wB (q'.hp::⟨some g10,32,(c.cl [slv (some gc) 4 c.tc])⟩::⟨some g8,32,[nS,.int .u16 0,nS,nS,nS]⟩::⟨some gc,52,c.tcs.take (tk*8)++q'.v++c.tcs.drop (tk*8+8)⟩::⟨c.bA,3,c.bcs⟩::(c.m.hps++R)) w) ?_ ?_
  ·with_reducible repeat(first|apply gThen|apply wp_seq)
   refine cDrawTB (n:=18) (.s [0,1,2,3,4,5,6,7,8,9,10,11,12,13,14]<| .o 15<| .x<| .t 16<| .o 17<| .x<| .d) 17 [⟨some g10,32,(c.cl [slv (some gc) 4 c.tc])⟩,⟨some g6,173,[.int .i64 (tk:Int),.int .i64 1,.int .i64 trap,.int .i64 cnt,.int .i64 pc,.int .i64 0,.slice (some ⟨b1,o1,none⟩) ra.xs.length ra.c,.slice rd.A rd.xs.length rd.c]⟩,⟨some gc,52,c.tcs⟩] hm rfl rfl ?_
   clear hm;intro t_ w1_ hm
   repeat' (first|(refine dgShp1_ ?_;clear t_ hs hm a;intros;rename_i a hm hs t_)|refine tEB t_ ?_|refine tCB ?_ ?_|exact tNB|intro t_|(refine oDoB (i:=15) hs rfl (Wnt.none rfl) rfl rfl (by exact d_call hs rfl rfl rfl (pl 109 rfl) ((kend _ (hm.rd_row (A:=qc.A) (by have h1:qc.hp∈c.m.hps++R:=List.mem_append_right _ hqcR;repeat(first|exact h1|apply List.mem_cons_of_mem)) hqr)))) ?_;clear hs;rintro _ w1 ⟨q',rfl,hqo',hqd',hN,hf⟩ a hs;(replace hm:=hm.gain hf hN);(clear hN hf);(simp only[List.cons_append,List.nil_append]at hm);replace t_:=tX t_;refine⟨bu_,?_⟩)|(refine oDoNB (i:=17) hs rfl (Wnt.none rfl) rfl (by exact d_store hs rfl rfl rfl tab rfl rfl rfl rfl hm rep_ (putG (by show tk*8+8≤_;omega))) ?_;clear hs;rintro-w1 hm a hs;replace t_:=tX t_;refine⟨bu_,?_⟩)|(refine tDB t_ ?_;(exact And.intro rfl ⟨q',hqo',hqd',(sb_ hs),hm.sub sub_⟩))|fail)
  clear hs hm a
  rintro a w ⟨q',hqo',hqd',hs,hm⟩
  rw[←hR]at hm
  have hsp:=hct.splice (o:=tk*8) (ys:=q'.v) (by rw[ThO.len];omega)
  rw[ThO.len,flat_splice ThO.v 8 ThO.len c.ts tk q' hctk]at hsp
  replace hm:=MO.close_ (z:=c) (q:=q') (m:=c.m) (L:=[⟨some g10,32,(c.cl [slv (some gc) 4 c.tc])⟩,⟨some g8,32,[nS,.int .u16 0,nS,nS,nS]⟩]) hctk (tcs:=c.tcs.take (tk*8)++q'.v++c.tcs.drop (tk*8+8)) (by
   have h1:=MO.open_ (L:=[q'.hp,⟨some g10,32,(c.cl [slv (some gc) 4 c.tc])⟩,⟨some g8,32,[nS,.int .u16 0,nS,nS,nS]⟩]) (z:={c with tcs:=c.tcs.take (tk*8)++q'.v++c.tcs.drop (tk*8+8)}) (q:=qc) (t:=tk) (by
    rw[show MO.hps {c with tcs:=c.tcs.take (tk*8)++q'.v++c.tcs.drop (tk*8+8)}=⟨c.tA,52,c.tcs.take (tk*8)++q'.v++c.tcs.drop (tk*8+8)⟩::⟨c.bA,3,c.bcs⟩::(c.m.hps++c.ts.map ThO.hp)from rfl,hgc]
    exact hm) hqc
   have h2:=h1.sub (List.Sublist.cons_cons _ (List.Sublist.cons_cons _ (List.Sublist.cons_cons _ (List.Sublist.cons _ (List.Sublist.refl _)))))
   exact h2.perm (List.perm_middle (l₁:=[_,_])))
  refine gsce98_ ?_;clear hs hm a;intros;rename_i a hm hs
  refine gRetN tab hs rfl (.cons (.cells rfl rfl rfl rfl (hm.ro (k:=0) (n:=5) (g:=g8) mem_ (cutF_ok rfl))) (.cons (.tmp rfl) .nil)) (hyes (c.upd tk q' (c.tcs.take (tk*8)++q'.v++c.tcs.drop (tk*8+8)) c.m) _ (MO.upd_vs (MeO.like.refl _)) (MO.upd_ok hco hco.m hqo' (by rw[hctl,hgc];exact hsp)) (MO.upd_val hcv (Int.le_refl _) (MO.m_val hcv) ?_) (hm.new (List.Sublist.cons _ (List.Sublist.cons _ (List.Sublist.refl _)))) hm.fr)
  rw[hqd']
  exact⟨by dsimp only;omega,hqcv.n,hqcv.pc,hqcv.cnt,hqcv.han,hqcv.sav,by dsimp only;omega,hc0v,hqcv.cv⟩
 cases wt
 rotate_left
 ·refine gsce98_ ?_;clear hs hm a;intros;rename_i a hm hs
  obtain⟨g10,rfl⟩:=hs.pp 10
  have hrow0:Row (some gc) 4 c.tc 8 ((c.ts.set tk qc).flatMap ThO.v) c.tcs:=by rw[set_self hqc];exact hct
  have r1':=trow_set hrow0 hctk 0 (by omega) (.int .i64 3) (q2:={qc with d:={qc.d with st:=3}}) rfl
  have zh:(c.upd tk {qc with d:={qc.d with st:=3}} (c.tcs.set (tk*8+0) (.int .i64 3)) c.m).hps=⟨some gc,52,c.tcs.set (tk*8+0) (.int .i64 3)⟩::⟨c.bA,3,c.bcs⟩::(c.m.hps++c.ts.map ThO.hp):=(MO.hps_set (q':={qc with d:={qc.d with st:=3}}) hqc rfl).trans (by rw[hgc])
  exact gRetN tab hs rfl (.cons (.cells rfl rfl rfl rfl (hm.ro (k:=0) (n:=5) (g:=g8) mem_ (cutF_ok rfl))) (.cons (.tmp rfl) .nil)) (hyes (c.upd tk {qc with d:={qc.d with st:=3}} (c.tcs.set (tk*8+0) (.int .i64 3)) c.m) _ (MO.upd_vs (MeO.like.refl _)) (MO.upd_ok hco hco.m hqco (by rw[hctl,hgc];exact r1')) (MO.upd_val hcv (Int.le_refl _) (MO.m_val hcv) ⟨by dsimp only;omega,hqcv.n,hqcv.pc,hqcv.cnt,hqcv.han,hqcv.sav,hqcv.trp,hqcv.cod,hqcv.cv⟩) (by rw[zh];exact hm.new sub_) hm.fr)
 ·refine gsce98_ ?_;clear hs hm a;intros;rename_i a hm hs
  obtain⟨g10,rfl⟩:=hs.pp 10
  have hchp:c.hps=⟨some gc,52,c.tcs⟩::⟨c.bA,3,c.bcs⟩::(c.m.hps++c.ts.map ThO.hp):=by rw[←hgc];rfl
  rw[←hchp]at hm
  have hm':Mm (fun _=>False) wB ([⟨some g10,32,(c.cl [slv (some gc) 4 c.tc])⟩,⟨some g8,32,[nS,.int .u16 0,nS,nS,nS]⟩,⟨some g7,175,[.int .u8 xv.t,.int .u16 xv.v,.int .i64 xv.r,.int .i64 xv.o,.slice xd.A xd.xs.length xd.c,.int .i64 sp,.bool false]⟩,⟨some g6,173,[.int .i64 (tk:Int),.int .i64 1,.int .i64 trap,.int .i64 cnt,.int .i64 pc,.int .i64 call,.slice ra.A ra.xs.length ra.c,.slice rd.A rd.xs.length rd.c]⟩,⟨some g5,32,(y.cl [slv (some gt) 4 y.tc])⟩,⟨some g4,38,(p.cl [])⟩]++c.hps) _:=hm
  have kput:=put_c p wB.heap.size g10 c B tk qc.d ⟨tk,1,trap,cnt,pc,call,ra,rd⟩ ⟨xv,xd,sp,false⟩ _ (hp.at.fr hm.fr (Nat.le_refl _) (fun b _ e=>e)) hpv hm.fr.size (hm'.sub (List.sublist_append_right _ _)).rebase (fun b hb=>hm'.old hb) hco hcv (by rw[hcvs];exact hm.ro (k:=0) (n:=5) mem_ (cutF_ok rfl)) (hm'.notinR (x:=⟨some g10,32,(c.cl [slv (some gc) 4 c.tc])⟩) mem_ rfl) (by omega) rfl hqcd (by rw[hqe];exact hs2) (hm.fr.rd hra (Nat.le_refl _) (fun b _ e=>e)) hrv hrk rfl (hm.fr.rd hxd (Nat.le_refl _) (fun b _ e=>e)) hxf
  unfold PV.v RqV.v RsV.v at kput
  dsimp only at kput
  refine st hs rfl rfl rfl (d_call hs rfl rfl rfl (pl 128 rfl) ((kput))) ?_;clear hs a;rintro _ w1 ⟨z,b,rfl,zo,zv,zvs,hk⟩ a hs
  replace hm:=hm'.swapE _ hk
  clear hk hm' kput
  simp only[List.cons_append,List.nil_append]at hm
  cases b
  ·refine gsce98_ ?_;clear hs hm a;intros;rename_i a hm hs
   exact z3a12_
  ·refine gsce98_ ?_;clear hs hm a;intros;rename_i a hm hs
   exact gRetN tab hs rfl (.cons (.cells rfl rfl rfl rfl (hm.ro (k:=0) (n:=5) (g:=g8) mem_ (cutF_ok rfl))) (.cons (.tmp rfl) .nil)) (hyes z _ zvs zo zv (hm.new sub_) hm.fr)
theorem gcShq0_{G H:Prop}(k:H)(s:Bx H→G:=by intro k_;(repeat(first|(refine ovR_ ?_;(try clear hs a);intro a hs)|((with_reducible apply lCons);first|(refine dv hs gw_ rfl rfl da_ ?_;(try clear hs hm a);rintro _ w_ ⟨g_,rfl,-,hm⟩ a hs)|(refine stn hs rfl rfl ds_ ?_;(try clear hs hm a);rintro-w_ hm a hs))|refine sc_ ?_|((with_reducible apply lCons);first|(refine dvc hs hm gw_ rfl rfl rfl rfl rfl (pl 27 rfl) (k1 _ hm.fr) ?_;(try clear hs hm a);intro w_ hm a hs)|(refine dvc hs hm gw_ rfl rfl rfl rfl rfl (pl 127 rfl) (k5 _ hm.fr) ?_;(try clear hs hm a);intro w_ hm a hs)|(refine dvc hs hm gw_ rfl rfl rfl rfl rfl (pl 63 rfl) (kraw _ hm.fr) ?_;(try clear hs hm a);intro w_ hm a hs))));(first|(have m_:=hm;have s_:=hs;clear hs;(try clear hm);revert m_ s_ a)|((first|refine rexc_ hs hm ?_|refine rexl_ hs hm ?_|refine rexg_ hs hm ?_|refine rexq_ hs hm ?_);intro a hm hs;revert hm hs a));(try revert w_);(repeat revert g_);exact k_.h):G:=s ⟨k⟩
theorem dgShq1_{G H:Prop}(k:H)(s:Bx H→G:=by intro k_;(repeat(first|(refine tTakeB false t_ hs rfl (by kernel_rfl) (by kernel_rfl) gw_ rfl rfl (by intro w _;(first|exact kvR_|exact r_loadO hs rfl rfl tab rfl rfl rfl hm (by repeat(first|exact mH|apply mT)) (by assumption))) bu_ ?_;(try clear t_ hs a);intro t_ a hs)|(refine tTakeB true t_ hs rfl (by kernel_rfl) (by kernel_rfl) gw_ rfl rfl (by intro w hm;replace hm:Mm _ _ _ w:=hm rfl;(first|exact klR_|exact r_loadO hs rfl rfl tab rfl rfl rfl hm (by repeat(first|exact mH|apply mT)) (by assumption))) bu_ ?_;(try clear t_ hs a);intro t_ a hs)|(refine tE1B t_ ?_;(try clear t_);intro t_)|(refine nx_ t_ rfl ?_;have t_:=t_;first|(refine oDoB hs rfl gw_ rfl rfl da_ ?_;(try clear hs hm a);rintro _ w_ ⟨g_,rfl,-,hm⟩ a hs;refine⟨bu_,?_⟩)|(refine oDoNB hs rfl gw_ rfl ds_ ?_;(try clear hs hm a);rintro-w_ hm a hs;refine⟨bu_,?_⟩)|(refine oDoVB hs rfl gw_ rfl rfl (by(first|exact klR_|exact r_loadO hs rfl rfl tab rfl rfl rfl hm (by repeat(first|exact mH|apply mT)) (by assumption))) ?_;(try clear hs a);intro a hs;refine⟨bu_,?_⟩))));have y_:=t_;clear t_;(first|(have m_:=hm;have s_:=hs;have z_:=y_;clear hs;(try clear hm);revert m_ s_ z_ a)|((first|refine rexd_ hs hm ?_|refine rexb_ hs hm ?_);intro a hm hs;have z_:=y_;revert hm hs z_ a));(try revert w_);(repeat revert g_);exact k_.h):G:=s ⟨k⟩
theorem rwake_c [HB](p:PV)(y:MO)(B:Int)(t:Int)(x:RsV)(wB:World)(hp:p.ok wB)(hpv:p.val)(hmv:y.mv.ok wB)(hy:y.ok)(hv:y.d.val p.ss B)(hB:B≤1000000000)(hx:x.ok wB)(hxf:x.fit):
  Ret Tryz.prog 129 [p.v,y.v,.int .i64 t,x.v] wB (fun u w'=>∃(z:MO)(b:Bool),u= .tuple #[z.v,.bool b]∧z.ok∧z.d.val p.ss B∧(z=y∨New wB w' z.hps)∧Pu wB w'):=by
 have hvv:y.mv.d.val p.ss B:=by rw[MO.mv_d];exact hv
 have hsm:=hvv.sm hpv.sz
 have k1:=fun w'' (hf:Pu wB w'')=>xval_c p y.mv B w'' (hp.pu hf) hpv (hmv.pu hf) hvv (Row.le hy.b) (by omega)
 have k2:=fun w'' (hf:Pu wB w'')=>rcp_c y.mv w'' (hmv.pu hf) hsm
 have k5:=fun w'' (hf:Pu wB w'')=>rsval_c x w'' (hx.pu hf) hxf
 have htl:y.ts.length=4:=by have:=hv.t;rwa[MO.d_len]at this
 have hyt:=hy.t
 rw[htl]at hyt
 obtain⟨gt,hgt⟩:=hyt.some_ (by omega)
 have hyv:y.v= .agg #[slv y.bA y.bs.length y.bc,.int .u16 y.key,slv y.m.cA y.m.xs.length y.m.cc,slv y.m.lA y.m.ls.length y.m.lc,slv (some gt) 4 y.tc]:=by unfold MO.v;rw[hgt,htl]
 rw[MO.mv_v]at k1 k2
 rw[hyv]at k1 k2 ⊢
 obtain⟨bt,ot,hbt,-,rt⟩:=hmv.t.ro (by rw[flat_len ThV.v 8 ThV.len];show 0<(y.ts.map ThO.tv).length*8;rw[List.length_map];omega)
 have hbt':ad y.tA=some ⟨bt,ot,none⟩:=hbt
 rw[hgt]at hbt'
 obtain⟨rfl,rfl⟩:gt=bt∧0=ot:=by unfold ad at hbt';simpa using hbt'
 have hno:∀w',Pu wB w'→∃(z:MO)(b:Bool),Value.tuple #[.agg #[slv y.bA y.bs.length y.bc,.int .u16 y.key,slv y.m.cA y.m.xs.length y.m.cc,slv y.m.lA y.m.ls.length y.m.lc,slv (some gt) 4 y.tc],.bool false]= .tuple #[z.v,.bool b]∧z.ok∧z.d.val p.ss B∧(z=y∨New wB w' z.hps)∧Pu wB w':=fun w' hf=>⟨y,false,by rw[hyv],hy,hv,.inl rfl,hf⟩
 have hxv:=hxf.v
 obtain⟨xv,xd,sp,wt⟩:=x
 dsimp only at hxv
 have kraw:∀(w'':World),Pu wB w''→Ret Tryz.prog 63 [.agg #[slv y.bA y.bs.length y.bc,.int .u16 y.key],.slice p.sA p.ss.length p.sc,.agg #[.int .u8 xv.t,.int .u16 xv.v,.int .i64 xv.r,.int .i64 xv.o]] w'' (fun u w'=>u= .tuple #[.agg #[.int .u8 (rawC (lsX p y.mv) xv).t,.int .u16 (rawC (lsX p y.mv) xv).v],.int .i64 (rawE (lsX p y.mv) xv)]∧Pu w'' w'):=fun w'' hf=>by
  have h:=rawz_c (lsX p y.mv) xv w'' (lsX_ok (hp.pu hf) hpv (hmv.pu hf) hvv) hxv
  rw[lsX_l hvv]at h
  exact h
 have hcv:=rawC_val (lsX p y.mv) hxv
 generalize rawC (lsX p y.mv) xv=cv at kraw hcv
 unfold PV.v RsV.v at*
 dsimp only at*
 by_cases ht0:0≤t
 rotate_left
 ·refine enterR Tryz.func129 rfl rfl rfl fun a hs hm=>?_
  refine gcShq0_ ?_;clear hs hm a;intros;rename_i a hm hs
  obtain⟨g8,rfl⟩:=hs.pp 8
  exact z3a12_
 by_cases ht4:t<4
 rotate_left
 ·refine enterR Tryz.func129 rfl rfl rfl fun a hs hm=>?_
  refine gcShq0_ ?_;clear hs hm a;intros;rename_i a hm hs
  obtain⟨g8,rfl⟩:=hs.pp 8
  exact z3a12_
 obtain⟨tk,rfl⟩:∃k:Nat,t=(k:Int):=⟨t.toNat,by omega⟩
 have hty:tk<y.ts.length:=by omega
 obtain⟨qy,hqy⟩:∃q,y.ts[tk]?=some q:=⟨_,List.getElem?_eq_getElem hty⟩
 have hq:y.d.ts[tk]?=some qy.d:=by rw[MO.d_ts y hty,(List.getElem?_eq_some_iff.1 hqy).2]
 have r1:=rt.flat ThV.len (show tk<y.mv.ts.length by show tk<(y.ts.map ThO.tv).length;rw[List.length_map];exact hty)
 rw[show y.mv.ts[tk]'(by show tk<(y.ts.map ThO.tv).length;rw[List.length_map];exact hty)=ThO.tv qy by show(y.ts.map ThO.tv)[tk]'_=_;rw[List.getElem_map,(List.getElem?_eq_some_iff.1 hqy).2]]at r1
 unfold ThV.v ThO.tv at r1
 dsimp only at r1
 rw[Nat.zero_add]at r1
 clear rt
 by_cases hs3:qy.d.st=3
 rotate_left
 ·refine enterR Tryz.func129 rfl rfl rfl fun a hs hm=>?_
  refine gcShq0_ ?_;clear hs hm a;intros;rename_i a hm hs
  obtain⟨g8,rfl⟩:=hs.pp 8
  exact z3a12_
 by_cases he:rawE (lsX p y.mv) xv=0
 rotate_left
 ·refine enterR Tryz.func129 rfl rfl rfl fun a hs hm=>?_
  refine gcShq0_ ?_;clear hs hm a;intros;rename_i a hm hs
  obtain⟨g8,rfl⟩:=hs.pp 8
  exact z3a12_
 refine enterR Tryz.func129 rfl rfl rfl fun a hs hm=>?_
 refine gcShq0_ ?_;clear hs hm a;intros;rename_i a hm hs
 obtain⟨g8,rfl⟩:=hs.pp 8
 obtain⟨g10,rfl⟩:=hs.pp 10
 refine st hs rfl rfl rfl (d_call hs rfl rfl rfl (pl 19 rfl) ((k2 _ hm.fr))) ?_;clear hs a;rintro _ w1 ⟨c,rfl,hco,hcd,hN,hf⟩ a hs
 replace hm:=gainE hm hf hN
 clear hN hf k1 k2 k5 hsm kraw
 have hcd':c.d=y.d:=by rw[hcd,MO.mv_d]
 clear hcd
 have hcv':c.d.val p.ss B:=hcd'▸hv
 have hctl:c.ts.length=4:=by have:=hcv'.t;rwa[MO.d_len]at this
 have hct:=hco.t
 rw[hctl]at hct
 obtain⟨gc,hgc⟩:=hct.some_ (by omega)
 have hctk:tk<c.ts.length:=by omega
 obtain⟨qc,hqc⟩:∃q,c.ts[tk]?=some q:=⟨_,List.getElem?_eq_getElem hctk⟩
 have hqcv:=hcv'.tt qc.d (List.mem_map.2 ⟨qc,List.mem_of_getElem? hqc,rfl⟩)
 have hqco:=hco.tt qc (List.mem_of_getElem? hqc)
 have hqzr:Row qc.A qc.d.xs.length qc.c 2 (cvs qc.d.xs) qc.cs:=hqco
 rw[hqcv.n]at hqzr
 obtain⟨gq,hgq⟩:=hqzr.some_ (by omega)
 rw[hgq]at hqzr
 rw[hgc]at hct
 have hccl:=hct.len
 have hccle:=hct.le
 have hqcl:=hqzr.len
 have hqle:=hqzr.le
 have e1:c.tcs[tk*8+1]?=some (slv (some gq) 8 qc.c):=hct.get (by rw[flat_get ThO.v 8 ThO.len c.ts tk 1 hctk (by omega),(List.getElem?_eq_some_iff.1 hqc).2,←hgq,←hqcv.n];rfl)
 unfold MO.v at hs
 rw[hgc,hctl]at hs
 refine gsce98_ ?_;clear hs hm a;intros;rename_i a hm hs
 obtain⟨g12,rfl⟩:=hs.pp 12
 replace hm:=MO.open_ (L:=[⟨some g12,32,(c.cl [slv (some gc) 4 c.tc])⟩,⟨some g10,103,[.int .u8 cv.t,.int .u16 cv.v]⟩,⟨some g8,32,[nS,.int .u16 0,nS,nS,nS]⟩]) (z:=c) (by
  rw[show c.hps=⟨c.tA,52,c.tcs⟩::⟨c.bA,3,c.bcs⟩::(c.m.hps++c.ts.map ThO.hp)from rfl,hgc]at hm ⊢
  simp only[List.cons_append,List.nil_append]at hm
  exact hm.sub sub_) hqc
 simp only[List.cons_append,List.nil_append]at hm
 rw[show qc.hp=⟨some gq,103,qc.cs⟩ by unfold ThO.hp;rw[hgq],hgc]at hm
 obtain⟨W,hW⟩:∃W,(⟨c.bA,3,c.bcs⟩:Hp)::(c.m.hps++(c.ts.eraseIdx tk).map ThO.hp)=W:=⟨_,rfl⟩
 rw[hW]at hm
 refine cMid (fun a w=>Mm (fun _=>False) wB (⟨some g12,32,(c.cl [slv (some gc) 4 c.tc])⟩::⟨some g8,32,[nS,.int .u16 0,nS,nS,nS]⟩::⟨some gq,103,cv.cs++qc.cs.drop 2⟩::⟨some gc,52,c.tcs.set (tk*8+0) (.int .i64 1)⟩::W) w∧Sl Tryz.f129.ntmps [(8,pt g8),(12,pt g12)] a) ?_ ?_
 ·with_reducible repeat(first|apply gThen|apply wp_seq)
  refine cDrawTB (n:=15) (.s [0,1,2,3,4,5,6,7,8,9,10]<| .o 11<| .x<| .s [12,13]<| .o 14<| .d) 14 [⟨some g12,32,(c.cl [slv (some gc) 4 c.tc])⟩,⟨some g10,103,[.int .u8 cv.t,.int .u16 cv.v]⟩,⟨some gc,52,c.tcs⟩] hm rfl rfl ?_
  clear hm;intro t_ w1_ hm
  repeat' (first|(refine dgShq1_ ?_;clear t_ hs hm a;intros;rename_i a hm hs t_)|refine tEB t_ ?_|refine tCB ?_ ?_|exact tNB|intro t_|(refine oDoNB (i:=11) hs rfl (Wnt.none rfl) rfl (by exact d_store hs rfl rfl rfl tab rfl rfl rfl rfl hm rep_ (putG (by show 0+2≤_;omega))) ?_;clear hs;rintro-w1 hm a hs;replace t_:=tX t_;refine⟨bu_,?_⟩)|(refine tDB t_ ?_;(exact And.intro rfl ⟨hm.sub sub_,(sb_ hs)⟩))|fail)
 clear hs hm a
 rintro a w ⟨hm,hs⟩
 refine gsce98_ ?_;clear hs hm a;intros;rename_i a hm hs
 obtain⟨k1,k2,k3⟩:=ThO.reg_ok hqco hqcv (r:=0) (by omega) hcv
 have hrow:Row (some gc) 4 c.tc 8 ((c.ts.set tk (qc.reg 0 cv)).flatMap ThO.v) c.tcs:=by rw[trow_same hctk k3,set_self hqc];exact hct
 have r1':=trow_set hrow hctk 0 (by omega) (.int .i64 1) (q2:={qc.reg 0 cv with d:={(qc.reg 0 cv).d with st:=1}}) rfl
 obtain⟨z,hz⟩:∃z,z=c.upd tk {qc.reg 0 cv with d:={(qc.reg 0 cv).d with st:=1}} (c.tcs.set (tk*8+0) (.int .i64 1)) c.m:=⟨_,rfl⟩
 have zo:z.ok:=by rw[hz];exact MO.upd_ok hco hco.m k1 (by rw[hgc,hctl];exact r1')
 have zv:z.d.val p.ss B:=by rw[hz];exact MO.upd_val hcv' (Int.le_refl _) (MO.m_val hcv') ⟨by dsimp only;omega,k2.n,by rw[k2.pc];exact hqcv.pc,by rw[k2.cnt];exact hqcv.cnt,by rw[k2.han];exact hqcv.han,k2.sav,by rw[k2.trp];exact hqcv.trp,by rw[k2.cod];exact hqcv.cod,k2.cv⟩
 have zvs:z.vs=(c.cl [slv (some gc) 4 c.tc]):=by rw[hz,MO.upd_vs (MeO.like.refl _)];unfold MO.vs;rw[hgc,hctl]
 have hmz:∀{S:Nat→Prop}{w':World},Mm S wB (⟨some gq,103,cv.cs++qc.cs.drop 2⟩::⟨some gc,52,c.tcs.set (tk*8+0) (.int .i64 1)⟩::W) w'→Mm S wB z.hps w':=fun h=>by
  rw[hz]
  refine MO.close_ (L:=[]) (m:=c.m) hctk ?_
  rw[hW,hgc,show ThO.hp {qc.reg 0 cv with d:={(qc.reg 0 cv).d with st:=1}}=⟨some gq,103,cv.cs++qc.cs.drop 2⟩ by unfold ThO.hp;rw[←hgq];rfl]
  exact h
 exact gRetN tab hs rfl (.cons (.cells rfl rfl rfl rfl (hm.ro (k:=0) (n:=5) (g:=g8) mem_ (cutF_ok rfl))) (.cons (.tmp rfl) .nil)) ⟨z,true,by rw[MO.v_vs,zvs];rfl,zo,zv,.inr ((hmz (hm.sub sub_)).new (List.Sublist.refl _)),hm.fr⟩
theorem wds_len2(l:List Int):(wds l).length=l.length*1:=by unfold wds;rw[List.length_map,Nat.mul_one]
theorem wds_one2(l:List Int):(wds l).all (·.oneCell')=true:=by
 rw[List.all_eq_true]
 intro v hv
 obtain⟨x,_,rfl⟩:=List.mem_map.1 hv
 rfl
structure CO where
 A:Option Nat
 c:Nat
 cs:List Value
 xs:List CN
def CO.v(r:CO):Value:=slv r.A r.xs.length r.c
def CO.hp(r:CO):Hp:=⟨r.A,95,r.cs⟩
def CO.ok(r:CO):Prop:=Row r.A r.xs.length r.c 4 (cns r.xs) r.cs
def CO.rd(r:CO):CnS:=⟨ad r.A,r.c,r.xs⟩
def WS.rd(r:WS):WV:=⟨ad r.A,r.c,r.xs⟩
def WV.ok(x:WV)(w:World):Prop:=Rd w w.heap.size x.A (wds x.xs)
theorem WV.ok.pu{x:WV}{w w':World}(h:x.ok w)(hf:Pu w w'):x.ok w':=hf.rd' h
theorem CO.rd_v(r:CO):r.rd.v=r.v:=rfl
theorem CO.rd_ok{S:Nat→Prop}{w0 w:World}{M:List Hp}{r:CO}(hm:Mm S w0 M w)(hM:r.hp∈M)(h:r.ok):r.rd.ok w:=hm.rd_row hM h
theorem WS.rd_ok{S:Nat→Prop}{w0 w:World}{M:List Hp}{r:WS}(hm:Mm S w0 M w)(hM:r.hp∈M)(h:r.ok):r.rd.ok w:=hm.rd_row hM h
theorem CO.rds_v(l:List CO):(l.map CO.rd).map CnS.v=l.map CO.v:=by rw[List.map_map];rfl
theorem CO.rds_xs(l:List CO):(l.map CO.rd).map CnS.xs=l.map CO.xs:=by rw[List.map_map];rfl
theorem CnS.vals_one(l:List CnS):(l.map CnS.v).all (·.oneCell')=true:=by
 rw[List.all_eq_true]
 intro v hv
 obtain⟨q,_,rfl⟩:=List.mem_map.1 hv
 rfl
theorem CO.snoc(rs:List CO)(r:CO):rs.map CO.v++[r.v]=(rs++[r]).map CO.v:=by simp
theorem CO.perm{S:Nat→Prop}{w0 w:World}{L:List Hp}{rs:List CO}{r:CO}(hm:Mm S w0 (r.hp::(L++rs.map CO.hp)) w):Mm S w0 (L++(rs++[r]).map CO.hp) w:=by
 refine hm.perm ?_
 rw[List.map_append,←List.append_assoc]
 exact List.perm_append_comm (l₁:=L++rs.map CO.hp) (l₂:=[r.hp])
theorem CO.take_snoc{rs:List CO}{qs:List CnS}{r:CO}(h:rs.map CO.xs=(qs.take rs.length).map CnS.xs)(hl:rs.length<qs.length)(hr:r.xs=(qs[rs.length]).xs):(rs++[r]).map CO.xs=(qs.take (rs++[r]).length).map CnS.xs:=by
 rw[List.map_append,h,List.length_append,List.length_singleton,List.take_succ_eq_append_getElem hl,List.map_append]
 simp[hr]
theorem WS.rds_v(l:List WS):(l.map WS.rd).map WV.v=l.map WS.v:=by rw[List.map_map];rfl
theorem WS.snoc(rs:List WS)(r:WS):rs.map WS.v++[r.v]=(rs++[r]).map WS.v:=by simp
theorem WS.perm{S:Nat→Prop}{w0 w:World}{L:List Hp}{rs:List WS}{r:WS}(hm:Mm S w0 (r.hp::(L++rs.map WS.hp)) w):Mm S w0 (L++(rs++[r]).map WS.hp) w:=by
 refine hm.perm ?_
 rw[List.map_append,←List.append_assoc]
 exact List.perm_append_comm (l₁:=L++rs.map WS.hp) (l₂:=[r.hp])
theorem WS.take_snoc{rs:List WS}{qs:List WV}{r:WS}(h:rs.map WS.xs=(qs.take rs.length).map WV.xs)(hl:rs.length<qs.length)(hr:r.xs=(qs[rs.length]).xs):(rs++[r]).map WS.xs=(qs.take (rs++[r]).length).map WV.xs:=by
 rw[List.map_append,h,List.length_append,List.length_singleton,List.take_succ_eq_append_getElem hl,List.map_append]
 simp[hr]
structure RrX where
 rs:List WS
 qA:Option Nat
 qc:Nat
 qcs:List Value
theorem cpin_c(A:Option Addr)(c:Nat)(qs:List WV)(wB:World)(hx:Rd wB wB.heap.size A (qs.map WV.v))(hqs:∀q∈qs,q.ok wB)(hq1:qs.length≤1000)(hsm:∀q∈qs,q.xs.length≤1000):Ret Tryz.prog 103 [.slice A qs.length c] wB (fun u w'=>∃(qA:Option Nat)(qc:Nat)(qcs:List Value)(rs:List WS),u=slv qA rs.length qc∧Row qA rs.length qc 1 (rs.map WS.v) qcs∧(∀r∈rs,r.ok)∧rs.map WS.xs=qs.map WV.xs∧rs.length=qs.length∧New wB w' (⟨qA,74,qcs⟩::rs.map WS.hp)∧Pu wB w'):=by
 refine enterR Tryz.func103 rfl rfl rfl fun a hs hm=>?_
 refine gsc5af_ ?_;clear hs hm a;intros;rename_i a hm hs
 replace hm:=hm.zero 74
 refine cLoop (X:=RrX) (fun X a w'=>X.rs.length≤qs.length∧Sl Tryz.f103.ntmps [(3,slv X.qA X.rs.length X.qc),(6,.slice A qs.length c),(7,.int .i64 (qs.length:Int)),(8,.int .i64 (X.rs.length:Int))] a∧Mm (fun _=>False) wB ([⟨X.qA,74,X.qcs⟩]++X.rs.map WS.hp) w'∧Row X.qA X.rs.length X.qc 1 (X.rs.map WS.v) X.qcs∧X.rs.map WS.xs=(qs.take X.rs.length).map WV.xs∧∀r∈X.rs,r.ok) (fun X=>qs.length-X.rs.length) ⟨[],none,0,[]⟩ ⟨Nat.zero_le _,(sb_ hs),hm,Row.empty 1,rfl,fun r hr=>by cases hr⟩ ?_
 clear hs hm a
 rintro⟨rs,qA,qc,qcs⟩ a w' ⟨hlen,hs,hm,hqr,hab,hok⟩
 dsimp only at hlen hs hm hqr hab hok
 by_cases hlt:rs.length<qs.length
 ·obtain⟨b1,o1,hA,hb1,r1⟩:=hx.ro (by rw[List.length_map];omega)
  obtain⟨q,hq⟩:∃q,q=qs[rs.length]:=⟨_,rfl⟩
  have hqm:q∈qs:=by rw[hq];exact List.getElem_mem hlt
  have hcell:(qs.map WV.v)[rs.length]?=some (.slice q.A q.xs.length q.c):=by rw[List.getElem?_map,List.getElem?_eq_getElem hlt,hq];rfl
  have hqo:=hqs q hqm
  have hqn:=hsm q hqm
  rw[hA]at hs
  refine gsc5af_ ?_;clear hs hm a;intros;rename_i a hm hs
  refine dv hs (Wnt.none rfl) rfl rfl (d_appendS (A:=none) (n:=0) (c:=0) (xs:=[]) (news:=wds q.xs) hs rfl rfl rfl rfl tab rfl rfl rfl rfl rfl (hm.zero 23) mem_ (Row.empty 1) (wds_len2 _) (hm.fr.rd' hqo) (wds_one2 _) (by show(0+q.xs.length)*2≤_;omega) (by omega)) ?_
  clear hs
  rintro _ w3 ⟨rA,rc,rcs,rfl,hrr,hM⟩ a hs
  replace hm:=hM _ rep_
  clear hM
  rw[Nat.zero_add,List.nil_append]at hrr
  rw[Nat.zero_add]at hs
  refine gsc5af_ ?_;clear hs hm a;intros;rename_i a hm hs
  refine dv hs (Wnt.none rfl) rfl rfl (d_append (A:=qA) (n:=rs.length) (c:=qc) (news:=[slv rA q.xs.length rc]) hs rfl rfl rfl rfl rfl tab rfl rfl rfl rfl rfl hm mem_ hqr rfl (hm.ro (n:=1) mem_ (cutF_ok rfl)) rfl (by show(rs.length+1)*24≤_;omega) (by omega)) ?_
  clear hs
  rintro _ w4 ⟨qA',qc',qcs',rfl,hqr',hM⟩ a hs
  replace hm:=hM _ rep_
  clear hM
  rw[show slv rA q.xs.length rc=WS.v ⟨rA,rc,rcs,q.xs⟩from rfl,WS.snoc]at hqr'
  refine gsc5af_ ?_;clear hs hm a;intros;rename_i a hm hs
  rw[←hA]at hs
  replace hm:=hm.sub (List.Sublist.cons _ (List.Sublist.refl _))
  refine⟨⟨rs++[⟨rA,rc,rcs,q.xs⟩],qA',qc',qcs'⟩,by dsimp only;rw[List.length_append,List.length_singleton];omega,by dsimp only;rw[List.length_append,List.length_singleton];omega,?_,?_,?_,WS.take_snoc hab hlt (by rw[hq]),?_⟩
  ·dsimp only
   rw[List.length_append,List.length_singleton]
   exact(sb_ hs)
  ·exact WS.perm (r:=⟨rA,rc,rcs,q.xs⟩) (L:=[⟨qA',74,qcs'⟩]) hm
  ·dsimp only
   rw[List.length_append,List.length_singleton]
   exact hqr'
  ·intro z hz
   rcases List.mem_append.1 hz with hz|hz
   ·exact hok z hz
   ·rcases List.mem_singleton.1 hz with rfl;exact hrr
 ·have hln:rs.length=qs.length:=by omega
  refine gsc5af_ ?_;clear hs hm a;intros;rename_i a hm hs
  rw[hln,List.take_length]at hab
  exact gRet1 hs rfl rfl ⟨qA,qc,qcs,rs,rfl,hqr,hok,hab,hln,hm.new (List.Sublist.refl _),hm.fr⟩
end Go.Proofs.YtbjffoojenpmfaaGreat
