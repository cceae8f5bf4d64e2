/- Texts put together: Sgl, Lay6, Lay7, Lay8, Lay9, Lay10, Lay13, Lay11, Awk9, Open, Pro9, Lay12, Sgm. -/
import Derived.ProofKit
import Derived.OpenShut
import Derived.ShutString
import Derived.ChangeOld
import Derived.SizedLaws
import Derived.Test.YtbjffoojenpmfaaGreatMgSOf
set_option maxRecDepth 20000
set_option maxHeartbeats 64000000
namespace Go.Proofs.YtbjffoojenpmfaaGreat
open Go.RowKit
theorem MeO.like.refl(y:MeO):y.like y:=⟨rfl,rfl,rfl,rfl,rfl,rfl⟩
theorem MeO.like.trans{x y z:MeO}(h:x.like y)(k:y.like z):x.like z:=⟨k.cA.trans h.cA,k.cc.trans h.cc,k.lA.trans h.lA,k.lc.trans h.lc,k.n.trans h.n,k.l.trans h.l⟩
theorem load_c(gm om:Nat)(y:MeO)(ad:Nat)(wB:World)(hM:Mm (own y.hps) wB y.hps wB)(hy:y.ok)(hv:y.val)(hh:Ro wB gm om [slv y.cA y.xs.length y.cc,slv y.lA y.ls.length y.lc])(hng:¬own y.hps gm)(had:ad<512):
  Ret Tryz.prog 44 [.pointer (some ⟨gm,om,none⟩),.int .i64 (ad:Int)] wB (fun u w'=>∃(z:MeO)(c:CV),u= .agg #[.int .u8 c.t,.int .u16 c.v]∧c.val∧z.ok∧z.val∧y.like z∧Mm (own y.hps) wB z.hps w'):=by
 obtain⟨A0,hA0⟩:∃A0,own y.hps=A0:=⟨_,rfl⟩
 have hM':Mm A0 wB y.hps wB:=hA0▸hM
 have hng':¬A0 gm:=hA0▸hng
 rw[hA0]
 refine enterR Tryz.func44 rfl rfl rfl fun a hs hm=>?_
 clear hm
 have hm:=hM'
 clear hM'
 refine gsb147_ ?_;clear hs hm a;intros;rename_i w a hm hs
 obtain⟨g4,rfl⟩:=hs.pp 4
 replace hm:Mm A0 wB (y.hps++[⟨some g4,103,[.int .u8 0,.int .u16 0]⟩]) w:=hm.perm (List.perm_append_comm (l₁:=y.hps) (l₂:=[⟨some g4,103,[.int .u8 0,.int .u16 0]⟩]))
 refine st hs rfl rfl rfl (d_call hs rfl rfl rfl (pl 73 rfl) ((fetch_c gm om y ad _ hm.part hy hv (hh.ro hm hng') hng had))) ?_;clear hs a;rintro _ w1 ⟨gl,z,q,hgl,rfl,hzo,hzv,hlk,hq,hqt,hk⟩ a hs
 replace hm:=hm.swap hk
 clear hk
 obtain⟨j,hj⟩:∃j,ad%4=j:=⟨_,rfl⟩
 have hj2:(ad:Int)%4=(j:Int):=by omega
 obtain⟨k,hk⟩:∃k,ad/4%4=k:=⟨_,rfl⟩
 rw[hk]at hs hq
 have hkl:k<z.ls.length:=(List.getElem?_eq_some_iff.1 hq).1
 have hqk:z.ls[k]=q:=(List.getElem?_eq_some_iff.1 hq).2
 have hqv:=hzv.ll k hkl
 rw[hqk]at hqv
 have hqo:=hzo.ll q (List.mem_of_getElem? hq)
 obtain⟨zc,zcc,zccs,zxs,zl,zlc,zlcs,zls⟩:=z
 dsimp only at hgl hkl hq hqk
 subst hgl
 have hrl:=hzo.l
 dsimp only at hrl
 have e2:zlcs[k*3+2]?=some (slv q.A q.d.xs.length q.c):=hrl.get (by rw[flat_get LnO.v 3 LnO.len zls k 2 hkl (by omega),hqk];rfl)
 obtain⟨t1,t2,t3,t4⟩:=hqv.at_ (by omega)
 obtain⟨qA,qc,qcs,tag,dt,ys⟩:=q
 have hqr:Row qA ys.length qc 2 (cvs ys) qcs:=hqo
 dsimp only at e2 t4
 obtain⟨gq,rfl⟩:=hqr.some_ (by omega)
 have hc:=hqv.cv (ys[j]'(by omega)) (List.getElem_mem _)
 have hcg:∀i,i<2→(cvs ys)[j*2+i]?=(CV.cs (ys[j]'(by omega)))[i]?:=fun i hi=>flat_get CV.cs 2 CV.cs_len ys j i (by omega) hi
 generalize ys[j]'(_)=c at hc hcg
 have f0:qcs[j*2+0]?=some (.int .u8 c.t):=hqr.get (by rw[hcg 0 (by omega)];rfl)
 have f1:qcs[j*2+1]?=some (.int .u16 c.v):=hqr.get (by rw[hcg 1 (by omega)];rfl)
 rw[t4]at e2
 replace hm:=Mm.frontG LnO.hp (L:=[⟨some g4,103,[.int .u8 0,.int .u16 0]⟩,⟨zc,103,zccs⟩,⟨some gl,61,zlcs⟩]) (hm.perm (List.perm_append_comm (l₁:=[_]))) hq
 obtain⟨R,hR⟩:∃R,(zls.eraseIdx k).map LnO.hp=R:=⟨_,rfl⟩
 replace hm:Mm A0 wB (⟨some gq,103,qcs⟩::⟨some g4,103,[.int .u8 0,.int .u16 0]⟩::⟨zc,103,zccs⟩::⟨some gl,61,zlcs⟩::R) w1:=by rw[←hR];exact hm
 have hcut:cutF qcs (j*2) 2=some [.int .u8 c.t,.int .u16 c.v]:=cutF_of qcs (j*2) c.cs (by have:=hqr.len;have:=hqr.le;show j*2+2≤_;omega) (fun i v hi=>hqr.get (by rw[hcg i (by have:=(List.getElem?_eq_some_iff.1 hi).1;exact this)];exact hi))
 refine gsb147_ ?_;clear hs hm a;intros;rename_i a hm hs
 refine gRetN tab hs rfl (.cons (.cells rfl rfl rfl rfl (hm.ro (k:=0) (n:=2) (g:=g4) mem_ (cutF_ok rfl))) .nil) ⟨⟨zc,zcc,zccs,zxs,some gl,zlc,zlcs,zls⟩,c,rfl,hc,hzo,hzv,hlk,?_⟩
 replace hm:=hm.sub (List.Sublist.cons_cons _ (List.Sublist.cons _ (List.Sublist.refl _)))
 rw[←hR]at hm
 have:=Mm.backG (q:=⟨some gq,qc,qcs,tag,dt,ys⟩) LnO.hp (L:=[⟨zc,103,zccs⟩,⟨some gl,61,zlcs⟩]) hkl hm
 rw[set_self hq]at this
 exact this
theorem store_c(gm om:Nat)(y:MeO)(ad:Nat)(c:CV)(wB:World)(hM:Mm (own y.hps) wB y.hps wB)(hy:y.ok)(hv:y.val)(hh:Ro wB gm om [slv y.cA y.xs.length y.cc,slv y.lA y.ls.length y.lc])(hng:¬own y.hps gm)(had:ad<512)(hcv:c.val):
  Ret Tryz.prog 45 [.pointer (some ⟨gm,om,none⟩),.int .i64 (ad:Int),.agg #[.int .u8 c.t,.int .u16 c.v]] wB (fun _ w'=>∃z:MeO,z.ok∧z.val∧y.like z∧Mm (own y.hps) wB z.hps w'):=by
 obtain⟨A0,hA0⟩:∃A0,own y.hps=A0:=⟨_,rfl⟩
 have hM':Mm A0 wB y.hps wB:=hA0▸hM
 have hng':¬A0 gm:=hA0▸hng
 rw[hA0]
 refine enterR Tryz.func45 rfl rfl rfl fun a hs hm=>?_
 clear hm
 have hm:=hM'
 clear hM'
 refine gsb147_ ?_;clear hs hm a;intros;rename_i w a hm hs
 obtain⟨g5,rfl⟩:=hs.pp 5
 replace hm:Mm A0 wB (y.hps++[⟨some g5,103,[.int .u8 c.t,.int .u16 c.v]⟩]) w:=hm.perm (List.perm_append_comm (l₁:=y.hps) (l₂:=[_]))
 refine st hs rfl rfl rfl (d_call hs rfl rfl rfl (pl 73 rfl) ((fetch_c gm om y ad _ hm.part hy hv (hh.ro hm hng') hng had))) ?_;clear hs a;rintro _ w1 ⟨gl,z,q,hgl,rfl,hzo,hzv,hlk,hq,hqt,hk⟩ a hs
 replace hm:=hm.swap hk
 clear hk
 obtain⟨j,hj⟩:∃j,ad%4=j:=⟨_,rfl⟩
 have hj2:(ad:Int)%4=(j:Int):=by omega
 obtain⟨k,hk⟩:∃k,ad/4%4=k:=⟨_,rfl⟩
 rw[hk]at hs hq
 have hkl:k<z.ls.length:=(List.getElem?_eq_some_iff.1 hq).1
 have hqk:z.ls[k]=q:=(List.getElem?_eq_some_iff.1 hq).2
 have hqv:=hzv.ll k hkl
 rw[hqk]at hqv
 have hqo:=hzo.ll q (List.mem_of_getElem? hq)
 obtain⟨zc,zcc,zccs,zxs,zl,zlc,zlcs,zls⟩:=z
 dsimp only at hgl hkl hq hqk
 subst hgl
 have hrl:=hzo.l
 have hzl:=hzv.l
 dsimp only at hrl hzl
 have hcl:=hrl.len
 have hle:=hrl.le
 have e2:zlcs[k*3+2]?=some (slv q.A q.d.xs.length q.c):=hrl.get (by rw[flat_get LnO.v 3 LnO.len zls k 2 hkl (by omega),hqk];rfl)
 obtain⟨t1,t2,t3,t4⟩:=hqv.at_ (by omega)
 obtain⟨qA,qc,qcs,tag,dt,ys⟩:=q
 have hqr:Row qA ys.length qc 2 (cvs ys) qcs:=hqo
 dsimp only at e2 t4
 obtain⟨gq,rfl⟩:=hqr.some_ (by omega)
 have hql:=hqr.len
 have hqe:=hqr.le
 rw[t4]at e2
 replace hm:=Mm.frontG LnO.hp (L:=[⟨some g5,103,[.int .u8 c.t,.int .u16 c.v]⟩,⟨zc,103,zccs⟩,⟨some gl,61,zlcs⟩]) (hm.perm (List.perm_append_comm (l₁:=[_]))) hq
 obtain⟨R,hR⟩:∃R,(zls.eraseIdx k).map LnO.hp=R:=⟨_,rfl⟩
 replace hm:Mm A0 wB (⟨some gq,103,qcs⟩::⟨some g5,103,[.int .u8 c.t,.int .u16 c.v]⟩::⟨zc,103,zccs⟩::⟨some gl,61,zlcs⟩::R) w1:=by rw[←hR];exact hm
 have l1:k*3+1<zlcs.length:=by omega
 refine gsb147_ ?_;clear hs hm a;intros;rename_i a hm hs
 refine cMid (fun a w=>Sl Tryz.f45.ntmps [(5,pt g5)] a∧Mm A0 wB (⟨some gq,103,qcs.take (j*2)++c.cs++qcs.drop (j*2+2)⟩::⟨some g5,103,[.int .u8 c.t,.int .u16 c.v]⟩::⟨zc,103,zccs⟩::⟨some gl,61,zlcs.set (k*3+1) (.bool true)⟩::R) w) ?_ ?_
 ·with_reducible repeat(first|apply gThen|apply wp_seq)
  refine cDrawTB (n:=13) (.s [0,1,2,3,4,5,6,7,8]<| .o 9<| .x<| .s [10,11]<| .o 12<| .d) 12 [⟨some g5,103,[.int .u8 c.t,.int .u16 c.v]⟩,⟨some gl,61,zlcs⟩] hm rfl rfl ?_
  clear hm;intro t_ w1_ hm
  repeat' (first|(refine dgc949_ ?_;clear t_ hs hm a;intros;rename_i a hm hs t_)|refine tEB t_ ?_|refine tCB ?_ ?_|exact tNB|intro t_|(refine oDoNB (i:=9) hs rfl (Wnt.none rfl) rfl (by exact d_store hs rfl rfl rfl tab rfl rfl rfl rfl hm rep_ (putG (vs:=[.int .u8 c.t,.int .u16 c.v]) (by show j*2+2≤_;omega))) ?_;clear hs;rintro-w1 hm a hs;replace t_:=tX t_;refine⟨bu_,?_⟩)|(refine tDB t_ ?_;(exact And.intro rfl ⟨(sb_ hs),hm⟩))|fail)
 ·rintro a w ⟨hs,hm⟩
  obtain⟨q',hq'⟩:∃q':LnO,q'=⟨some gq,qc,qcs.take (j*2)++c.cs++qcs.drop (j*2+2),tag,true,ys.set j c⟩:=⟨_,rfl⟩
  have hl':(zls.set k q').length=zls.length:=List.length_set
  have hyl:(ys.set j c).length=4:=by rw[List.length_set,t4]
  refine gEnd (rs:=[]) tab hs rfl .nil ⟨⟨zc,zcc,zccs,zxs,some gl,zlc,zlcs.set (k*3+1) (.bool true),zls.set k q'⟩,⟨hzo.c,?_,fun z hz=>?_⟩,⟨hzv.n,hl'.trans hzl,hzv.cv,fun i hi=>?_⟩,⟨hlk.cA,hlk.cc,hlk.lA,hlk.lc,hlk.n,hl'.trans hlk.l⟩,?_⟩
  ·dsimp only
   rw[hl',←flat_set LnO.v 3 LnO.len zls k 1 _ (.bool true) hq (by omega) q' (by rw[hq'];unfold LnO.v;dsimp only;rw[hyl,t4];rfl)]
   exact hrl.set _ _
  ·dsimp only at hz
   rcases List.mem_or_eq_of_mem_set hz with h|h
   ·exact hzo.ll z h
   ·subst h
    rw[hq']
    show Row (some gq) (ys.set j c).length qc 2 (cvs (ys.set j c)) (qcs.take (j*2)++c.cs++qcs.drop (j*2+2))
    have hsp:=hqr.splice (o:=j*2) (ys:=c.cs) (by rw[CV.cs_len];omega)
    rw[CV.cs_len,show(cvs ys).take (j*2)++c.cs++(cvs ys).drop (j*2+2)=cvs (ys.set j c)from flat_splice CV.cs 2 CV.cs_len ys j c (by omega)]at hsp
    rw[List.length_set]
    exact hsp
  ·dsimp only at hi ⊢
   rw[hl']at hi
   rw[List.getElem_set]
   split
   ·next e=>
    subst e
    rw[hq']
    exact⟨fun e=>by dsimp only at e t1;omega,fun _=>⟨t1,t2,t3,hyl⟩,fun x hx=>by
     rcases List.mem_or_eq_of_mem_set hx with h|h
     ·exact hqv.cv x h
     ·rw[h];exact hcv⟩
   ·exact hzv.ll i hi
  ·replace hm:=hm.sub (List.Sublist.cons_cons _ (List.Sublist.cons _ (List.Sublist.refl _)))
   rw[←hR]at hm
   have:=Mm.backG (q:=q') LnO.hp (L:=[⟨zc,103,zccs⟩,⟨some gl,61,zlcs.set (k*3+1) (.bool true)⟩]) hkl (by rw[hq'];exact hm)
   exact this
theorem look_c(A:Option Addr)(c:Nat)(xs:List CV)(Lb:Option Addr)(d:Nat)(ls:List LnV)(ad:Nat)(wB:World)(hA:Rd wB wB.heap.size A (cvs xs))(hL:Rd wB wB.heap.size Lb (ls.flatMap LnV.v))(hll:∀y∈ls,Rd wB wB.heap.size y.A (cvs y.d.xs))(h1:xs.length=512)(h2:ls.length=4)(h3:∀z∈xs,z.val)(h4:∀i (h:i<ls.length),(ls[i]).d.val i)(had:ad<512):
  Ret Tryz.prog 94 [.agg #[.slice A xs.length c,.slice Lb ls.length d],.int .i64 (ad:Int)] wB (fun u w'=>∃c:CV,u= .agg #[.int .u8 c.t,.int .u16 c.v]∧c.val∧Pu wB w'):=by
 obtain⟨n,hn⟩:∃n,ad/4=n:=⟨_,rfl⟩
 obtain⟨k,hk⟩:∃k,n%4=k:=⟨_,rfl⟩
 obtain⟨j,hj⟩:∃j,ad%4=j:=⟨_,rfl⟩
 have hj2:(ad:Int)%4=(j:Int):=by omega
 have hn2:(ad:Int)/4=(n:Int):=by omega
 have hk2:(ad:Int)/4%4=(k:Int):=by omega
 obtain⟨b1,o1,rfl,hb1,r1⟩:=hL.ro (by rw[flat_len LnV.v 3 LnV.len];omega)
 obtain⟨b2,o2,rfl,hb2,r2⟩:=hA.ro (by rw[cvs_len];omega)
 have q1:=r1.flat LnV.len (show k<ls.length by omega)
 have q2:=r2.flat CV.cs_len (show ad<xs.length by omega)
 have hv:=h4 k (by omega)
 have hr:=hll (ls[k]'(by omega)) (List.getElem_mem _)
 have hc:=h3 (xs[ad]'(by omega)) (List.getElem_mem _)
 generalize ls[k]'(_)=y at*
 generalize xs[ad]'(_)=x at*
 obtain⟨A2,c2,tag,dt,ys⟩:=y
 obtain⟨t,v⟩:=x
 unfold LnV.v at q1
 unfold CV.cs at q2
 dsimp only at*
 rw[h1,h2]
 refine enterR Tryz.func94 rfl rfl rfl fun a hs hm=>?_
 by_cases ht:tag=(n:Int)
 ·obtain⟨t1,t2,t3,t4⟩:=hv.at_ (by dsimp only;omega)
  dsimp only at t4
  obtain⟨b3,o3,rfl,hb3,r3⟩:=hr.ro (by rw[cvs_len];omega)
  have q3:=r3.flat CV.cs_len (show j<ys.length by omega)
  have hc2:=hv.cv (ys[j]'(by omega)) (List.getElem_mem _)
  generalize ys[j]'(_)=x2 at*
  obtain⟨s,u⟩:=x2
  unfold CV.cs at q3
  dsimp only at q3
  rw[t4]at q1
  refine gs377c_ ?_;clear hs hm a;intros;rename_i a hm hs
  obtain⟨g4,rfl⟩:=hs.pp 4
  exact gRetN tab hs rfl (.cons (.cells rfl rfl rfl rfl (hm.ro (k:=0) (n:=2) (g:=g4) mem_ (cutF_ok rfl))) .nil) ⟨⟨s,u⟩,rfl,hc2,hm.fr⟩
 ·refine gs377c_ ?_;clear hs hm a;intros;rename_i a hm hs
  obtain⟨g4,rfl⟩:=hs.pp 4
  exact gRetN tab hs rfl (.cons (.cells rfl rfl rfl rfl (hm.ro (k:=0) (n:=2) (g:=g4) mem_ (cutF_ok rfl))) .nil) ⟨⟨t,v⟩,rfl,hc,hm.fr⟩
theorem gcLay61_{G H:Prop}(k:H)(s:Bx H→G:=by intro k_;(repeat(first|(refine ov5a1a_ ?_;(try clear hs a);intro a hs)|((with_reducible apply lCons);first|(refine dv hs gw_ rfl rfl da_ ?_;(try clear hs hm a);rintro _ w_ ⟨g_,rfl,-,hm⟩ a hs)|(refine stn hs rfl rfl ds_ ?_;(try clear hs hm a);rintro-w_ hm a hs))|refine sc_ ?_|((with_reducible apply lCons);first|(refine dvc hs hm gw_ rfl rfl rfl rfl rfl (pl 74 rfl) (hn true _) ?_;(try clear hs hm a);intro w_ hm a hs))));(first|(have m_:=hm;have s_:=hs;clear hs;(try clear hm);revert m_ s_ a)|((first|refine rexc_ hs hm ?_|refine rexl_ hs hm ?_|refine rexg_ hs hm ?_|refine rexq_ hs hm ?_);intro a hm hs;revert hm hs a));(try revert w_);(repeat revert g_);exact k_.h):G:=s ⟨k⟩
def numF(op b c:Int):Int × Int:=
 if op=3 then(IntKind.u16.wrap (b+c),0)else if op=4 then(IntKind.u16.wrap (b-c),0)else if op=5 then(IntKind.u16.wrap (b*c),0)
 else if op=6 then(if c=0 then(0,5)else(IntKind.u16.wrap (b.tdiv c),0))else if op=7 then(if c=0 then(0,5)else(b%c,0))
 else if op=8 then(bits .and .u16 b c,0)else if op=9 then(bits .or .u16 b c,0)else if op=10 then(bits .xor .u16 b c,0)
 else if op=11 then(IntKind.u16.wrap (b*2 ^ (min (c%16).toNat IntKind.u16.bits)),0)else if op=12 then(b.fdiv (2 ^ (min (c%16).toNat IntKind.u16.bits)),0)
 else(if b<c then 1 else 0,0)
theorem rnum_c(op b c:Int)(w:World)(hop:3≤op∧op≤13)(hb:0≤b∧b≤65535)(hc:0≤c∧c≤65535):Ret Tryz.prog 75 [.int .i64 op,.int .u16 b,.int .u16 c] w (fun u w'=>u= .tuple #[clV 0 (numF op b c).1,.int .i64 (numF op b c).2]∧Pu w w'):=by
 have hn:=fun v w=>flg_c v w
 unfold clV at*
 by_cases h13:op=13
 ·subst h13
  by_cases hlt:b<c
  ·rw[show numF 13 b c=(1,0) by simp[numF,hlt]]
   replace hn:=fun _:Bool=>hn true
   refine enterR Tryz.func75 rfl rfl rfl fun a hs hm=>?_
   refine gcLay61_ ?_;clear hs hm a;intros;rename_i a hm hs
   exact z12c7_
  ·rw[show numF 13 b c=(0,0) by simp[numF,hlt]]
   replace hn:=fun _:Bool=>hn false
   refine enterR Tryz.func75 rfl rfl rfl fun a hs hm=>?_
   refine gcLay61_ ?_;clear hs hm a;intros;rename_i a hm hs
   exact z12c7_
 by_cases h0:c=0
 ·rcases(by omega:op=3∨op=4∨op=5∨op=6∨op=7∨op=8∨op=9∨op=10∨op=11∨op=12)with rfl|rfl|rfl|rfl|rfl|rfl|rfl|rfl|rfl|rfl
  iterate 3
   ·skip
    refine enterR Tryz.func75 rfl rfl rfl fun a hs hm=>?_
    refine gcLay61_ ?_;clear hs hm a;intros;rename_i a hm hs
    exact z12c7_
  iterate 2
   ·rw[show numF _ b c=((0:Int),(5:Int)) by simp[numF,h0]]
    refine enterR Tryz.func75 rfl rfl rfl fun a hs hm=>?_
    refine gcLay61_ ?_;clear hs hm a;intros;rename_i a hm hs
    exact z12c7_
  iterate 5
   ·skip
    refine enterR Tryz.func75 rfl rfl rfl fun a hs hm=>?_
    refine gcLay61_ ?_;clear hs hm a;intros;rename_i a hm hs
    exact z12c7_
 ·rcases(by omega:op=3∨op=4∨op=5∨op=6∨op=7∨op=8∨op=9∨op=10∨op=11∨op=12)with rfl|rfl|rfl|rfl|rfl|rfl|rfl|rfl|rfl|rfl
  iterate 3
   ·skip
    refine enterR Tryz.func75 rfl rfl rfl fun a hs hm=>?_
    refine gcLay61_ ?_;clear hs hm a;intros;rename_i a hm hs
    exact z12c7_
  ·rw[show numF 6 b c=(IntKind.u16.wrap (b.tdiv c),0) by simp[numF,h0]]
   refine enterR Tryz.func75 rfl rfl rfl fun a hs hm=>?_
   refine gcLay61_ ?_;clear hs hm a;intros;rename_i a hm hs
   exact z12c7_
  ·rw[show numF 7 b c=(b%c,0) by simp[numF,h0]]
   refine enterR Tryz.func75 rfl rfl rfl fun a hs hm=>?_
   refine gcLay61_ ?_;clear hs hm a;intros;rename_i a hm hs
   exact z12c7_
  iterate 5
   ·skip
    refine enterR Tryz.func75 rfl rfl rfl fun a hs hm=>?_
    refine gcLay61_ ?_;clear hs hm a;intros;rename_i a hm hs
    exact z12c7_
def doF(x:LS)(op t v s u:Int):(Int × Int) × Int:=
 if op<3∨14<op then((0,0),1)
 else if op=14 then((0,if t=s∧v=u then 1 else 0),0)
 else if t=0∧s=0 then((0,(numF op v u).1),(numF op v u).2)
 else if t=1∧s=0∧op=3 then movF x 1 v u false
 else if t=1∧s=0∧op=4 then movF x 1 v u true
 else if t=0∧s=1∧op=3 then movF x 1 u v false
 else if t=1∧s=1∧op=4 then match aptF x v u with
  |none=>((0,0),4)
  |some (p,q)=>((0,IntKind.u16.wrap (p.2-q.2)),0)
 else if t=1∧s=1∧op=13 then match aptF x v u with
  |none=>((0,0),4)
  |some (p,q)=>((0,if p.2<q.2 then 1 else 0),0)
 else((0,0),3)
def dV(r:(Int × Int) × Int):Value:= .tuple #[clV r.1.1 r.1.2,.int .i64 r.2]
def aptR(op:Int):Option ((Nat × Int) × (Nat × Int))→(Int × Int) × Int
 |none=>((0,0),4)
 |some (p,q)=>if op=4 then((0,IntKind.u16.wrap (p.2-q.2)),0)else((0,if p.2<q.2 then 1 else 0),0)
theorem doF_apt{x:LS}{op v u:Int}(hop:op=4∨op=13):doF x op 1 v 1 u=aptR op (aptF x v u):=by
 unfold aptR
 rcases hop with rfl|rfl
 ·cases h:aptF x v u<;>simp[doF,h]
 ·cases h:aptF x v u<;>simp[doF,h]
theorem gpLay80_{G H:Prop}(k:H)(s:Bx H→G:=by intro k_;(repeat(first|(refine ov701a_ ?_;(try clear hs a);intro a hs)|((with_reducible apply lCons);first|(refine dv hs gw_ rfl rfl da_ ?_;(try clear hs hm a);rintro _ w_ ⟨g_,rfl,-,hm⟩ a hs)|(refine stn hs rfl rfl ds_ ?_;(try clear hs hm a);rintro-w_ hm a hs))|refine sc_ ?_));have m_:=hm;have s_:=hs;clear hs;(try clear hm);revert m_ s_ a;(try revert w_);(repeat revert g_);exact k_.h):G:=s ⟨k⟩
theorem gcLay81_{G H:Prop}(k:H)(s:Bx H→G:=by intro k_;(repeat(first|(refine ov701a_ ?_;(try clear hs a);intro a hs)|((with_reducible apply lCons);first|(refine dv hs gw_ rfl rfl da_ ?_;(try clear hs hm a);rintro _ w_ ⟨g_,rfl,-,hm⟩ a hs)|(refine stn hs rfl rfl ds_ ?_;(try clear hs hm a);rintro-w_ hm a hs))|refine sc_ ?_|((with_reducible apply lCons);first|(refine dvc hs hm gw_ rfl rfl rfl rfl rfl (pl 71 rfl) (hrs _ hm.fr) ?_;(try clear hs hm a);intro w_ hm a hs)|(refine dvc hs hm gw_ rfl rfl rfl rfl rfl (pl 72 rfl) (hin _ hm.fr) ?_;(try clear hs hm a);intro w_ hm a hs))));(first|(have m_:=hm;have s_:=hs;clear hs;(try clear hm);revert m_ s_ a)|((first|refine rexc_ hs hm ?_|refine rexl_ hs hm ?_|refine rexg_ hs hm ?_|refine rexq_ hs hm ?_);intro a hm hs;revert hm hs a));(try revert w_);(repeat revert g_);exact k_.h):G:=s ⟨k⟩
theorem rmov_c(x:LS)(t v k:Int)(back:Bool)(w:World)(hx:x.ok w)(hv:0≤v∧v≤65535)(hk:0≤k∧k≤65535):
  Ret Tryz.prog 43 [x.l,x.s,clV t v,.int .u16 k,.bool back] w (fun u w'=>u= .tuple #[clV (movF x t v k back).1.1 (movF x t v k back).1.2,.int .i64 (movF x t v k back).2]∧Pu w w'):=by
 have hrs:=hx.rrsv hv
 have hwk:=wrapS hk
 have hoff:=fun r o=>hx.off (v:=v) (r:=r) (o:=o)
 have had:=fun(r:Nat) (o:Int) w'' (hf:Pu w w'')=>rins_c x.B x.n x.d x.ss (r:Int) o w'' hx.sl (hf.rd' hx.sr)
 generalize hR:movF x t v k back=R
 unfold movF at hR
 unfold LS.l LS.s clV at*
 by_cases ht:t=1
 ·rw[if_pos ht]at hR
  cases hq:resF x.bs x.ss v x.n with
  |none=>
   rw[hq]at hrs hR
   unfold rsvV at hrs
   subst hR
   refine enterR Tryz.func43 rfl rfl rfl fun a hs hm=>?_
   repeat(first|(refine gpLay80_ ?_;clear hs hm a;intros;rename_i w a hm hs)|refine sc_ ?_|((with_reducible apply lCons);first|(refine dvc hs hm gw_ rfl rfl rfl rfl rfl (pl 71 rfl) (hrs _ hm.fr) ?_;clear hs hm a;intro w hm a hs)))
   exact z12c7_
  |some p=>
   obtain⟨r,o⟩:=p
   obtain⟨f1,f2,f3,f4⟩:=hoff r o hq
   rw[hq]at hrs hR
   unfold rsvV at hrs
   dsimp only at hR
   cases back
   ·rw[if_neg (show¬false=true by simp)]at hR
    have hin:∀w'',Pu w w''→Ret Tryz.prog 72 [.slice x.B x.n x.d,.agg #[.int .i64 (r:Int),.int .i64 (o+IntKind.i64.wrap k)]] w'' (fun v w'=>v= .bool (insF x.ss r (o+k))∧Pu w'' w'):=fun w'' hf=>by rw[hwk];exact had r (o+k) w'' hf
    cases hi:insF x.ss (r:Int) (o+k)
    ·rw[hi,if_neg (show¬false=true by simp)]at hR
     rw[hi]at hin
     subst hR
     refine enterR Tryz.func43 rfl rfl rfl fun a hs hm=>?_
     refine gcLay81_ ?_;clear hs hm a;intros;rename_i w a hm hs
     exact z12c7_
    ·rw[hi,if_pos (show true=true from rfl)]at hR
     rw[hi]at hin
     have hi2:=insF_t.1 hi
     have hss:=hx.s (x.ss[r]'(by omega)) (List.getElem_mem _)
     rw[Int.toNat_natCast,getI (by omega)]at hi2
     have hlt:r<x.bs.length:=by rw[hx.bl];exact f1
     obtain⟨b1,o1,hA,hb1,r1⟩:=hx.br.ro (by rw[ints_len];omega)
     have e1:=ints_some (xs:=x.bs) (k:=r) hlt
     have hg1:=getI (l:=x.bs) (k:=r) hlt
     have hbk:=hx.b x.bs[r] (List.getElem_mem hlt)
     rw[hg1]at hR
     rw[hA]at hrs ⊢
     generalize x.bs[r]'(_)=bk at*
     subst hR
     refine enterR Tryz.func43 rfl rfl rfl fun a hs hm=>?_
     refine gcLay81_ ?_;clear hs hm a;intros;rename_i a hm hs
     obtain⟨g5,rfl⟩:=hs.pp 5
     obtain⟨g7,rfl⟩:=hs.pp 7
     obtain⟨g10,rfl⟩:=hs.pp 10
     obtain⟨g12,rfl⟩:=hs.pp 12
     rw[hwk]at hs hm
     refine cDrawT (n:=13) (.s [0,1,2,3,4,5,6,7,8,9,10]<| .o 11<| .t 12<| .d) [⟨some g12,129,[.int .i64 (r:Int),.int .i64 (o+k)]⟩,⟨some g5,25,[.slice (some ⟨b1,o1,none⟩) x.n x.c,.int .u16 x.key]⟩] hm rfl rfl ?_
     clear hm;intro t_ w1_ hm
     repeat' (first|(refine dg149e_ ?_;clear t_ hs hm a;intros;rename_i a hm hs t_)|refine tE t_ ?_|refine tC ?_ ?_|exact tN|intro t_|(refine tD t_ ?_;(refine gsc5af_ ?_;clear hs hm a;intros;rename_i a hm hs);(exact gRetN tab hs rfl (.cons (.cells rfl rfl rfl rfl (hm.ro (k:=0) (n:=2) mem_ (cutF_ok rfl))) (.cons (.tmp rfl) .nil)) ⟨rfl,hm.fr⟩))|fail)
   ·rw[if_pos (show true=true from rfl)]at hR
    have hin:∀w'',Pu w w''→Ret Tryz.prog 72 [.slice x.B x.n x.d,.agg #[.int .i64 (r:Int),.int .i64 (o-IntKind.i64.wrap k)]] w'' (fun v w'=>v= .bool (insF x.ss r (o+-k))∧Pu w'' w'):=fun w'' hf=>by rw[hwk];exact had r (o+-k) w'' hf
    cases hi:insF x.ss (r:Int) (o+-k)
    ·rw[hi,if_neg (show¬false=true by simp)]at hR
     rw[hi]at hin
     subst hR
     refine enterR Tryz.func43 rfl rfl rfl fun a hs hm=>?_
     refine gcLay81_ ?_;clear hs hm a;intros;rename_i a hm hs
     exact z12c7_
    ·rw[hi,if_pos (show true=true from rfl)]at hR
     rw[hi]at hin
     have hi2:=insF_t.1 hi
     have hss:=hx.s (x.ss[r]'(by omega)) (List.getElem_mem _)
     rw[Int.toNat_natCast,getI (by omega)]at hi2
     have hlt:r<x.bs.length:=by rw[hx.bl];exact f1
     obtain⟨b1,o1,hA,hb1,r1⟩:=hx.br.ro (by rw[ints_len];omega)
     have e1:=ints_some (xs:=x.bs) (k:=r) hlt
     have hg1:=getI (l:=x.bs) (k:=r) hlt
     have hbk:=hx.b x.bs[r] (List.getElem_mem hlt)
     rw[hg1]at hR
     rw[hA]at hrs ⊢
     generalize x.bs[r]'(_)=bk at*
     subst hR
     refine enterR Tryz.func43 rfl rfl rfl fun a hs hm=>?_
     refine gcLay81_ ?_;clear hs hm a;intros;rename_i a hm hs
     obtain⟨g5,rfl⟩:=hs.pp 5
     obtain⟨g7,rfl⟩:=hs.pp 7
     obtain⟨g10,rfl⟩:=hs.pp 10
     obtain⟨g12,rfl⟩:=hs.pp 12
     rw[hwk]at hs hm
     refine cDrawT (n:=13) (.s [0,1,2,3,4,5,6,7,8,9,10]<| .o 11<| .t 12<| .d) [⟨some g12,129,[.int .i64 (r:Int),.int .i64 (o-k)]⟩,⟨some g5,25,[.slice (some ⟨b1,o1,none⟩) x.n x.c,.int .u16 x.key]⟩] hm rfl rfl ?_
     clear hm;intro t_ w1_ hm
     repeat' (first|(refine dg149e_ ?_;clear t_ hs hm a;intros;rename_i a hm hs t_)|refine tE t_ ?_|refine tC ?_ ?_|exact tN|intro t_|(refine tD t_ ?_;(refine gsc5af_ ?_;clear hs hm a;intros;rename_i a hm hs);(exact gRetN tab hs rfl (.cons (.cells rfl rfl rfl rfl (hm.ro (k:=0) (n:=2) mem_ (cutF_ok rfl))) (.cons (.tmp rfl) .nil)) ⟨rfl,hm.fr⟩))|fail)
 ·rw[if_neg ht]at hR
  subst hR
  refine enterR Tryz.func43 rfl rfl rfl fun a hs hm=>?_
  refine gsc5af_ ?_;clear hs hm a;intros;rename_i a hm hs
  exact z12c7_
theorem gcLay90_{G H:Prop}(k:H)(s:Bx H→G:=by intro k_;(repeat(first|(refine ov701a_ ?_;(try clear hs a);intro a hs)|((with_reducible apply lCons);first|(refine dv hs gw_ rfl rfl da_ ?_;(try clear hs hm a);rintro _ w_ ⟨g_,rfl,-,hm⟩ a hs)|(refine stn hs rfl rfl ds_ ?_;(try clear hs hm a);rintro-w_ hm a hs))|refine sc_ ?_|((with_reducible apply lCons);first|(refine dvc hs hm gw_ rfl rfl rfl rfl rfl (pl 71 rfl) (h1 _ hm.fr) ?_;(try clear hs hm a);intro w_ hm a hs)|(refine dvc hs hm gw_ rfl rfl rfl rfl rfl (pl 71 rfl) (h2 _ hm.fr) ?_;(try clear hs hm a);intro w_ hm a hs))));(first|(have m_:=hm;have s_:=hs;clear hs;(try clear hm);revert m_ s_ a)|((first|refine rexc_ hs hm ?_|refine rexl_ hs hm ?_|refine rexg_ hs hm ?_|refine rexq_ hs hm ?_);intro a hm hs;revert hm hs a));(try revert w_);(repeat revert g_);exact k_.h):G:=s ⟨k⟩
def plV(p:Nat × Int):Value:= .agg #[.int .i64 (p.1:Int),.int .i64 p.2]
def opP:Option (Nat × Int)→Nat × Int
 |none=>(0,0)
 |some p=>p
theorem rsvV_o(p:Option (Nat × Int)):rsvV p= .tuple #[.agg #[.int .i64 ((opP p).1:Int),.int .i64 (opP p).2],.bool p.isSome]:=by
 cases p<;>rfl
theorem rapt_c(x:LS)(t v s u:Int)(w:World)(hx:x.ok w)(hv:0≤v∧v≤65535)(hu:0≤u∧u≤65535):
  Ret Tryz.prog 76 [x.l,x.s,clV t v,clV s u] w (fun z w'=>z= .tuple #[plV (opP (resF x.bs x.ss v x.n)),plV (opP (resF x.bs x.ss u x.n)),.bool (aptF x v u).isSome]∧Pu w w'):=by
 have h1:=hx.rrsv hv
 have h2:=hx.rrsv hu
 have hF:(aptF x v u).isSome=((resF x.bs x.ss v x.n).isSome&&((resF x.bs x.ss u x.n).isSome&&decide ((opP (resF x.bs x.ss v x.n)).1=(opP (resF x.bs x.ss u x.n)).1))):=by
  unfold aptF
  cases resF x.bs x.ss v x.n with
  |none=>rfl
  |some p=>
   cases resF x.bs x.ss u x.n with
   |none=>rfl
   |some q=>
    dsimp only[opP]
    by_cases h:p.1=q.1
    ·rw[if_pos h];simp[h]
    ·rw[if_neg h];simp[h]
 simp only[rsvV_o]at h1 h2
 rw[hF]
 unfold LS.l LS.s clV plV at*
 generalize resF x.bs x.ss v x.n=Q1 at*
 generalize resF x.bs x.ss u x.n=Q2 at*
 clear hF
 cases hb1:Q1.isSome
 ·rw[hb1]at h1
  cases hb2:Q2.isSome
  ·rw[hb2]at h2
   refine enterR Tryz.func76 rfl rfl rfl fun a hs hm=>?_
   refine gcLay90_ ?_;clear hs hm a;intros;rename_i a hm hs
   obtain⟨g8,rfl⟩:=hs.pp 8
   obtain⟨g9,rfl⟩:=hs.pp 9
   obtain⟨g11,rfl⟩:=hs.pp 11
   obtain⟨g13,rfl⟩:=hs.pp 13
   refine cDrawT (n:=16) (.s [0,1,2,3,4,5,6,7,8,9,10,11,12]<| .o 13<| .o 14<| .t 15<| .d) [⟨some g13,129,[.int .i64 ((opP Q2).1:Int),.int .i64 (opP Q2).2]⟩,⟨some g11,129,[.int .i64 ((opP Q1).1:Int),.int .i64 (opP Q1).2]⟩] hm rfl rfl ?_
   clear hm;intro t_ w1_ hm
   repeat' (first|(refine dg149e_ ?_;clear t_ hs hm a;intros;rename_i a hm hs t_)|refine tE t_ ?_|refine tC ?_ ?_|exact tN|intro t_|(refine tD t_ ?_;(refine gsc5af_ ?_;clear hs hm a;intros;rename_i a hm hs);(exact gRetN tab hs rfl (.cons (.cells rfl rfl rfl rfl (hm.ro (k:=0) (n:=2) mem_ (cutF_ok rfl))) (.cons (.cells rfl rfl rfl rfl (hm.ro (k:=0) (n:=2) mem_ (cutF_ok rfl))) (.cons (.tmp rfl) .nil))) ⟨by rw[Bool.false_and];rfl,hm.fr⟩))|fail)
  ·rw[hb2]at h2
   refine enterR Tryz.func76 rfl rfl rfl fun a hs hm=>?_
   refine gcLay90_ ?_;clear hs hm a;intros;rename_i a hm hs
   obtain⟨g8,rfl⟩:=hs.pp 8
   obtain⟨g9,rfl⟩:=hs.pp 9
   obtain⟨g11,rfl⟩:=hs.pp 11
   obtain⟨g13,rfl⟩:=hs.pp 13
   refine cDrawT (n:=16) (.s [0,1,2,3,4,5,6,7,8,9,10,11,12]<| .o 13<| .o 14<| .t 15<| .d) [⟨some g13,129,[.int .i64 ((opP Q2).1:Int),.int .i64 (opP Q2).2]⟩,⟨some g11,129,[.int .i64 ((opP Q1).1:Int),.int .i64 (opP Q1).2]⟩] hm rfl rfl ?_
   clear hm;intro t_ w1_ hm
   repeat' (first|(refine dg149e_ ?_;clear t_ hs hm a;intros;rename_i a hm hs t_)|refine tE t_ ?_|refine tC ?_ ?_|exact tN|intro t_|(refine tD t_ ?_;(refine gsc5af_ ?_;clear hs hm a;intros;rename_i a hm hs);(exact gRetN tab hs rfl (.cons (.cells rfl rfl rfl rfl (hm.ro (k:=0) (n:=2) mem_ (cutF_ok rfl))) (.cons (.cells rfl rfl rfl rfl (hm.ro (k:=0) (n:=2) mem_ (cutF_ok rfl))) (.cons (.tmp rfl) .nil))) ⟨by rw[Bool.false_and];rfl,hm.fr⟩))|fail)
 ·rw[hb1]at h1
  cases hb2:Q2.isSome
  ·rw[hb2]at h2
   refine enterR Tryz.func76 rfl rfl rfl fun a hs hm=>?_
   refine gcLay90_ ?_;clear hs hm a;intros;rename_i a hm hs
   obtain⟨g8,rfl⟩:=hs.pp 8
   obtain⟨g9,rfl⟩:=hs.pp 9
   obtain⟨g11,rfl⟩:=hs.pp 11
   obtain⟨g13,rfl⟩:=hs.pp 13
   refine cDrawT (n:=16) (.s [0,1,2,3,4,5,6,7,8,9,10,11,12]<| .o 13<| .o 14<| .t 15<| .d) [⟨some g13,129,[.int .i64 ((opP Q2).1:Int),.int .i64 (opP Q2).2]⟩,⟨some g11,129,[.int .i64 ((opP Q1).1:Int),.int .i64 (opP Q1).2]⟩] hm rfl rfl ?_
   clear hm;intro t_ w1_ hm
   repeat' (first|(refine dg149e_ ?_;clear t_ hs hm a;intros;rename_i a hm hs t_)|refine tE t_ ?_|refine tC ?_ ?_|exact tN|intro t_|(refine tD t_ ?_;(refine gsc5af_ ?_;clear hs hm a;intros;rename_i a hm hs);(exact gRetN tab hs rfl (.cons (.cells rfl rfl rfl rfl (hm.ro (k:=0) (n:=2) mem_ (cutF_ok rfl))) (.cons (.cells rfl rfl rfl rfl (hm.ro (k:=0) (n:=2) mem_ (cutF_ok rfl))) (.cons (.tmp rfl) .nil))) ⟨by rw[Bool.false_and];rfl,hm.fr⟩))|fail)
  ·rw[hb2]at h2
   by_cases hr:(opP Q1).1=(opP Q2).1
   ·rw[decide_eq_true hr]
    refine enterR Tryz.func76 rfl rfl rfl fun a hs hm=>?_
    refine gcLay90_ ?_;clear hs hm a;intros;rename_i a hm hs
    obtain⟨g8,rfl⟩:=hs.pp 8
    obtain⟨g9,rfl⟩:=hs.pp 9
    obtain⟨g11,rfl⟩:=hs.pp 11
    obtain⟨g13,rfl⟩:=hs.pp 13
    refine cDrawT (n:=16) (.s [0,1,2,3,4,5,6,7,8,9,10,11,12]<| .o 13<| .o 14<| .t 15<| .d) [⟨some g13,129,[.int .i64 ((opP Q2).1:Int),.int .i64 (opP Q2).2]⟩,⟨some g11,129,[.int .i64 ((opP Q1).1:Int),.int .i64 (opP Q1).2]⟩] hm rfl rfl ?_
    clear hm;intro t_ w1_ hm
    repeat' (first|(refine dg149e_ ?_;clear t_ hs hm a;intros;rename_i a hm hs t_)|refine tE t_ ?_|refine tC ?_ ?_|exact tN|intro t_|(refine tD t_ ?_;(refine gsc5af_ ?_;clear hs hm a;intros;rename_i a hm hs);(exact gRetN tab hs rfl (.cons (.cells rfl rfl rfl rfl (hm.ro (k:=0) (n:=2) mem_ (cutF_ok rfl))) (.cons (.cells rfl rfl rfl rfl (hm.ro (k:=0) (n:=2) mem_ (cutF_ok rfl))) (.cons (.tmp rfl) .nil))) ⟨by rw[Bool.true_and];rfl,hm.fr⟩))|fail)
   ·rw[decide_eq_false hr]
    refine enterR Tryz.func76 rfl rfl rfl fun a hs hm=>?_
    refine gcLay90_ ?_;clear hs hm a;intros;rename_i a hm hs
    obtain⟨g8,rfl⟩:=hs.pp 8
    obtain⟨g9,rfl⟩:=hs.pp 9
    obtain⟨g11,rfl⟩:=hs.pp 11
    obtain⟨g13,rfl⟩:=hs.pp 13
    refine cDrawT (n:=16) (.s [0,1,2,3,4,5,6,7,8,9,10,11,12]<| .o 13<| .o 14<| .t 15<| .d) [⟨some g13,129,[.int .i64 ((opP Q2).1:Int),.int .i64 (opP Q2).2]⟩,⟨some g11,129,[.int .i64 ((opP Q1).1:Int),.int .i64 (opP Q1).2]⟩] hm rfl rfl ?_
    clear hm;intro t_ w1_ hm
    repeat' (first|(refine dg149e_ ?_;clear t_ hs hm a;intros;rename_i a hm hs t_)|refine tE t_ ?_|refine tC ?_ ?_|exact tN|intro t_|(refine tD t_ ?_;(refine gsc5af_ ?_;clear hs hm a;intros;rename_i a hm hs);(exact gRetN tab hs rfl (.cons (.cells rfl rfl rfl rfl (hm.ro (k:=0) (n:=2) mem_ (cutF_ok rfl))) (.cons (.cells rfl rfl rfl rfl (hm.ro (k:=0) (n:=2) mem_ (cutF_ok rfl))) (.cons (.tmp rfl) .nil))) ⟨by rw[Bool.true_and];rfl,hm.fr⟩))|fail)
theorem gpLay100_{G H:Prop}(k:H)(s:Bx H→G:=by intro k_;(repeat(first|(refine ov701a_ ?_;(try clear hs a);intro a hs)|((with_reducible apply lCons);first|(refine dv hs gw_ rfl rfl da_ ?_;(try clear hs hm a);rintro _ w_ ⟨g_,rfl,-,hm⟩ a hs)|(refine stn hs rfl rfl ds_ ?_;(try clear hs hm a);rintro-w_ hm a hs))|refine sc_ ?_));have m_:=hm;have s_:=hs;clear hs;(try clear hm);revert m_ s_ a;(try revert w_);(repeat revert g_);exact k_.h):G:=s ⟨k⟩
theorem gcLay101_{G H:Prop}(k:H)(s:Bx H→G:=by intro k_;(repeat(first|(refine ov701a_ ?_;(try clear hs a);intro a hs)|((with_reducible apply lCons);first|(refine dv hs gw_ rfl rfl da_ ?_;(try clear hs hm a);rintro _ w_ ⟨g_,rfl,-,hm⟩ a hs)|(refine stn hs rfl rfl ds_ ?_;(try clear hs hm a);rintro-w_ hm a hs))|refine sc_ ?_|((with_reducible apply lCons);first|(refine dvc hs hm gw_ rfl rfl rfl rfl rfl (pl 43 rfl) (hmv _ hm.fr) ?_;(try clear hs hm a);intro w_ hm a hs))));(first|(have m_:=hm;have s_:=hs;clear hs;(try clear hm);revert m_ s_ a)|((first|refine rexc_ hs hm ?_|refine rexl_ hs hm ?_|refine rexg_ hs hm ?_|refine rexq_ hs hm ?_);intro a hm hs;revert hm hs a));(try revert w_);(repeat revert g_);exact k_.h):G:=s ⟨k⟩
theorem gcLay102_{G H:Prop}(k:H)(s:Bx H→G:=by intro k_;(repeat(first|(refine ov701a_ ?_;(try clear hs a);intro a hs)|((with_reducible apply lCons);first|(refine dv hs gw_ rfl rfl da_ ?_;(try clear hs hm a);rintro _ w_ ⟨g_,rfl,-,hm⟩ a hs)|(refine stn hs rfl rfl ds_ ?_;(try clear hs hm a);rintro-w_ hm a hs))|refine sc_ ?_|((with_reducible apply lCons);first|(refine dvc hs hm gw_ rfl rfl rfl rfl rfl (pl 76 rfl) (hap _ hm.fr) ?_;(try clear hs hm a);intro w_ hm a hs))));(first|(have m_:=hm;have s_:=hs;clear hs;(try clear hm);revert m_ s_ a)|((first|refine rexc_ hs hm ?_|refine rexl_ hs hm ?_|refine rexg_ hs hm ?_|refine rexq_ hs hm ?_);intro a hm hs;revert hm hs a));(try revert w_);(repeat revert g_);exact k_.h):G:=s ⟨k⟩
theorem rdo_out(x:LS)(op t v s u:Int)(w:World)(h:op<3∨14<op):Ret Tryz.prog 46 [x.l,x.s,.int .i64 op,clV t v,clV s u] w (fun z w'=>z=dV ((0,0),1)∧Pu w w'):=by
 unfold LS.l LS.s clV dV
 rcases h with h|h
 ·skip
  refine enterR Tryz.func46 rfl rfl rfl fun a hs hm=>?_
  refine gsc5af_ ?_;clear hs hm a;intros;rename_i a hm hs
  exact z12c7_
 ·skip
  refine enterR Tryz.func46 rfl rfl rfl fun a hs hm=>?_
  refine gsc5af_ ?_;clear hs hm a;intros;rename_i w a hm hs
  exact z12c7_
theorem rdo_eq(x:LS)(t v s u:Int)(w:World):Ret Tryz.prog 46 [x.l,x.s,.int .i64 14,clV t v,clV s u] w (fun z w'=>z=dV ((0,if t=s∧v=u then 1 else 0),0)∧Pu w w'):=by
 have ht:=fun w=>flg_c ((t==s)&&((v==u)&&true)) w
 have he:(if((t==s)&&((v==u)&&true))=true then(1:Int)else 0)=if t=s∧v=u then 1 else 0:=by
  by_cases h1:t=s<;>by_cases h2:v=u<;>simp[h1,h2]
 rw[he]at ht
 unfold LS.l LS.s clV dV at*
 refine enterR Tryz.func46 rfl rfl rfl fun a hs hm=>?_
 refine gsc5af_ ?_;clear hs hm a;intros;rename_i a hm hs
 refine toL hm (oneV hs (Wnt.none rfl) rfl rfl (by intro w hm;exact r_eqlSt (fl:=[(true,0,5),(true,1,23)]) hs rfl rfl rfl tab (by kernel_rfl) (by kernel_rfl) (by kernel_rfl) (by kernel_rfl) rfl) ?_)
 clear hs a
 intro a hs
 repeat(first|(refine gpLay100_ ?_;clear hs hm a;intros;rename_i w a hm hs)|refine sc_ ?_|((with_reducible apply lCons);first|(refine dvc hs hm gw_ rfl rfl rfl rfl rfl (pl 74 rfl) (ht _) ?_;clear hs hm a;intro w hm a hs)))
 exact z12c7_
theorem rdo_nn(x:LS)(op v u:Int)(w:World)(hop:3≤op∧op≤13)(hv:0≤v∧v≤65535)(hu:0≤u∧u≤65535):Ret Tryz.prog 46 [x.l,x.s,.int .i64 op,clV 0 v,clV 0 u] w (fun z w'=>z=dV ((0,(numF op v u).1),(numF op v u).2)∧Pu w w'):=by
 have hnum:=fun w=>rnum_c op v u w hop hv hu
 unfold LS.l LS.s clV dV at*
 refine enterR Tryz.func46 rfl rfl rfl fun a hs hm=>?_
 repeat(first|(refine gpLay100_ ?_;clear hs hm a;intros;rename_i w a hm hs)|refine sc_ ?_|((with_reducible apply lCons);first|(refine dvc hs hm gw_ rfl rfl rfl rfl rfl (pl 75 rfl) (hnum _) ?_;clear hs hm a;intro w hm a hs)))
 exact z12c7_
theorem rdo_pn(x:LS)(op v u:Int)(back:Bool)(w:World)(hx:x.ok w)(hop:(back=false∧op=3)∨(back=true∧op=4))(hv:0≤v∧v≤65535)(hu:0≤u∧u≤65535):Ret Tryz.prog 46 [x.l,x.s,.int .i64 op,clV 1 v,clV 0 u] w (fun z w'=>z=dV (movF x 1 v u back)∧Pu w w'):=by
 have hmv:=fun w'' (hf:Pu w w'')=>rmov_c x 1 v u back w'' (hx.pu hf) hv hu
 unfold LS.l LS.s clV dV at*
 rcases hop with⟨rfl,rfl⟩|⟨rfl,rfl⟩
 ·skip
  refine enterR Tryz.func46 rfl rfl rfl fun a hs hm=>?_
  refine gcLay101_ ?_;clear hs hm a;intros;rename_i a hm hs
  exact z12c7_
 ·skip
  refine enterR Tryz.func46 rfl rfl rfl fun a hs hm=>?_
  refine gcLay101_ ?_;clear hs hm a;intros;rename_i w a hm hs
  exact z12c7_
theorem rdo_np(x:LS)(v u:Int)(w:World)(hx:x.ok w)(hv:0≤v∧v≤65535)(hu:0≤u∧u≤65535):Ret Tryz.prog 46 [x.l,x.s,.int .i64 3,clV 0 v,clV 1 u] w (fun z w'=>z=dV (movF x 1 u v false)∧Pu w w'):=by
 have hmv:=fun w'' (hf:Pu w w'')=>rmov_c x 1 u v false w'' (hx.pu hf) hu hv
 unfold LS.l LS.s clV dV at*
 refine enterR Tryz.func46 rfl rfl rfl fun a hs hm=>?_
 refine gcLay101_ ?_;clear hs hm a;intros;rename_i w a hm hs
 exact z12c7_
theorem aptF_op{x:LS}{v u:Int}{p q:Nat × Int}(h:aptF x v u=some (p,q)):opP (resF x.bs x.ss v x.n)=p∧opP (resF x.bs x.ss u x.n)=q:=by
 unfold aptF at h
 cases h1:resF x.bs x.ss v x.n with
 |none=>rw[h1]at h;cases h
 |some p'=>
  cases h2:resF x.bs x.ss u x.n with
  |none=>rw[h1,h2]at h;cases h
  |some q'=>
   rw[h1,h2]at h
   dsimp only at h
   split at h
   ·obtain⟨rfl,rfl⟩:=Prod.mk.inj (Option.some.inj h)
    exact⟨rfl,rfl⟩
   ·cases h
theorem rdo_pp(x:LS)(op v u:Int)(w:World)(hx:x.ok w)(hop:op=4∨op=13)(hv:0≤v∧v≤65535)(hu:0≤u∧u≤65535):Ret Tryz.prog 46 [x.l,x.s,.int .i64 op,clV 1 v,clV 1 u] w (fun z w'=>z=dV (aptR op (aptF x v u))∧Pu w w'):=by
 have hap:=fun w'' (hf:Pu w w'')=>rapt_c x 1 v 1 u w'' (hx.pu hf) hv hu
 have htt:=fun w=>flg_c true w
 have htf:=fun w=>flg_c false w
 unfold LS.l LS.s clV dV plV at*
 cases hq:aptF x v u with
 |none=>
  rw[hq]at hap
  unfold aptR
  rcases hop with rfl|rfl
  ·skip
   refine enterR Tryz.func46 rfl rfl rfl fun a hs hm=>?_
   refine gcLay102_ ?_;clear hs hm a;intros;rename_i a hm hs
   exact z12c7_
  ·skip
   refine enterR Tryz.func46 rfl rfl rfl fun a hs hm=>?_
   refine gcLay102_ ?_;clear hs hm a;intros;rename_i a hm hs
   exact z12c7_
 |some pq=>
  obtain⟨p,q⟩:=pq
  obtain⟨e1,e2⟩:=aptF_op hq
  rw[hq,e1,e2]at hap
  have hb:=aptF_bd hx hq
  unfold aptR
  dsimp only
  rcases hop with rfl|rfl
  ·rw[if_pos rfl]
   refine enterR Tryz.func46 rfl rfl rfl fun a hs hm=>?_
   refine gcLay102_ ?_;clear hs hm a;intros;rename_i a hm hs
   exact z12c7_
  ·rw[if_neg (by omega)]
   by_cases hlt:p.2<q.2
   ·rw[if_pos hlt]
    refine enterR Tryz.func46 rfl rfl rfl fun a hs hm=>?_
    repeat(first|(refine gpLay100_ ?_;clear hs hm a;intros;rename_i a hm hs)|refine sc_ ?_|((with_reducible apply lCons);first|(refine dvc hs hm gw_ rfl rfl rfl rfl rfl (pl 76 rfl) (hap _ hm.fr) ?_;clear hs hm a;intro w hm a hs)|(refine dvc hs hm gw_ rfl rfl rfl rfl rfl (pl 74 rfl) (htt _) ?_;clear hs hm a;intro w hm a hs)))
    exact z12c7_
   ·rw[if_neg hlt]
    refine enterR Tryz.func46 rfl rfl rfl fun a hs hm=>?_
    repeat(first|(refine gpLay100_ ?_;clear hs hm a;intros;rename_i w a hm hs)|refine sc_ ?_|((with_reducible apply lCons);first|(refine dvc hs hm gw_ rfl rfl rfl rfl rfl (pl 76 rfl) (hap _ hm.fr) ?_;clear hs hm a;intro w hm a hs)|(refine dvc hs hm gw_ rfl rfl rfl rfl rfl (pl 74 rfl) (htf _) ?_;clear hs hm a;intro w hm a hs)))
    exact z12c7_
theorem rdo_tag(x:LS)(op t v s u:Int)(w:World)(hop:3≤op∧op≤13)(ht:t=0∨t=1∨t=2)(hs':s=0∨s=1∨s=2)(h00:¬(t=0∧s=0))(h10:¬(t=1∧s=0∧(op=3∨op=4)))(h01:¬(t=0∧s=1∧op=3))(h11:¬(t=1∧s=1∧(op=4∨op=13))):
  Ret Tryz.prog 46 [x.l,x.s,.int .i64 op,clV t v,clV s u] w (fun z w'=>z=dV ((0,0),3)∧Pu w w'):=by
 unfold LS.l LS.s clV dV
 rcases ht with rfl|rfl|rfl<;>rcases hs' with rfl|rfl|rfl
 ·exact absurd ⟨rfl,rfl⟩ h00
 ·by_cases h3:op=3
  ·exfalso;omega
  ·by_cases h4:op=4
   ·skip
    refine enterR Tryz.func46 rfl rfl rfl fun a hs hm=>?_
    refine gsc5af_ ?_;clear hs hm a;intros;rename_i a hm hs
    exact z12c7_
   ·by_cases h13:op=13
    ·skip
     refine enterR Tryz.func46 rfl rfl rfl fun a hs hm=>?_
     refine gsc5af_ ?_;clear hs hm a;intros;rename_i a hm hs
     exact z12c7_
    ·skip
     refine enterR Tryz.func46 rfl rfl rfl fun a hs hm=>?_
     refine gsc5af_ ?_;clear hs hm a;intros;rename_i a hm hs
     exact z12c7_
 ·by_cases h3:op=3
  ·skip
   refine enterR Tryz.func46 rfl rfl rfl fun a hs hm=>?_
   refine gsc5af_ ?_;clear hs hm a;intros;rename_i a hm hs
   exact z12c7_
  ·by_cases h4:op=4
   ·skip
    refine enterR Tryz.func46 rfl rfl rfl fun a hs hm=>?_
    refine gsc5af_ ?_;clear hs hm a;intros;rename_i a hm hs
    exact z12c7_
   ·by_cases h13:op=13
    ·skip
     refine enterR Tryz.func46 rfl rfl rfl fun a hs hm=>?_
     refine gsc5af_ ?_;clear hs hm a;intros;rename_i a hm hs
     exact z12c7_
    ·skip
     refine enterR Tryz.func46 rfl rfl rfl fun a hs hm=>?_
     refine gsc5af_ ?_;clear hs hm a;intros;rename_i a hm hs
     exact z12c7_
 ·by_cases h3:op=3
  ·exfalso;omega
  ·by_cases h4:op=4
   ·exfalso;omega
   ·by_cases h13:op=13
    ·skip
     refine enterR Tryz.func46 rfl rfl rfl fun a hs hm=>?_
     refine gsc5af_ ?_;clear hs hm a;intros;rename_i a hm hs
     exact z12c7_
    ·skip
     refine enterR Tryz.func46 rfl rfl rfl fun a hs hm=>?_
     refine gsc5af_ ?_;clear hs hm a;intros;rename_i a hm hs
     exact z12c7_
 ·by_cases h3:op=3
  ·skip
   refine enterR Tryz.func46 rfl rfl rfl fun a hs hm=>?_
   refine gsc5af_ ?_;clear hs hm a;intros;rename_i a hm hs
   exact z12c7_
  ·by_cases h4:op=4
   ·exfalso;omega
   ·by_cases h13:op=13
    ·exfalso;omega
    ·skip
     refine enterR Tryz.func46 rfl rfl rfl fun a hs hm=>?_
     refine gsc5af_ ?_;clear hs hm a;intros;rename_i a hm hs
     exact z12c7_
 ·by_cases h3:op=3
  ·skip
   refine enterR Tryz.func46 rfl rfl rfl fun a hs hm=>?_
   refine gsc5af_ ?_;clear hs hm a;intros;rename_i a hm hs
   exact z12c7_
  ·by_cases h4:op=4
   ·skip
    refine enterR Tryz.func46 rfl rfl rfl fun a hs hm=>?_
    refine gsc5af_ ?_;clear hs hm a;intros;rename_i a hm hs
    exact z12c7_
   ·by_cases h13:op=13
    ·skip
     refine enterR Tryz.func46 rfl rfl rfl fun a hs hm=>?_
     refine gsc5af_ ?_;clear hs hm a;intros;rename_i a hm hs
     exact z12c7_
    ·skip
     refine enterR Tryz.func46 rfl rfl rfl fun a hs hm=>?_
     refine gsc5af_ ?_;clear hs hm a;intros;rename_i a hm hs
     exact z12c7_
 ·by_cases h3:op=3
  ·skip
   refine enterR Tryz.func46 rfl rfl rfl fun a hs hm=>?_
   refine gsc5af_ ?_;clear hs hm a;intros;rename_i a hm hs
   exact z12c7_
  ·by_cases h4:op=4
   ·skip
    refine enterR Tryz.func46 rfl rfl rfl fun a hs hm=>?_
    refine gsc5af_ ?_;clear hs hm a;intros;rename_i a hm hs
    exact z12c7_
   ·by_cases h13:op=13
    ·skip
     refine enterR Tryz.func46 rfl rfl rfl fun a hs hm=>?_
     refine gsc5af_ ?_;clear hs hm a;intros;rename_i a hm hs
     exact z12c7_
    ·skip
     refine enterR Tryz.func46 rfl rfl rfl fun a hs hm=>?_
     refine gsc5af_ ?_;clear hs hm a;intros;rename_i a hm hs
     exact z12c7_
 ·by_cases h3:op=3
  ·skip
   refine enterR Tryz.func46 rfl rfl rfl fun a hs hm=>?_
   refine gsc5af_ ?_;clear hs hm a;intros;rename_i a hm hs
   exact z12c7_
  ·by_cases h4:op=4
   ·skip
    refine enterR Tryz.func46 rfl rfl rfl fun a hs hm=>?_
    refine gsc5af_ ?_;clear hs hm a;intros;rename_i a hm hs
    exact z12c7_
   ·by_cases h13:op=13
    ·skip
     refine enterR Tryz.func46 rfl rfl rfl fun a hs hm=>?_
     refine gsc5af_ ?_;clear hs hm a;intros;rename_i a hm hs
     exact z12c7_
    ·skip
     refine enterR Tryz.func46 rfl rfl rfl fun a hs hm=>?_
     refine gsc5af_ ?_;clear hs hm a;intros;rename_i a hm hs
     exact z12c7_
 ·by_cases h3:op=3
  ·skip
   refine enterR Tryz.func46 rfl rfl rfl fun a hs hm=>?_
   refine gsc5af_ ?_;clear hs hm a;intros;rename_i a hm hs
   exact z12c7_
  ·by_cases h4:op=4
   ·skip
    refine enterR Tryz.func46 rfl rfl rfl fun a hs hm=>?_
    refine gsc5af_ ?_;clear hs hm a;intros;rename_i a hm hs
    exact z12c7_
   ·by_cases h13:op=13
    ·skip
     refine enterR Tryz.func46 rfl rfl rfl fun a hs hm=>?_
     refine gsc5af_ ?_;clear hs hm a;intros;rename_i a hm hs
     exact z12c7_
    ·skip
     refine enterR Tryz.func46 rfl rfl rfl fun a hs hm=>?_
     refine gsc5af_ ?_;clear hs hm a;intros;rename_i w a hm hs
     exact z12c7_
theorem rdo_c(x:LS)(op t v s u:Int)(w:World)(hx:x.ok w)(ht:t=0∨t=1∨t=2)(hs':s=0∨s=1∨s=2)(hv:0≤v∧v≤65535)(hu:0≤u∧u≤65535):
  Ret Tryz.prog 46 [x.l,x.s,.int .i64 op,clV t v,clV s u] w (fun z w'=>z=dV (doF x op t v s u)∧Pu w w'):=by
 by_cases h1:op<3∨14<op
 ·rw[show doF x op t v s u=((0,0),1)from if_pos h1]
  exact rdo_out x op t v s u w h1
 by_cases h2:op=14
 ·subst h2
  exact rdo_eq x t v s u w
 have hop:3≤op∧op≤13:=by omega
 by_cases h00:t=0∧s=0
 ·obtain⟨rfl,rfl⟩:=h00
  rw[show doF x op 0 v 0 u=((0,(numF op v u).1),(numF op v u).2) by simp[doF,h1,h2]]
  exact rdo_nn x op v u w hop hv hu
 by_cases h10:t=1∧s=0∧op=3
 ·obtain⟨rfl,rfl,rfl⟩:=h10
  rw[show doF x 3 1 v 0 u=movF x 1 v u false by simp[doF]]
  exact rdo_pn x 3 v u false w hx (.inl ⟨rfl,rfl⟩) hv hu
 by_cases h10':t=1∧s=0∧op=4
 ·obtain⟨rfl,rfl,rfl⟩:=h10'
  rw[show doF x 4 1 v 0 u=movF x 1 v u true by simp[doF]]
  exact rdo_pn x 4 v u true w hx (.inr ⟨rfl,rfl⟩) hv hu
 by_cases h01:t=0∧s=1∧op=3
 ·obtain⟨rfl,rfl,rfl⟩:=h01
  rw[show doF x 3 0 v 1 u=movF x 1 u v false by simp[doF]]
  exact rdo_np x v u w hx hv hu
 by_cases h11:t=1∧s=1∧(op=4∨op=13)
 ·obtain⟨rfl,rfl,h11⟩:=h11
  rw[doF_apt h11]
  exact rdo_pp x op v u w hx h11 hv hu
 ·rw[show doF x op t v s u=((0,0),3) by
   unfold doF
   rw[if_neg h1,if_neg h2,if_neg h00,if_neg h10,if_neg h10',if_neg h01,if_neg (fun h=>h11 ⟨h.1,h.2.1,.inl h.2.2⟩),if_neg (fun h=>h11 ⟨h.1,h.2.1,.inr h.2.2⟩)]]
  exact rdo_tag x op t v s u w hop ht hs' h00 (by omega) h01 h11
theorem gcLay131_{G H:Prop}(k:H)(s:Bx H→G:=by intro k_;(repeat(first|(refine oq8d44_ ?_;(try clear hs a);intro a hs)|((with_reducible apply lCons);first|(refine dv hs gw_ rfl rfl da_ ?_;(try clear hs hm a);rintro _ w_ ⟨g_,rfl,-,hm⟩ a hs)|(refine stn hs rfl rfl ds_ ?_;(try clear hs hm a);rintro-w_ hm a hs))|((with_reducible apply qNil);(try clear hm);intro w_ hm)|refine cQ_ ?_|refine sc_ ?_|((with_reducible apply lCons);first|(refine dvc hs hm gw_ rfl rfl rfl rfl rfl (pl 71 rfl) (hrs _ hm.fr) ?_;(try clear hs hm a);intro w_ hm a hs))|((with_reducible apply qCons);first|(refine qwc hs gw_ rfl rfl rfl rfl rfl (pl 71 rfl) (fun w hm=>hrs _ hm.fr) ?_;(try clear hs a);intro a hs))));(first|(have m_:=hm;have s_:=hs;clear hs;(try clear hm);revert m_ s_ a)|((first|refine rexc_ hs hm ?_|refine rexl_ hs hm ?_|refine rexg_ hs hm ?_|refine rexq_ hs hm ?_);intro a hm hs;revert hm hs a));(try revert w_);(repeat revert g_);exact k_.h):G:=s ⟨k⟩
def wiF(x:LS)(t v n:Int):Int × Int:=
 if t=1 then match resF x.bs x.ss v x.n with
  |none=>(0,4)
  |some (r,o)=>if n<0∨x.ss.getD r 0-o<n then(0,4)else(v,0)
 else(0,3)
theorem rwi_c(x:LS)(t v k:Int)(w:World)(hx:x.ok w)(hv:0≤v∧v≤65535):
  Ret Tryz.prog 120 [x.l,x.s,clV t v,.int .i64 k] w (fun u w'=>u= .tuple #[.int .i64 (wiF x t v k).1,.int .i64 (wiF x t v k).2]∧Pu w w'):=by
 have hrs:=hx.rrsv hv
 have hwk:=wrapS hv
 unfold wiF
 by_cases ht:t=1
 ·rw[if_pos ht]
  cases hq:resF x.bs x.ss v x.n with
  |none=>
   rw[hq]at hrs
   unfold rsvV at hrs
   unfold LS.l LS.s clV at*
   refine enterR Tryz.func120 rfl rfl rfl fun a hs hm=>?_
   refine gcLay131_ ?_;clear hs hm a;intros;rename_i a hm hs
   exact z4ca6_
  |some p=>
   obtain⟨r,o⟩:=p
   obtain⟨f1,f2,f3,f4⟩:=hx.off hq
   rw[hq]at hrs
   unfold rsvV at hrs
   have hsl:=hx.sl
   have hlt:r<x.ss.length:=by omega
   obtain⟨b1,o1,hB,hb1,r1⟩:=hx.sr.ro (by rw[ints_len];omega)
   have e1:=ints_some (xs:=x.ss) (k:=r) hlt
   have hg1:=getI (l:=x.ss) (k:=r) hlt
   have hsk:=hx.s x.ss[r] (List.getElem_mem hlt)
   dsimp only
   rw[hg1]
   unfold LS.l LS.s clV at*
   rw[hB]at hrs ⊢
   generalize x.ss[r]'(_)=sk at*
   by_cases h1:k<0
   ·rw[if_pos (.inl h1)]
    refine enterR Tryz.func120 rfl rfl rfl fun a hs hm=>?_
    refine gcLay131_ ?_;clear hs hm a;intros;rename_i a hm hs
    exact z4ca6_
   ·by_cases h2:sk-o<k
    ·rw[if_pos (.inr h2)]
     refine enterR Tryz.func120 rfl rfl rfl fun a hs hm=>?_
     refine gcLay131_ ?_;clear hs hm a;intros;rename_i a hm hs
     exact z4ca6_
    ·rw[if_neg (by omega)]
     refine enterR Tryz.func120 rfl rfl rfl fun a hs hm=>?_
     refine gcLay131_ ?_;clear hs hm a;intros;rename_i a hm hs
     rw[hwk]at hs
     exact z4ca6_
 ·rw[if_neg ht]
  unfold LS.l LS.s clV at*
  refine enterR Tryz.func120 rfl rfl rfl fun a hs hm=>?_
  refine gcLay131_ ?_;clear hs hm a;intros;rename_i a hm hs
  exact z4ca6_
end Go.Proofs.YtbjffoojenpmfaaGreat
namespace Go.Proofs.YtbjffoojenpmfaaGreat
open Go.ChangeShapes Go.WideShapes Go.ChangeAt Go.RowKit
def IsInts(k:IntKind)(W:World)(A:Option Addr)(n c:Nat)(xs:List Int):Prop:=
 xs.length=n∧n≤c∧c≤9223372036854775807∧Rd W W.heap.size A (xs.map (Value.int k))∧∀x∈xs,(Lit.int k x).wf=true
section
variable {H:Type} {enc:TypeId × Value→H} {P:Program} {W:World} {base:Nat} {T E:TypeId} {v:Value} {d:DataW H} {p:List MemPlace}
theorem cell_lt{w:World}{a:Addr}{u:Value}(h:w.cell? a=some u):a.block<w.heap.size:=by
 rcases Nat.lt_or_ge a.block w.heap.size with hlt|hge
 ·exact hlt
 ·unfold World.cell? at h;rw[Array.getElem?_eq_none hge]at h;cases h
theorem opn_ints{k:IntKind}(hT:P.underlying T=some (.slice E))(hE:P.underlying E=some (.int k))(hc:P.cellsOf E=1)
  (hval:Value.okWide P W .any base T v) (h:DataW.Trod enc P W 0 (fun _=>true) true T v d p):∃A n c xs,v= .slice A n c∧IsInts k W A n c xs:=by
 obtain⟨A,n,c,rfl⟩:=okWide_slice hT hval
 obtain⟨fuel,hf⟩:=h
 rcases open_ints hT hE hc hf with⟨hcs,_⟩|⟨x,l,c',zs,hcs,_,hl,hm,hz,_,hcell,hwz⟩
 ·simp[Value.cells]at hcs
  obtain⟨rfl,rfl,rfl⟩:=hcs
  exact⟨none,0,0,[],rfl,rfl,Nat.le_refl _,by omega,Rd.nil,by simp⟩
 ·simp[Value.cells]at hcs
  obtain⟨rfl,rfl,rfl⟩:=hcs
  have hz':zs.length=c:=by simpa using hz
  refine⟨some x,n,c,zs.take n,rfl,by rw[List.length_take];omega,hl,hm,?_,fun y hy=>hwz y (List.mem_of_mem_take hy)⟩
  by_cases h0:0<zs.length
  ·refine Rd.of_add (cell_lt (hcell 0 h0)) fun j u hu=>?_
   rw[List.getElem?_map,List.getElem?_take]at hu
   split at hu
   ·cases hj:zs[j]? with
    |none=>rw[hj]at hu;simp at hu
    |some y=>
     rw[hj]at hu
     obtain⟨hlt,rfl⟩:=List.getElem?_eq_some_iff.1 hj
     have:=hcell j hlt
     simp at hu
     rw[←hu];simpa[List.getD,hlt]using this
   ·simp at hu
  ·have:zs=[]:=List.eq_nil_of_length_eq_zero (by omega)
   subst this
   rw[List.take_nil];exact Rd.nil
end
end Go.Proofs.YtbjffoojenpmfaaGreat
namespace Go.Proofs.YtbjffoojenpmfaaGreat
open Go.RowKit
theorem gcLay120_{G H:Prop}(k:H)(s:Bx H→G:=by intro k_;(repeat(first|(refine ov701a_ ?_;(try clear hs a);intro a hs)|((with_reducible apply lCons);first|(refine dv hs gw_ rfl rfl da_ ?_;(try clear hs hm a);rintro _ w_ ⟨g_,rfl,-,hm⟩ a hs)|(refine stn hs rfl rfl ds_ ?_;(try clear hs hm a);rintro-w_ hm a hs))|refine sc_ ?_|((with_reducible apply lCons);first|(refine dvc hs hm gw_ rfl rfl rfl rfl rfl (pl 71 rfl) (hrs _ hm.fr) ?_;(try clear hs hm a);intro w_ hm a hs))));(first|(have m_:=hm;have s_:=hs;clear hs;(try clear hm);revert m_ s_ a)|((first|refine rexc_ hs hm ?_|refine rexl_ hs hm ?_|refine rexg_ hs hm ?_|refine rexq_ hs hm ?_);intro a hm hs;revert hm hs a));(try revert w_);(repeat revert g_);exact k_.h):G:=s ⟨k⟩
def canF(x:LS)(t v:Int):Int × Int × Int × Int:=
 if t=0 then(0,v,0,0)else if t=2 then(2,IntKind.u16.wrap (v-x.key),0,0)else match resF x.bs x.ss v x.n with
  |some (r,o)=>(1,0,(r:Int),o)
  |none=>(1,0,-1,v)
theorem can_c(x:LS)(t v:Int)(w:World)(hx:x.ok w)(ht:t=0∨t=1∨t=2)(hv:t=1→0≤v∧v≤65535):
  Ret Tryz.prog 55 [x.l,x.s,clV t v] w (fun u w'=>u=cnV (canF x t v).1 (canF x t v).2.1 (canF x t v).2.2.1 (canF x t v).2.2.2∧Pu w w'):=by
 rcases ht with rfl|rfl|rfl
 ·unfold canF LS.l LS.s clV cnV
  rw[if_pos rfl]
  refine enterR Tryz.func55 rfl rfl rfl fun a hs hm=>?_
  refine gsc5af_ ?_;clear hs hm a;intros;rename_i a hm hs
  exact zb443_
 ·have hrs:=hx.rrsv (hv rfl)
  replace hv:=hv rfl
  have hwk:=wrapS hv
  unfold canF
  rw[if_neg (by omega),if_neg (by omega)]
  unfold LS.l LS.s clV cnV at*
  cases hq:resF x.bs x.ss v x.n with
  |none=>
   rw[hq]at hrs
   unfold rsvV at hrs
   refine enterR Tryz.func55 rfl rfl rfl fun a hs hm=>?_
   refine gcLay120_ ?_;clear hs hm a;intros;rename_i a hm hs
   rw[hwk]at hm
   exact zb443_
  |some p=>
   obtain⟨r,o⟩:=p
   rw[hq]at hrs
   unfold rsvV at hrs
   refine enterR Tryz.func55 rfl rfl rfl fun a hs hm=>?_
   refine gcLay120_ ?_;clear hs hm a;intros;rename_i a hm hs
   exact zb443_
 ·unfold canF LS.l LS.s clV cnV
  rw[if_neg (by omega),if_pos rfl]
  refine enterR Tryz.func55 rfl rfl rfl fun a hs hm=>?_
  refine gsc5af_ ?_;clear hs hm a;intros;rename_i w a hm hs
  exact zb443_
section
variable {x y:LS} {w w':World}
end
theorem gcSgm0_{G H:Prop}(k:H)(s:Bx H→G:=by intro k_;(repeat(first|(refine ovR_ ?_;(try clear hs a);intro a hs)|((with_reducible apply lCons);first|(refine dv hs gw_ rfl rfl da_ ?_;(try clear hs hm a);rintro _ w_ ⟨g_,rfl,-,hm⟩ a hs)|(refine stn hs rfl rfl ds_ ?_;(try clear hs hm a);rintro-w_ hm a hs))|refine sc_ ?_|((with_reducible apply lCons);first|(refine dvc hs hm gw_ rfl rfl rfl rfl rfl (pl 68 rfl) (hj _) ?_;(try clear hs hm a);intro w_ hm a hs))));(first|(have m_:=hm;have s_:=hs;clear hs;(try clear hm);revert m_ s_ a)|((first|refine rexc_ hs hm ?_|refine rexl_ hs hm ?_|refine rexg_ hs hm ?_|refine rexq_ hs hm ?_);intro a hm hs;revert hm hs a));(try revert w_);(repeat revert g_);exact k_.h):G:=s ⟨k⟩
structure PV.at(p:PV)(w:World)(N:Nat):Prop where
 c:Rd w N p.cA (p.code.flatMap inV)
 s:Rd w N p.sA (ints p.ss)
 d:Rd w N p.dA (p.ws.map WV.v)
 dd:∀r∈p.ws,Rd w N r.A (wds r.xs)
theorem PV.at.ok{p:PV}{w:World}{N:Nat}(h:p.at w N)(hN:N≤w.heap.size):p.ok w:=⟨h.c.more hN,h.s.more hN,h.d.more hN,fun r hr=>(h.dd r hr).more hN⟩
theorem PV.at.fr{p:PV}{S:Nat→Prop}{w w':World}{N:Nat}(h:p.at w N)(hf:Fr S w w')(hN:N≤w.heap.size)(hn:∀b,b<N→¬S b):p.at w' N:=⟨hf.rd h.c hN hn,hf.rd h.s hN hn,hf.rd h.d hN hn,fun r hr=>hf.rd (h.dd r hr) hN hn⟩
theorem PV.ok.at{p:PV}{w:World}(h:p.ok w):p.at w w.heap.size:=⟨h.c,h.s,h.d,h.dd⟩
def cvv(c:Int × Int):Prop:=(c.1=0∨c.1=1∨c.1=2)∧0≤c.2∧c.2≤65535
theorem u16_id{x:Int}(h:0≤x∧x≤65535):IntKind.u16.wrap x=x:=by simp[IntKind.wrap,IntKind.signed,IntKind.bits];omega
theorem movF_ok{x:LS}(hg:LGap x.bs x.ss)(t v k:Int)(back:Bool):cvv (movF x t v k back).1∧(0≤(movF x t v k back).2∧(movF x t v k back).2≤6)∧((movF x t v k back).2=0→∃ad:Nat,ad<512∧(movF x t v k back).1.2=(ad:Int)):=by
 have i4:(0:Int)≤4∧(4:Int)≤6:=by decide
 have i3:(0:Int)≤3∧(3:Int)≤6:=by decide
 have i0:(0:Int)≤0∧(0:Int)≤6:=by decide
 have z:cvv (0,0):=⟨.inl rfl,by decide,by decide⟩
 unfold movF
 split
 ·cases hr:resF x.bs x.ss v x.n with
  |none=>exact⟨z,i4,fun e=>absurd (show(4:Int)=0 from e) (by decide)⟩
  |some p=>
   obtain⟨r,o⟩:=p
   dsimp only
   generalize(if back=true then o+-k else o+k)=q
   by_cases hi:insF x.ss (r:Int) q=true
   ·rw[if_pos hi]
    rw[insF_t]at hi
    rw[Int.toNat_natCast]at hi
    have hb:=hg.b r (by have:=hg.len;omega)
    have h1:IntKind.u16.wrap (x.bs.getD r 0+q)=x.bs.getD r 0+q:=u16_id (by omega)
    rw[h1]
    refine⟨⟨.inr (.inl rfl),by dsimp only;omega,by dsimp only;omega⟩,i0,fun _=>⟨(x.bs.getD r 0+q).toNat,by omega,by dsimp only;omega⟩⟩
   ·rw[if_neg hi]
    exact⟨z,i4,fun e=>absurd e (by decide)⟩
 ·exact⟨z,i3,fun e=>absurd e (by decide)⟩
theorem numF_ok{op b c:Int}(hb:0≤b∧b≤65535)(hc:0≤c∧c≤65535):cvv (0,(numF op b c).1)∧0≤(numF op b c).2∧(numF op b c).2≤6:=by
 have i4:(0:Int)≤4∧(4:Int)≤6:=by decide
 have i3:(0:Int)≤3∧(3:Int)≤6:=by decide
 have i1:(0:Int)≤1∧(1:Int)≤6:=by decide
 have i5:(0:Int)≤5∧(5:Int)≤6:=by decide
 have i0:(0:Int)≤0∧(0:Int)≤6:=by decide
 have z:cvv (0,0):=⟨.inl rfl,by decide,by decide⟩
 have hw:∀v:Int,cvv (0,IntKind.u16.wrap v):=fun v=>⟨.inl rfl,by simp[IntKind.wrap,IntKind.signed,IntKind.bits];omega,by simp[IntKind.wrap,IntKind.signed,IntKind.bits];omega⟩
 unfold numF
 split;exact⟨hw _,i0⟩
 split;exact⟨hw _,i0⟩
 split;exact⟨hw _,i0⟩
 split
 ·split
  ·first|exact⟨z,i0⟩|exact⟨z,i5⟩|exact⟨z,i1⟩|exact⟨z,i4⟩|exact⟨z,i3⟩
  ·exact⟨hw _,i0⟩
 split
 ·split
  ·first|exact⟨z,i0⟩|exact⟨z,i5⟩|exact⟨z,i1⟩|exact⟨z,i4⟩|exact⟨z,i3⟩
  ·next h0=>
   have h1:=Int.emod_nonneg b h0
   have h2:=Int.emod_lt_of_pos b (show 0<c by omega)
   exact⟨⟨.inl rfl,h1,by dsimp only;omega⟩,i0⟩
 split;exact⟨hw _,i0⟩
 split;exact⟨hw _,i0⟩
 split;exact⟨hw _,i0⟩
 split;exact⟨hw _,i0⟩
 split
 ·have hp:(0:Int)<2 ^ (min (c%16).toNat IntKind.u16.bits):=Int.pow_pos (by decide)
  generalize(2:Int) ^ (min (c%16).toNat IntKind.u16.bits)=d at*
  rw[Int.fdiv_eq_ediv_of_nonneg _ (by omega)]
  have h1:=Int.ediv_nonneg hb.1 (show 0≤d by omega)
  have h2:=Int.ediv_le_self d hb.1
  exact⟨⟨.inl rfl,h1,by dsimp only;omega⟩,i0⟩
 ·refine⟨⟨.inl rfl,?_,?_⟩,i0⟩<;>dsimp only<;>split<;>omega
theorem doF_ok{x:LS}(hg:LGap x.bs x.ss){op t v s u:Int}(hv:0≤v∧v≤65535)(hu:0≤u∧u≤65535):cvv (doF x op t v s u).1∧0≤(doF x op t v s u).2∧(doF x op t v s u).2≤6:=by
 have i4:(0:Int)≤4∧(4:Int)≤6:=by decide
 have i3:(0:Int)≤3∧(3:Int)≤6:=by decide
 have i1:(0:Int)≤1∧(1:Int)≤6:=by decide
 have i5:(0:Int)≤5∧(5:Int)≤6:=by decide
 have i0:(0:Int)≤0∧(0:Int)≤6:=by decide
 have z:cvv (0,0):=⟨.inl rfl,by decide,by decide⟩
 have o:cvv (0,1):=⟨.inl rfl,by decide,by decide⟩
 have hw:∀v:Int,cvv (0,IntKind.u16.wrap v):=fun v=>⟨.inl rfl,by simp[IntKind.wrap,IntKind.signed,IntKind.bits];omega,by simp[IntKind.wrap,IntKind.signed,IntKind.bits];omega⟩
 unfold doF
 split;exact⟨z,i1⟩
 split
 ·split
  ·exact⟨o,i0⟩
  ·first|exact⟨z,i0⟩|exact⟨z,i5⟩|exact⟨z,i1⟩|exact⟨z,i4⟩|exact⟨z,i3⟩
 split
 ·have:=numF_ok (op:=op) hv hu
  exact⟨this.1,this.2⟩
 split;exact⟨(movF_ok hg 1 v u false).1,(movF_ok hg 1 v u false).2.1⟩
 split;exact⟨(movF_ok hg 1 v u true).1,(movF_ok hg 1 v u true).2.1⟩
 split;exact⟨(movF_ok hg 1 u v false).1,(movF_ok hg 1 u v false).2.1⟩
 split
 ·cases aptF x v u with
  |none=>first|exact⟨z,i0⟩|exact⟨z,i5⟩|exact⟨z,i1⟩|exact⟨z,i4⟩|exact⟨z,i3⟩
  |some p=>exact⟨hw _,i0⟩
 split
 ·cases aptF x v u with
  |none=>first|exact⟨z,i0⟩|exact⟨z,i5⟩|exact⟨z,i1⟩|exact⟨z,i4⟩|exact⟨z,i3⟩
  |some p=>
   dsimp only
   split
   ·exact⟨o,i0⟩
   ·first|exact⟨z,i0⟩|exact⟨z,i5⟩|exact⟨z,i1⟩|exact⟨z,i4⟩|exact⟨z,i3⟩
 ·first|exact⟨z,i0⟩|exact⟨z,i5⟩|exact⟨z,i1⟩|exact⟨z,i4⟩|exact⟨z,i3⟩
def branB(op:Int):Bool:=jumpB op||(decide (op=22)||decide (op=24))
theorem bran_c(op:Int)(wB:World):Ret Tryz.prog 47 [.int .i64 op] wB (fun u w'=>u= .bool (branB op)∧Pu wB w'):=by
 have hj:=fun w=>jump_c op w
 unfold branB
 generalize jumpB op=jb at*
 by_cases h1:op=22
 ·subst h1
  refine enterR Tryz.func47 rfl rfl rfl fun a hs hm=>?_
  cases jb
  ·refine gcSgm0_ ?_;clear hs hm a;intros;rename_i a hm hs
   exact gRet1 hs rfl rfl ⟨rfl,hm.fr⟩
  ·refine gcSgm0_ ?_;clear hs hm a;intros;rename_i a hm hs
   exact gRet1 hs rfl rfl ⟨rfl,hm.fr⟩
 ·rw[decide_eq_false h1]
  by_cases h2:op=24
  ·subst h2
   refine enterR Tryz.func47 rfl rfl rfl fun a hs hm=>?_
   cases jb
   ·refine gcSgm0_ ?_;clear hs hm a;intros;rename_i a hm hs
    exact gRet1 hs rfl rfl ⟨rfl,hm.fr⟩
   ·refine gcSgm0_ ?_;clear hs hm a;intros;rename_i a hm hs
    exact gRet1 hs rfl rfl ⟨rfl,hm.fr⟩
  ·rw[decide_eq_false h2]
   refine enterR Tryz.func47 rfl rfl rfl fun a hs hm=>?_
   cases jb
   ·refine gcSgm0_ ?_;clear hs hm a;intros;rename_i a hm hs
    exact gRet1 hs rfl rfl ⟨rfl,hm.fr⟩
   ·refine gcSgm0_ ?_;clear hs hm a;intros;rename_i a hm hs
    exact gRet1 hs rfl rfl ⟨rfl,hm.fr⟩
theorem trap_c(g k:Nat)(tcs:List Value)(why:Int)(wB:World)(hg:(⟨some g,52,tcs⟩:Hp).sat wB)(hk:k*8+8≤tcs.length):Ret Tryz.prog 42 [.pointer (some ⟨g,k*8,none⟩),.int .i64 why] wB (fun u w'=>u= .int .i64 2∧Mm (own [⟨some g,52,tcs⟩]) wB [⟨some g,52,((tcs.set (k*8+0) (.int .i64 4)).set (k*8+6) (.int .i64 why)).set (k*8+7) (.int .u16 0)⟩] w'):=by
 have l0:k*8+0<tcs.length:=by omega
 have l1:k*8+6<(tcs.set (k*8+0) (.int .i64 4)).length:=by rw[List.length_set];omega
 have l2:k*8+7<((tcs.set (k*8+0) (.int .i64 4)).set (k*8+6) (.int .i64 why)).length:=by rw[List.length_set,List.length_set];omega
 refine enterR Tryz.func42 rfl rfl rfl fun a hs hm=>?_
 clear hm
 have hm:Mm (own [⟨some g,52,tcs⟩]) wB [⟨some g,52,tcs⟩] wB:=⟨fun h hh=>by rcases List.mem_singleton.1 hh with rfl;exact hg,Fr.refl _ _,⟨fun x hx=>(by cases hx),trivial⟩,fun h hh q hq=> .inr ⟨h,hh,hq⟩⟩
 refine gsce98_ ?_;clear hs hm a;intros;rename_i a hm hs
 exact gRet1 hs rfl rfl ⟨rfl,hm⟩
end Go.Proofs.YtbjffoojenpmfaaGreat
