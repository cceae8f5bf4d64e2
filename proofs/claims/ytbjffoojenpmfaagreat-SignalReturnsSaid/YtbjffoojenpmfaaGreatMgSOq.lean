/- Texts put together: Shx, Shy, Sib, Sih, Sij, Sik, Sil. -/
import Derived.Test.YtbjffoojenpmfaaGreatMgSOp
set_option maxRecDepth 20000
set_option maxHeartbeats 64000000
set_option linter.unusedVariables false
set_option linter.unusedSimpArgs false
namespace Go.Proofs.YtbjffoojenpmfaaGreat
open Go.RowKit
theorem copied_c(r:RD)(eA:Option Addr)(ec n:Nat)(es:List Value)(jA:Option Addr)(jd:Nat)(js:List Int)(wB:World)(he:Rd wB wB.heap.size eA es)(hel:es.length=n*18)(h1:es.all (·.oneCell')=true)(hj:Rd wB wB.heap.size jA (ints js))(hjl:js.length=4)(hn:n≤1000):Ret Tryz.prog 90 [.agg #[.slice r.p.cA r.p.code.length r.p.cc,.slice r.p.sA r.p.ss.length r.p.sc,.slice r.p.dA r.p.ws.length r.p.dc,slv r.y.bA r.y.bs.length r.y.bc,.int .u16 r.y.key,slv r.y.m.cA r.y.m.xs.length r.y.m.cc,slv r.y.m.lA r.y.m.ls.length r.y.m.lc,slv r.y.tA r.y.ts.length r.y.tc,.slice r.o.ck.A r.o.ck.xs.length r.o.ck.c,.slice r.o.rn.A r.o.rn.xs.length r.o.rn.c,.slice r.o.ins.A r.o.ins.qs.length r.o.ins.c,.slice r.o.f.dA r.o.f.ds.length r.o.f.dc,.slice r.o.f.oA r.o.f.os.length r.o.f.oc,.slice r.o.us.A r.o.us.us.length r.o.us.c,.slice r.k.o.A r.k.o.n r.k.o.c,.slice r.k.qA r.k.qs.length r.k.qc,.slice eA n ec,.slice jA 4 jd]] wB (fun u w'=>∃(gj jc:Nat)(jv:List Value)(rA:Option Nat)(rc:Nat)(rcs:List Value),u= .agg #[.slice r.p.cA r.p.code.length r.p.cc,.slice r.p.sA r.p.ss.length r.p.sc,.slice r.p.dA r.p.ws.length r.p.dc,slv r.y.bA r.y.bs.length r.y.bc,.int .u16 r.y.key,slv r.y.m.cA r.y.m.xs.length r.y.m.cc,slv r.y.m.lA r.y.m.ls.length r.y.m.lc,slv r.y.tA r.y.ts.length r.y.tc,.slice r.o.ck.A r.o.ck.xs.length r.o.ck.c,.slice r.o.rn.A r.o.rn.xs.length r.o.rn.c,.slice r.o.ins.A r.o.ins.qs.length r.o.ins.c,.slice r.o.f.dA r.o.f.ds.length r.o.f.dc,.slice r.o.f.oA r.o.f.os.length r.o.f.oc,.slice r.o.us.A r.o.us.us.length r.o.us.c,.slice r.k.o.A r.k.o.n r.k.o.c,.slice r.k.qA r.k.qs.length r.k.qc,slv rA n rc,.slice (some ⟨gj,0,none⟩) 4 jc]∧Row (some gj) 4 jc 1 (ints js) jv∧Row rA n rc 18 es rcs∧New wB w' [⟨some gj,3,jv⟩,⟨rA,177,rcs⟩]∧Pu wB w'):=by
 refine enterR Tryz.func90 rfl rfl rfl fun a hs hm=>?_
 refine gsc5af_ ?_;clear hs hm a;intros;rename_i a hm hs
 replace hm:=hm.zero 3
 refine dv hs (Wnt.none rfl) rfl rfl (d_appendS (A:=none) (n:=0) (c:=0) (m:=4) (xs:=[]) (news:=ints js) hs rfl rfl rfl rfl tab rfl rfl rfl rfl rfl hm mem_ (Row.empty 1) (by rw[ints_len,hjl];rfl) (hm.fr.rd' hj) (ints_one _) (by decide) (by decide)) ?_
 clear hs
 rintro _ w4 ⟨A2,c2,cs2,rfl,hr2,hM⟩ a hs
 replace hm:=hM _ rep_
 clear hM
 rw[Nat.zero_add,List.nil_append]at hr2
 rw[Nat.zero_add]at hs
 obtain⟨gj,rfl⟩:=hr2.some_ (by omega)
 refine gsc5af_ ?_;clear hs hm a;intros;rename_i a hm hs
 replace hm:=hm.zero 177
 refine dv hs (Wnt.none rfl) rfl rfl (d_appendS (A:=none) (n:=0) (c:=0) (m:=n) (xs:=[]) (news:=es) hs rfl rfl rfl rfl tab rfl rfl rfl rfl rfl hm mem_ (Row.empty 18) hel (hm.fr.rd' he) h1 (by show(0+n)*184≤_;omega) (by omega)) ?_
 clear hs
 rintro _ w4 ⟨rA,rc,rcs,rfl,hr3,hM⟩ a hs
 replace hm:=hM _ rep_
 clear hM
 rw[Nat.zero_add,List.nil_append]at hr3
 rw[Nat.zero_add]at hs
 refine gsc5af_ ?_;clear hs hm a;intros;rename_i a hm hs
 obtain⟨g2,rfl⟩:=hs.pp 2
 exact gRetN tab hs rfl (.cons (.cells rfl rfl rfl rfl (hm.ro (k:=0) (n:=18) (g:=g2) mem_ (cutF_ok rfl))) .nil) ⟨gj,c2,cs2,rA,rc,rcs,rfl,hr2,hr3,(hm.perm (List.Perm.swap _ _ _)).new sub_,hm.fr⟩
theorem delT_val [HB]{q:ThD}{B:Int}(h:q.val B)(hc:canT q=true):(delT q).val B:=by
 unfold canT at hc
 simp only[Bool.and_eq_true,decide_eq_true_eq,Bool.not_eq_true',decide_eq_false_iff_not]at hc
 have h1:=h.han
 have h3:=HB.le
 have h2:=h.pc
 exact⟨h.st,h.n,by unfold delT;dsimp only;omega,h.cnt,h.han,by unfold delT;dsimp only;omega,h.trp,h.cod,h.cv⟩
theorem delF_val [HB]{d:MD}{ss:List Int}{B:Int}(t:Int)(h:d.val ss B):(delF d t).val ss B:=by
 unfold delF
 by_cases hc:canS d t=true
 ·rw[if_pos hc]
  cases hq:d.ts[t.toNat]? with
  |none=>exact h
  |some q=>
   have hcq:canT q=true:=by
    unfold canS at hc
    rw[hq]at hc
    simp only[Bool.and_eq_true]at hc
    exact hc.2
   refine⟨h.gap,h.key,h.n,h.l,by dsimp only;rw[List.length_set];exact h.t,h.cv,h.ll,fun y hy=>?_⟩
   dsimp only at hy
   rcases List.mem_or_eq_of_mem_set hy with hy|rfl
   ·exact h.tt y hy
   ·exact delT_val (h.tt q (List.mem_of_getElem? hq)) hcq
 ·rw[if_neg hc];exact h
theorem gpSib0_{G H:Prop}(k:H)(s:Bx H→G:=by intro k_;(repeat(first|(refine ovR_ ?_;(try clear hs a);intro a hs)|((with_reducible apply lCons);first|(refine dv hs gw_ rfl rfl da_ ?_;(try clear hs hm a);rintro _ w_ ⟨g_,rfl,-,hm⟩ a hs)|(refine stn hs rfl rfl ds_ ?_;(try clear hs hm a);rintro-w_ hm a hs))|refine sc_ ?_));have m_:=hm;have s_:=hs;clear hs;(try clear hm);revert m_ s_ a;(try revert w_);(repeat revert g_);exact k_.h):G:=s ⟨k⟩
theorem gcSib1_{G H:Prop}(k:H)(s:Bx H→G:=by intro k_;(repeat(first|(refine ovR_ ?_;(try clear hs a);intro a hs)|((with_reducible apply lCons);first|(refine dv hs gw_ rfl rfl da_ ?_;(try clear hs hm a);rintro _ w_ ⟨g_,rfl,-,hm⟩ a hs)|(refine stn hs rfl rfl ds_ ?_;(try clear hs hm a);rintro-w_ hm a hs))|refine sc_ ?_|((with_reducible apply lCons);first|(refine dvc hs hm gw_ rfl rfl rfl rfl rfl (pl 14 rfl) (kc2 _ _ (hmB.trans hm)) ?_;(try clear hs hm a);intro w_ hm a hs))));(first|(have m_:=hm;have s_:=hs;clear hs;(try clear hm);revert m_ s_ a)|((first|refine rexc_ hs hm ?_|refine rexl_ hs hm ?_|refine rexg_ hs hm ?_|refine rexq_ hs hm ?_);intro a hm hs;revert hm hs a));(try revert w_);(repeat revert g_);exact k_.h):G:=s ⟨k⟩
theorem rdyS_c [HB](y:MO)(ss:List Int)(B:Int)(w:World)(hx:y.mv.ok w)(hv:y.d.val ss B):Ret Tryz.prog 89 [slv y.tA y.ts.length y.tc] w (fun u w'=>∃(D:Option Addr)(d:Nat)(js:List Int),u= .slice D js.length d∧Rd w' w'.heap.size D (ints js)∧(∀b o,D=some ⟨b,o,none⟩→w.heap.size≤b)∧js.length≤4∧(∀j∈js,∃(k:Nat)(q:ThD),k<4∧j=(k:Int)∧y.d.ts[k]?=some q∧q.st=1)∧Pu w w'):=by
 have h4:y.ts.length=4:=by have:=hv.t;rwa[MO.d_len]at this
 have h:=trdy_c (ad y.tA) y.tc (y.ts.map ThO.tv) w hx.t (by rw[List.length_map];omega)
 rw[show slv y.tA y.ts.length y.tc= .slice (ad y.tA) (y.ts.map ThO.tv).length y.tc by rw[List.length_map];rfl]
 refine h.mono fun u w' ⟨D,d,js,h1,h2,h3,h5,h6,h7⟩=>⟨D,d,js,h1,h2,h3,by rw[List.length_map]at h5;omega,fun j hj=>?_,h7⟩
 obtain⟨k,hk,hjk,hst⟩:=h6 j hj
 rw[List.length_map]at hk
 rw[List.getElem_map]at hst
 exact⟨k,(y.ts[k]).d,by omega,hjk,MO.d_ts y hk,hst⟩
theorem RS.out [HB]{z:RS}{w0 wB w:World}{B:Int}{S:Nat→Prop}{gr gj jc:Nat}{X:List Hp}(h:z.inv w0 B gr gj jc X w)(hm:Mm S wB (z.M gr gj jc X) w)(hl:z.js.length=4):RV.inv ⟨z.r,ad z.rA,z.rc,z.n,z.es,some ⟨gj,0,none⟩,jc,z.js⟩ w0 B X w:=by
 unfold RS.M at hm
 have h1:Mm S wB (X++[⟨z.rA,177,z.rcs⟩]) w:=(hm.sub (M':=[⟨z.rA,177,z.rcs⟩]++X) (List.Sublist.cons _ (List.Sublist.cons _ (List.Sublist.refl _)))).perm List.perm_append_comm
 have h2:Mm S wB (X++[⟨some gj,3,z.jv⟩]) w:=(hm.sub (M':=[⟨some gj,3,z.jv⟩]++X) (List.Sublist.cons _ (List.Sublist.cons_cons _ (List.Sublist.cons _ (List.Sublist.refl _))))).perm List.perm_append_comm
 exact⟨h.i.sub (List.Sublist.cons _ (List.Sublist.cons _ (List.Sublist.cons _ (List.Sublist.refl _)))),St.of_on h1 (zrow_on h.row),h.row.xl,h.one,St.of_on h2 (zrow_on h.j),hl⟩
theorem next_c [HB](w0:World)(B:Int)(z:RV)(X:List Hp)(th br:Int)(sg:Bool)(wB:World)(hM:Mm (own X) wB X wB)(hZ:z.inv w0 B X wB)(hB:B≤900000000):Ret Tryz.prog 52 [z.v,.agg #[.int .i64 th,.int .i64 br,.bool sg]] wB (fun u w'=>∃(f:Nat→Option Addr × Nat × Nat)(k e:Int),u= .tuple #[.agg (runV f k).toArray,.int .i64 e]∧Mm (own X) wB X w'∧(e=0→∃y:RV,y.cs=runV f k∧y.inv w0 (B+20000) X w'∧y.r.p=z.r.p)):=by
 obtain⟨r,eA,ec,n,es,jA,jd,js⟩:=z
 obtain⟨hI,he,hel,h1c,hj,hjl⟩:=hZ
 dsimp only at hI he hel h1c hj hjl ⊢
 unfold RV.v RV.cs RD.cs
 dsimp only
 have hss:=hI.pv.sz
 have hsm:=hI.yv.sm hss
 have h4:r.y.ts.length=4:=hI.gt.1
 have kr:∀(w:World)(M':List Hp),Mm (own X) wB M' w→Ret Tryz.prog 89 [slv r.y.tA r.y.ts.length r.y.tc] w (fun u w'=>∃(D:Option Addr)(d:Nat)(js:List Int),u= .slice D js.length d∧Rd w' w'.heap.size D (ints js)∧(∀b o,D=some ⟨b,o,none⟩→w.heap.size≤b)∧js.length≤4∧(∀j∈js,∃(k:Nat)(q:ThD),k<4∧j=(k:Int)∧r.y.d.ts[k]?=some q∧q.st=1)∧Pu w w'):=fun w M' hm=>rdyS_c r.y r.p.ss B w (MO.of_new (hI.y.at_ hm) hI.yo) hI.yv
 have kcp:∀(w:World)(M':List Hp),Mm (own X) wB M' w→n≤1000→_:=fun w M' hm hn=>copied_c r eA ec n es jA jd js w (he.at_ hm) hel h1c (hj.at_ hm) hjl hn
 have kcn:∀(w:World)(M':List Hp)(t:Int),Mm (own X) wB M' w→Ret Tryz.prog 14 [r.y.v,.int .i64 t] w (fun u w'=>u= .bool (canS r.y.d t)∧Pu w w'):=fun w M' t hm=>by
  have h:=rcan_c r.y.mv t w (MO.of_new (hI.y.at_ hm) hI.yo) (by rw[MO.mv_d];exact hsm)
  rwa[MO.mv_v,MO.mv_d]at h
 have kdl:∀(w:World)(M':List Hp)(t:Int),Mm (own X) wB M' w→Ret Tryz.prog 12 [r.y.v,.int .i64 t] w (fun u w'=>∃y:MO,u= .tuple #[y.v,.bool (canS r.y.d t)]∧y.ok∧y.d=delF r.y.d t∧New w w' y.hps∧Pu w w'):=fun w M' t hm=>by
  have h:=rdel_c r.y.mv t w (MO.of_new (hI.y.at_ hm) hI.yo) (by rw[MO.mv_d];exact hsm)
  rwa[MO.mv_v,MO.mv_d]at h
 have ktk:∀(y:MO)(t:Nat)(nb:Int)(q0:ThD)(w:World)(M':List Hp),Mm (own X) wB M' w→y.mv.ok w→y.ok→y.d.val r.p.ss B→t<4→(1≤nb∧nb≤64)→y.d.ts[t]?=some q0→q0.st=1→Ret Tryz.prog 91 [r.p.v,y.v,.int .i64 (t:Int),.int .i64 nb] w (fun u w'=>∃(z:MO)(q:RqV)(R:List Hp),u= .tuple #[z.v,q.v,.int .i64 0]∧z.ok∧z.d.val r.p.ss (B+20000)∧(∀(S:Nat→Prop)(w0 w:World)(M:List Hp),Mm S w0 M w→(∀h∈R,h∈M)→q.ok w)∧q.val∧(q.stop=1→q.kin)∧q.th=(t:Int)∧(∀b o n,q.a.A=some ⟨b,o,n⟩∨q.d.A=some ⟨b,o,n⟩→own R b)∧New w w' (R++z.hps)∧Pu w w'):=fun y t nb q0 w M' hm hok yo yv ht hn hq hst=>by
  have hyb:=yo.b.le
  have h:=take_c r.p y.mv B t nb q0 w (hI.p.at_ hm) hI.pv hok (by rw[MO.mv_d];exact yv) hyb (by omega) ht hn (by rw[MO.mv_d];exact hq) hst
  rwa[MO.mv_v]at h
 unfold MO.v at kcn kdl ktk
 unfold PV.v RqV.v at ktk
 refine enterR Tryz.func52 rfl rfl rfl fun a hs hm=>?_
 clear hm
 have hm:=hM
 refine gsce98_ ?_;clear hs hm a;intros;rename_i a hm hs
 refine st hs rfl rfl rfl (d_call hs rfl rfl rfl (pl 89 rfl) ((kr _ _ hm))) ?_;clear hs a;rintro _ w1 ⟨D,d,ts,rfl,hts,htf,ht4,htk,hf⟩ a hs
 have hnD:∀b o,D=some ⟨b,o,none⟩→∀M',(∀g,own M' g→g<w1.heap.size∧False)→¬own M' b:=fun b o e M' h hg=>(h b hg).2
 clear hnD
 have hlt:=fun g (h:own _ g)=>hm.own_lt h
 have hmB:=hm.pu hf
 obtain⟨g2,rfl⟩:=hs.pp 2
 obtain⟨g3,rfl⟩:=hs.pp 3
 obtain⟨g4,rfl⟩:=hs.pp 4
 by_cases h0:ts.length=0
 ·replace hm:=hmB
  rw[h0]at hs
  refine gsce98_ ?_;clear hs hm a;intros;rename_i a hm hs
  exact gRetN tab hs rfl (.cons (.cells rfl rfl rfl rfl (hm.ro (k:=0) (n:=18) (g:=g4) mem_ (cutF_ok rfl))) (.cons (.tmp rfl) .nil)) ⟨nof,0,_,rfl,hm.sub sub_,fun h=>by cases h⟩
 obtain⟨bD,oD,hD,hbD,rD⟩:=hts.ro (by rw[ints_len];omega)
 have hng:=fun(h:own _ bD)=>Nat.lt_irrefl _ (Nat.lt_of_lt_of_le (hlt bD h) (htf bD oD hD))
 clear hf htf
 obtain⟨M1,hM1⟩:∃M1,⟨some g4,87,[nS,nS,nS,nS,.int .u16 0,nS,nS,nS,nS,nS,nS,nS,nS,nS,nS,nS,nS,nS]⟩::⟨some g3,124,[.int .i64 th,.int .i64 br,.bool sg]⟩::⟨some g2,87,(r.p.cl (r.y.cl (slv r.y.tA r.y.ts.length r.y.tc::r.o.cl (r.o.f.cl [.slice r.o.us.A r.o.us.us.length r.o.us.c,.slice r.k.o.A r.k.o.n r.k.o.c,.slice r.k.qA r.k.qs.length r.k.qc,.slice eA n ec,.slice jA 4 jd]))))⟩::X=M1:=⟨_,rfl⟩
 have hm0:Mm (own M1) w1 (⟨some g4,87,[nS,nS,nS,nS,.int .u16 0,nS,nS,nS,nS,nS,nS,nS,nS,nS,nS,nS,nS,nS]⟩::⟨some g3,124,[.int .i64 th,.int .i64 br,.bool sg]⟩::⟨some g2,87,(r.p.cl (r.y.cl (slv r.y.tA r.y.ts.length r.y.tc::r.o.cl (r.o.f.cl [.slice r.o.us.A r.o.us.us.length r.o.us.c,.slice r.k.o.A r.k.o.n r.k.o.c,.slice r.k.qA r.k.qs.length r.k.qc,.slice eA n ec,.slice jA 4 jd]))))⟩::X) w1:=by rw[←hM1];exact hmB.rebase
 replace hmB:Mm (own X) wB M1 w1:=by rw[←hM1];exact hmB
 replace hng:¬own M1 bD:=by rw[←hM1];exact hng
 clear hm hlt
 have hm:=hm0
 clear hm0
 by_cases h192:(n:Int)>192
 ·refine gsce98_ ?_;clear hs hm a;intros;rename_i a hm hs
  obtain⟨g4,rfl⟩:=hs.pp 4
  exact gRetN tab hs rfl (.cons (.cells rfl rfl rfl rfl (hm.ro (k:=0) (n:=18) (g:=g4) mem_ (cutF_ok rfl))) (.cons (.tmp rfl) .nil)) ⟨nof,0,_,rfl,(hmB.trans hm).sub sub_,fun h=>by cases h⟩
 have hmd:=modF_bd th (m:=(ts.length:Int)) (by omega)
 obtain⟨i,hi⟩:∃i:Nat,modF th (ts.length:Int)=(i:Int):=⟨(modF th (ts.length:Int)).toNat,by omega⟩
 have hil:i<ts.length:=by omega
 have e1:=ints_some (xs:=ts) (k:=i) hil
 obtain⟨t,q0,ht,htt,hq0,hst⟩:=htk ts[i] (List.getElem_mem hil)
 rw[htt]at e1
 have hme:=modF_bd br (m:=64) (by omega)
 obtain⟨nb,hnb⟩:∃nb:Nat,1+modF br 64=(nb:Int):=⟨(1+modF br 64).toNat,by omega⟩
 have hnb2:(1:Int)≤(nb:Int)∧(nb:Int)≤64:=by omega
 have km1:=fun w=>rmod_c th (ts.length:Int) w (by omega) (by omega)
 have km2:=fun w=>rmod_c br 64 w (by omega) (by omega)
 rw[hi]at km1
 generalize modF br 64=br' at hnb km2
 rw[hD]at hs
 repeat(first|(refine gpSib0_ ?_;clear hs hm a;intros;rename_i a hm hs)|refine sc_ ?_|((with_reducible apply lCons);first|(refine dvc hs hm gw_ rfl rfl rfl rfl rfl (pl 22 rfl) (km1 _) ?_;clear hs hm a;intro w hm a hs)|(refine dvc hs hm gw_ rfl rfl rfl rfl rfl (pl 22 rfl) (km2 _) ?_;clear hs hm a;intro w hm a hs)))
 refine st hs rfl rfl rfl (d_call hs rfl rfl rfl (pl 90 rfl) ((kcp _ _ (hmB.trans hm) (by omega)))) ?_;clear hs a;rintro _ w3 ⟨gj,jc,jv,rA,rc,rcs,rfl,hjr,hrr,hN,hf⟩ a hs
 replace hm:=hm.gain hf hN
 clear hN hf
 simp only[List.cons_append,List.nil_append]at hm
 refine gs730d_ ?_;clear hs hm a;intros;rename_i a hm hs
 obtain⟨g9,rfl⟩:=hs.pp 9
 with_reducible apply lNilThen
 with_reducible apply wp_seq
 have hI1:RnI w0 B _ r _:=hI.step (hmB.trans hm)
 refine cMid (fun a w=>∃(y:MO)(q1:ThD)(rA:Option Nat)(m rc:Nat)(es rcs:List Value),y.ok∧y.d.val r.p.ss B∧y.d.ts[t]?=some q1∧q1.st=1∧Row rA m rc 18 es rcs∧es.all (·.oneCell')=true∧m≤n+1∧RnI w0 B (⟨some g9,87,(r.p.cl (y.cl (slv y.tA y.ts.length y.tc::r.o.cl (r.o.f.cl [.slice r.o.us.A r.o.us.us.length r.o.us.c,.slice r.k.o.A r.k.o.n r.k.o.c,.slice r.k.qA r.k.qs.length r.k.qc,slv rA m rc,.slice (some ⟨gj,0,none⟩) 4 jc]))))⟩::⟨some gj,3,jv⟩::⟨rA,177,rcs⟩::⟨some g4,87,[nS,nS,nS,nS,.int .u16 0,nS,nS,nS,nS,nS,nS,nS,nS,nS,nS,nS,nS,nS]⟩::⟨some g3,124,[.int .i64 th,.int .i64 br,.bool sg]⟩::⟨some g2,87,(r.p.cl (r.y.cl (slv r.y.tA r.y.ts.length r.y.tc::r.o.cl (r.o.f.cl [.slice r.o.us.A r.o.us.us.length r.o.us.c,.slice r.k.o.A r.k.o.n r.k.o.c,.slice r.k.qA r.k.qs.length r.k.qc,.slice eA n ec,.slice jA 4 jd]))))⟩::X) {r with y:=y} w∧Sl Tryz.f52.ntmps [(4,pt g4),(7,.int .i64 (t:Int)),(8,.int .i64 (nb:Int)),(9,pt g9)] a∧Mm (own M1) w1 (⟨some g9,87,(r.p.cl (y.cl (slv y.tA y.ts.length y.tc::r.o.cl (r.o.f.cl [.slice r.o.us.A r.o.us.us.length r.o.us.c,.slice r.k.o.A r.k.o.n r.k.o.c,.slice r.k.qA r.k.qs.length r.k.qc,slv rA m rc,.slice (some ⟨gj,0,none⟩) 4 jc]))))⟩::⟨some gj,3,jv⟩::⟨rA,177,rcs⟩::⟨some g4,87,[nS,nS,nS,nS,.int .u16 0,nS,nS,nS,nS,nS,nS,nS,nS,nS,nS,nS,nS,nS]⟩::⟨some g3,124,[.int .i64 th,.int .i64 br,.bool sg]⟩::⟨some g2,87,(r.p.cl (r.y.cl (slv r.y.tA r.y.ts.length r.y.tc::r.o.cl (r.o.f.cl [.slice r.o.us.A r.o.us.us.length r.o.us.c,.slice r.k.o.A r.k.o.n r.k.o.c,.slice r.k.qA r.k.qs.length r.k.qc,.slice eA n ec,.slice jA 4 jd]))))⟩::X) w) ?_ ?_
 ·cases sg
  ·refine gsce98_ ?_;clear hs hm a;intros;rename_i a hm hs
   exact And.intro rfl ⟨r.y,q0,rA,n,rc,es,rcs,hI.yo,hI.yv,hq0,hst,hrr,h1c,by omega,hI.step (hmB.trans hm),(sb_ hs),hm⟩
  ·cases hc:canS r.y.d (t:Int)
   ·rw[show(Value.bool false)= .bool false from rfl]at*
    have kc2:∀(w:World)(M':List Hp),Mm (own X) wB M' w→_:=fun w M' hm=>kcn w M' (t:Int) hm
    rw[hc]at kc2
    refine gcSib1_ ?_;clear hs hm a;intros;rename_i a hm hs
    exact And.intro rfl ⟨r.y,q0,rA,n,rc,es,rcs,hI.yo,hI.yv,hq0,hst,hrr,h1c,by omega,hI.step (hmB.trans hm),(sb_ hs),hm⟩
   ·have kc2:∀(w:World)(M':List Hp),Mm (own X) wB M' w→_:=fun w M' hm=>kcn w M' (t:Int) hm
    rw[hc]at kc2
    refine gcSib1_ ?_;clear hs hm a;intros;rename_i a hm hs
    refine st hs rfl rfl rfl (d_call hs rfl rfl rfl (pl 12 rfl) ((kdl _ _ _ (hmB.trans hm)))) ?_;clear hs a;rintro _ w4 ⟨y,rfl,yo,yd,hN,hf⟩ a hs
    have yv:y.d.val r.p.ss B:=by rw[yd];exact delF_val _ hI.yv
    have hI2:=(hI.step (hmB.trans hm)).set_y hm hf (.inr hN) yo yv
    have hmC:=hm.pu hf
    clear hm hN hf
    obtain⟨M2,hM2⟩:∃M2,⟨some g9,87,(r.p.cl (r.y.cl (slv r.y.tA r.y.ts.length r.y.tc::r.o.cl (r.o.f.cl [.slice r.o.us.A r.o.us.us.length r.o.us.c,.slice r.k.o.A r.k.o.n r.k.o.c,.slice r.k.qA r.k.qs.length r.k.qc,slv rA n rc,.slice (some ⟨gj,0,none⟩) 4 jc]))))⟩::⟨some gj,3,jv⟩::⟨rA,177,rcs⟩::⟨some g4,87,[nS,nS,nS,nS,.int .u16 0,nS,nS,nS,nS,nS,nS,nS,nS,nS,nS,nS,nS,nS]⟩::⟨some g3,124,[.int .i64 th,.int .i64 br,.bool true]⟩::⟨some g2,87,(r.p.cl (r.y.cl (slv r.y.tA r.y.ts.length r.y.tc::r.o.cl (r.o.f.cl [.slice r.o.us.A r.o.us.us.length r.o.us.c,.slice r.k.o.A r.k.o.n r.k.o.c,.slice r.k.qA r.k.qs.length r.k.qc,.slice eA n ec,.slice jA 4 jd]))))⟩::X=M2:=⟨_,rfl⟩
    have hm:Mm (own M2) w4 (⟨some g9,87,(r.p.cl (r.y.cl (slv r.y.tA r.y.ts.length r.y.tc::r.o.cl (r.o.f.cl [.slice r.o.us.A r.o.us.us.length r.o.us.c,.slice r.k.o.A r.k.o.n r.k.o.c,.slice r.k.qA r.k.qs.length r.k.qc,slv rA n rc,.slice (some ⟨gj,0,none⟩) 4 jc]))))⟩::⟨some gj,3,jv⟩::⟨rA,177,rcs⟩::⟨some g4,87,[nS,nS,nS,nS,.int .u16 0,nS,nS,nS,nS,nS,nS,nS,nS,nS,nS,nS,nS,nS]⟩::⟨some g3,124,[.int .i64 th,.int .i64 br,.bool true]⟩::⟨some g2,87,(r.p.cl (r.y.cl (slv r.y.tA r.y.ts.length r.y.tc::r.o.cl (r.o.f.cl [.slice r.o.us.A r.o.us.us.length r.o.us.c,.slice r.k.o.A r.k.o.n r.k.o.c,.slice r.k.qA r.k.qs.length r.k.qc,.slice eA n ec,.slice jA 4 jd]))))⟩::X) w4:=by rw[←hM2];exact hmC.rebase
    have hI3:RnI w0 B M2 {r with y:=y} w4:=by rw[←hM2];exact hI2
    have hmD:Mm (own M1) w1 M2 w4:=by rw[←hM2];exact hmC
    clear hI2 hmC
    refine gsce98_ ?_;clear hs hm a;intros;rename_i a hm hs
    refine dv hs (Wnt.none rfl) rfl rfl (d_append (A:=rA) (n:=n) (c:=rc) (news:=[.int .i64 3,.int .i64 (t:Int),.int .i64 0,.int .i64 0,.int .i64 0,.int .i64 0,.int .i64 0,.int .i64 0,.int .i64 0,nS,nS,.int .u8 0,.int .u16 0,.int .i64 0,.int .i64 0,nS,.int .i64 0,.bool false]) hs rfl rfl rfl rfl rfl tab rfl rfl rfl rfl rfl hm mem_ hrr rfl (hm.ro (n:=18) mem_ (cutF_ok rfl)) rfl (by show(n+1)*184≤_;omega) (by omega)) ?_
    clear hs
    rintro _ w5 ⟨rA2,rc2,rcs2,rfl,hr2,hM'⟩ a hs
    replace hm:=hM' _ rep_
    clear hM'
    refine gsce98_ ?_;clear hs hm a;intros;rename_i a hm hs
    have hm3:=hm.sub (M':=(⟨some g9,87,(r.p.cl (y.cl (slv y.tA y.ts.length y.tc::r.o.cl (r.o.f.cl [.slice r.o.us.A r.o.us.us.length r.o.us.c,.slice r.k.o.A r.k.o.n r.k.o.c,.slice r.k.qA r.k.qs.length r.k.qc,slv rA2 (n+1) rc2,.slice (some ⟨gj,0,none⟩) 4 jc]))))⟩::⟨some gj,3,jv⟩::⟨rA2,177,rcs2⟩::⟨some g4,87,[nS,nS,nS,nS,.int .u16 0,nS,nS,nS,nS,nS,nS,nS,nS,nS,nS,nS,nS,nS]⟩::⟨some g3,124,[.int .i64 th,.int .i64 br,.bool true]⟩::⟨some g2,87,(r.p.cl (r.y.cl (slv r.y.tA r.y.ts.length r.y.tc::r.o.cl (r.o.f.cl [.slice r.o.us.A r.o.us.us.length r.o.us.c,.slice r.k.o.A r.k.o.n r.k.o.c,.slice r.k.qA r.k.qs.length r.k.qc,.slice eA n ec,.slice jA 4 jd]))))⟩::X)) sub_
    have hqd:y.d.ts[t]?=some (delT q0):=by
     rw[yd]
     unfold delF
     rw[if_pos hc,Int.toNat_natCast,hq0]
     dsimp only
     rw[List.getElem?_set_self (by
      rcases Nat.lt_or_ge t r.y.d.ts.length with h|h
      ·exact h
      ·rw[List.getElem?_eq_none h]at hq0;cases hq0)]
    exact And.intro rfl ⟨y,delT q0,rA2,n+1,rc2,es++[.int .i64 3,.int .i64 (t:Int),.int .i64 0,.int .i64 0,.int .i64 0,.int .i64 0,.int .i64 0,.int .i64 0,.int .i64 0,nS,nS,.int .u8 0,.int .u16 0,.int .i64 0,.int .i64 0,nS,.int .i64 0,.bool false],rcs2,yo,yv,hqd,hst,hr2,by rw[List.all_append,h1c];rfl,by omega,hI3.step hm3,(sb_ hs),hmD.trans hm3⟩
 clear hs hm hI1 hrr rA rc rcs kcn kdl kcp a
 rintro a w ⟨y,q1,rA,m,rc,es',rcs,yo,yv,hq1,hq1s,hrr,h1e,hmn,hI1,hs,hm⟩
 refine gsce98_ ?_;clear hs hm a;intros;rename_i a hm hs
 refine st hs rfl rfl rfl (d_call hs rfl rfl rfl (pl 91 rfl) ((ktk y t nb q1 _ _ (hmB.trans hm) (MO.of_new hI1.y.now yo) yo yv ht hnb2 hq1 hq1s))) ?_;clear hs a;rintro _ w4 ⟨z,q,R,rfl,zo,zv,hq,hqv,hqk,hqt,hqR,hN,hf⟩ a hs
 have hNz:New _ w4 z.hps:=⟨fun x hx=>hN.me x (List.mem_append_right _ hx),hN.dj.sub (List.sublist_append_right _ _),fun x hx=>hN.fresh x (List.mem_append_right _ hx)⟩
 have hNR:New _ w4 R:=⟨fun x hx=>hN.me x (List.mem_append_left _ hx),hN.dj.sub (List.sublist_append_left _ _),fun x hx=>hN.fresh x (List.mem_append_left _ hx)⟩
 have hI2:=(hI1.up (C:=B+20000) (by omega)).set_y hm hf (.inr hNz) zo zv
 have hq4:q.ok w4:=hq _ _ _ _ hNR.mm1 (fun _ h=>h)
 have hqn4:q.no (⟨some g9,87,(r.p.cl (y.cl (slv y.tA y.ts.length y.tc::r.o.cl (r.o.f.cl [.slice r.o.us.A r.o.us.us.length r.o.us.c,.slice r.k.o.A r.k.o.n r.k.o.c,.slice r.k.qA r.k.qs.length r.k.qc,slv rA m rc,.slice (some ⟨gj,0,none⟩) 4 jc]))))⟩::⟨some gj,3,jv⟩::⟨rA,177,rcs⟩::⟨some g4,87,[nS,nS,nS,nS,.int .u16 0,nS,nS,nS,nS,nS,nS,nS,nS,nS,nS,nS,nS,nS]⟩::⟨some g3,124,[.int .i64 th,.int .i64 br,.bool sg]⟩::⟨some g2,87,(r.p.cl (r.y.cl (slv r.y.tA r.y.ts.length r.y.tc::r.o.cl (r.o.f.cl [.slice r.o.us.A r.o.us.us.length r.o.us.c,.slice r.k.o.A r.k.o.n r.k.o.c,.slice r.k.qA r.k.qs.length r.k.qc,.slice eA n ec,.slice jA 4 jd]))))⟩::X):=fun b o n e hg=>by
  obtain⟨x,hx,e2⟩:=hqR b o n e
  have h1:=hNR.fresh x hx b e2
  have h2:=hm.own_lt hg
  omega
 have hqb4:q.bd w4:=fun b o n e=>hNR.own_lt (hqR b o n e)
 have hmC:=(hmB.trans hm).pu hf
 clear hm hN hf hNz hNR hq hqR hI1 ktk hmB
 obtain⟨M2,hM2⟩:∃M2,⟨some g9,87,(r.p.cl (y.cl (slv y.tA y.ts.length y.tc::r.o.cl (r.o.f.cl [.slice r.o.us.A r.o.us.us.length r.o.us.c,.slice r.k.o.A r.k.o.n r.k.o.c,.slice r.k.qA r.k.qs.length r.k.qc,slv rA m rc,.slice (some ⟨gj,0,none⟩) 4 jc]))))⟩::⟨some gj,3,jv⟩::⟨rA,177,rcs⟩::⟨some g4,87,[nS,nS,nS,nS,.int .u16 0,nS,nS,nS,nS,nS,nS,nS,nS,nS,nS,nS,nS,nS]⟩::⟨some g3,124,[.int .i64 th,.int .i64 br,.bool sg]⟩::⟨some g2,87,(r.p.cl (r.y.cl (slv r.y.tA r.y.ts.length r.y.tc::r.o.cl (r.o.f.cl [.slice r.o.us.A r.o.us.us.length r.o.us.c,.slice r.k.o.A r.k.o.n r.k.o.c,.slice r.k.qA r.k.qs.length r.k.qc,.slice eA n ec,.slice jA 4 jd]))))⟩::X=M2:=⟨_,rfl⟩
 have hm:Mm (own M2) w4 (⟨some g9,87,(r.p.cl (y.cl (slv y.tA y.ts.length y.tc::r.o.cl (r.o.f.cl [.slice r.o.us.A r.o.us.us.length r.o.us.c,.slice r.k.o.A r.k.o.n r.k.o.c,.slice r.k.qA r.k.qs.length r.k.qc,slv rA m rc,.slice (some ⟨gj,0,none⟩) 4 jc]))))⟩::⟨some gj,3,jv⟩::⟨rA,177,rcs⟩::⟨some g4,87,[nS,nS,nS,nS,.int .u16 0,nS,nS,nS,nS,nS,nS,nS,nS,nS,nS,nS,nS,nS]⟩::⟨some g3,124,[.int .i64 th,.int .i64 br,.bool sg]⟩::⟨some g2,87,(r.p.cl (r.y.cl (slv r.y.tA r.y.ts.length r.y.tc::r.o.cl (r.o.f.cl [.slice r.o.us.A r.o.us.us.length r.o.us.c,.slice r.k.o.A r.k.o.n r.k.o.c,.slice r.k.qA r.k.qs.length r.k.qc,.slice eA n ec,.slice jA 4 jd]))))⟩::X) w4:=by rw[←hM2];exact hmC.rebase
 have hI3:RnI w0 (B+20000) M2 {r with y:=z} w4:=by rw[←hM2];exact hI2
 have hmD:Mm (own X) wB M2 w4:=by rw[←hM2];exact hmC
 rw[hM2]at hqn4
 clear hI2 hmC
 refine gsce98_ ?_;clear hs hm a;intros;rename_i a hm hs
 obtain⟨g10,rfl⟩:=hs.pp 10
 obtain⟨g11,rfl⟩:=hs.pp 11
 refine dv hs (Wnt.none rfl) rfl rfl (d_append (A:=rA) (n:=m) (c:=rc) (news:=[.int .i64 1,.int .i64 (t:Int),.int .i64 (nb:Int),.int .i64 q.th,.int .i64 q.stop,.int .i64 q.trap,.int .i64 q.cnt,.int .i64 q.pc,.int .i64 q.call,.slice q.a.A q.a.xs.length q.a.c,.slice q.d.A q.d.xs.length q.d.c,.int .u8 0,.int .u16 0,.int .i64 0,.int .i64 0,nS,.int .i64 0,.bool false]) hs rfl rfl rfl rfl rfl tab rfl rfl rfl rfl rfl hm mem_ hrr rfl (hm.ro (n:=18) mem_ (cutF_ok rfl)) rfl (by show(m+1)*184≤_;omega) (by omega)) ?_
 clear hs
 rintro _ w5 ⟨rA2,rc2,rcs2,rfl,hr2,hM'⟩ a hs
 replace hm:=hM' _ rep_
 clear hM'
 refine gs730d_ ?_;clear hs hm a;intros;rename_i a hm hs
 with_reducible apply lNilThen
 with_reducible apply wp_seq
 obtain⟨X2,hX2⟩:∃X2,⟨some g11,173,[.int .i64 q.th,.int .i64 q.stop,.int .i64 q.trap,.int .i64 q.cnt,.int .i64 q.pc,.int .i64 q.call,.slice q.a.A q.a.xs.length q.a.c,.slice q.d.A q.d.xs.length q.d.c]⟩::⟨some g10,32,(z.cl [slv z.tA z.ts.length z.tc])⟩::⟨some g4,87,[nS,nS,nS,nS,.int .u16 0,nS,nS,nS,nS,nS,nS,nS,nS,nS,nS,nS,nS,nS]⟩::⟨some g3,124,[.int .i64 th,.int .i64 br,.bool sg]⟩::⟨some g2,87,(r.p.cl (r.y.cl (slv r.y.tA r.y.ts.length r.y.tc::r.o.cl (r.o.f.cl [.slice r.o.us.A r.o.us.us.length r.o.us.c,.slice r.k.o.A r.k.o.n r.k.o.c,.slice r.k.qA r.k.qs.length r.k.qc,.slice eA n ec,.slice jA 4 jd]))))⟩::X=X2:=⟨_,rfl⟩
 obtain⟨Z,hZ⟩:∃Z:RS,Z=⟨{r with y:=z},js,jv,rA2,m+1,rc2,es'++[.int .i64 1,.int .i64 (t:Int),.int .i64 (nb:Int),.int .i64 q.th,.int .i64 q.stop,.int .i64 q.trap,.int .i64 q.cnt,.int .i64 q.pc,.int .i64 q.call,.slice q.a.A q.a.xs.length q.a.c,.slice q.d.A q.d.xs.length q.d.c,.int .u8 0,.int .u16 0,.int .i64 0,.int .i64 0,nS,.int .i64 0,.bool false],rcs2⟩:=⟨_,rfl⟩
 have hZe:Z.M g9 gj jc X2=⟨some g9,87,(r.p.cl (z.cl (slv z.tA z.ts.length z.tc::r.o.cl (r.o.f.cl [.slice r.o.us.A r.o.us.us.length r.o.us.c,.slice r.k.o.A r.k.o.n r.k.o.c,.slice r.k.qA r.k.qs.length r.k.qc,slv rA2 (m+1) rc2,.slice (some ⟨gj,0,none⟩) 4 jc]))))⟩::⟨some gj,3,jv⟩::⟨rA2,177,rcs2⟩::⟨some g11,173,[.int .i64 q.th,.int .i64 q.stop,.int .i64 q.trap,.int .i64 q.cnt,.int .i64 q.pc,.int .i64 q.call,.slice q.a.A q.a.xs.length q.a.c,.slice q.d.A q.d.xs.length q.d.c]⟩::⟨some g10,32,(z.cl [slv z.tA z.ts.length z.tc])⟩::⟨some g4,87,[nS,nS,nS,nS,.int .u16 0,nS,nS,nS,nS,nS,nS,nS,nS,nS,nS,nS,nS,nS]⟩::⟨some g3,124,[.int .i64 th,.int .i64 br,.bool sg]⟩::⟨some g2,87,(r.p.cl (r.y.cl (slv r.y.tA r.y.ts.length r.y.tc::r.o.cl (r.o.f.cl [.slice r.o.us.A r.o.us.us.length r.o.us.c,.slice r.k.o.A r.k.o.n r.k.o.c,.slice r.k.qA r.k.qs.length r.k.qc,.slice eA n ec,.slice jA 4 jd]))))⟩::X:=by rw[hZ,←hX2];rfl
 replace hm:=hm.sub (M':=([⟨some g11,173,[.int .i64 q.th,.int .i64 q.stop,.int .i64 q.trap,.int .i64 q.cnt,.int .i64 q.pc,.int .i64 q.call,.slice q.a.A q.a.xs.length q.a.c,.slice q.d.A q.d.xs.length q.d.c]⟩,⟨some g10,32,(z.cl [slv z.tA z.ts.length z.tc])⟩]++[⟨some g9,87,(r.p.cl (z.cl (slv z.tA z.ts.length z.tc::r.o.cl (r.o.f.cl [.slice r.o.us.A r.o.us.us.length r.o.us.c,.slice r.k.o.A r.k.o.n r.k.o.c,.slice r.k.qA r.k.qs.length r.k.qc,slv rA2 (m+1) rc2,.slice (some ⟨gj,0,none⟩) 4 jc]))))⟩,⟨some gj,3,jv⟩,⟨rA2,177,rcs2⟩])++(⟨some g4,87,[nS,nS,nS,nS,.int .u16 0,nS,nS,nS,nS,nS,nS,nS,nS,nS,nS,nS,nS,nS]⟩::⟨some g3,124,[.int .i64 th,.int .i64 br,.bool sg]⟩::⟨some g2,87,(r.p.cl (r.y.cl (slv r.y.tA r.y.ts.length r.y.tc::r.o.cl (r.o.f.cl [.slice r.o.us.A r.o.us.us.length r.o.us.c,.slice r.k.o.A r.k.o.n r.k.o.c,.slice r.k.qA r.k.qs.length r.k.qc,.slice eA n ec,.slice jA 4 jd]))))⟩::X)) (List.Sublist.cons _ (List.Sublist.refl _))
 have hmE:=hm.perm (List.Perm.append_right (⟨some g4,87,[nS,nS,nS,nS,.int .u16 0,nS,nS,nS,nS,nS,nS,nS,nS,nS,nS,nS,nS,nS]⟩::⟨some g3,124,[.int .i64 th,.int .i64 br,.bool sg]⟩::⟨some g2,87,(r.p.cl (r.y.cl (slv r.y.tA r.y.ts.length r.y.tc::r.o.cl (r.o.f.cl [.slice r.o.us.A r.o.us.us.length r.o.us.c,.slice r.k.o.A r.k.o.n r.k.o.c,.slice r.k.qA r.k.qs.length r.k.qc,.slice eA n ec,.slice jA 4 jd]))))⟩::X) (List.perm_append_comm (l₁:=[⟨some g9,87,(r.p.cl (z.cl (slv z.tA z.ts.length z.tc::r.o.cl (r.o.f.cl [.slice r.o.us.A r.o.us.us.length r.o.us.c,.slice r.k.o.A r.k.o.n r.k.o.c,.slice r.k.qA r.k.qs.length r.k.qc,slv rA2 (m+1) rc2,.slice (some ⟨gj,0,none⟩) 4 jc]))))⟩,⟨some gj,3,jv⟩,⟨rA2,177,rcs2⟩]) (l₂:=[⟨some g11,173,[.int .i64 q.th,.int .i64 q.stop,.int .i64 q.trap,.int .i64 q.cnt,.int .i64 q.pc,.int .i64 q.call,.slice q.a.A q.a.xs.length q.a.c,.slice q.d.A q.d.xs.length q.d.c]⟩,⟨some g10,32,(z.cl [slv z.tA z.ts.length z.tc])⟩])))
 replace hmE:Mm (own M2) w4 (⟨some g9,87,(r.p.cl (z.cl (slv z.tA z.ts.length z.tc::r.o.cl (r.o.f.cl [.slice r.o.us.A r.o.us.us.length r.o.us.c,.slice r.k.o.A r.k.o.n r.k.o.c,.slice r.k.qA r.k.qs.length r.k.qc,slv rA2 (m+1) rc2,.slice (some ⟨gj,0,none⟩) 4 jc]))))⟩::⟨some gj,3,jv⟩::⟨rA2,177,rcs2⟩::⟨some g11,173,[.int .i64 q.th,.int .i64 q.stop,.int .i64 q.trap,.int .i64 q.cnt,.int .i64 q.pc,.int .i64 q.call,.slice q.a.A q.a.xs.length q.a.c,.slice q.d.A q.d.xs.length q.d.c]⟩::⟨some g10,32,(z.cl [slv z.tA z.ts.length z.tc])⟩::⟨some g4,87,[nS,nS,nS,nS,.int .u16 0,nS,nS,nS,nS,nS,nS,nS,nS,nS,nS,nS,nS,nS]⟩::⟨some g3,124,[.int .i64 th,.int .i64 br,.bool sg]⟩::⟨some g2,87,(r.p.cl (r.y.cl (slv r.y.tA r.y.ts.length r.y.tc::r.o.cl (r.o.f.cl [.slice r.o.us.A r.o.us.us.length r.o.us.c,.slice r.k.o.A r.k.o.n r.k.o.c,.slice r.k.qA r.k.qs.length r.k.qc,.slice eA n ec,.slice jA 4 jd]))))⟩::X) _:=hmE
 rw[←hZe]at hmE
 have hZi:Z.inv w0 (B+20000) g9 gj jc X2 _:=⟨by rw[hZ];exact hjr,by rw[show Z.r={r with y:=z} by rw[hZ]];exact hI3.step hmE,by rw[hZ];exact hr2,by rw[hZ];dsimp only;rw[List.all_append,h1e];rfl⟩
 have hZp:Z.r.p=r.p:=by rw[hZ]
 have hZn:Z.n≤n+2:=by rw[hZ];dsimp only;omega
 have hqD:=hqn4.step hqb4 hmE
 have hqE:q.ok _:=hq4.own hqn4 hmE
 have hqF:q.bd _:=fun b o n e=>Nat.lt_of_lt_of_le (hqb4 b o n e) hmE.fr.size
 have hmZ:=hmD.trans hmE
 have hmL:=hm
 clear hq4 hqn4 hqb4 hmE hI3 hr2 hmD hm
 refine cMid (fun a w=>∃Y:RS,Y.inv w0 (B+20000) g9 gj jc X2 w∧Y.n≤n+4∧Y.r.p=r.p∧Sl Tryz.f52.ntmps [(4,pt g4),(7,.int .i64 (t:Int)),(9,pt g9)] a∧Mm (own X) wB (Y.M g9 gj jc X2) w) ?_ ?_
 ·by_cases hst1:q.stop=1
  ·have hm:=hmL
   refine gsce98_ ?_;clear hs hm a;intros;rename_i a hm hs
   refine st hs rfl rfl rfl (d_call hs rfl rfl rfl (pl 92 rfl) ((called_c w0 (B+20000) Z g9 gj jc X2 q _ hmZ.rebase hZi (by omega) (by omega) hqE hqD hqF hqv (hqk hst1) hst1))) ?_;clear hs a;rintro _ w6 ⟨Y,hY1,hY2,hY3,hY4⟩ a hs
   have hm:=hmZ.trans hY2
   refine gsce98_ ?_;clear hs hm a;intros;rename_i a hm hs
   exact And.intro rfl ⟨Y,hY1,by omega,hY4.trans hZp,(sb_ hs),hm⟩
  ·have hm:=hmL
   refine gsce98_ ?_;clear hs hm a;intros;rename_i a hm hs
   exact And.intro rfl ⟨Z,hZi,by omega,hZp,(sb_ hs),hmZ⟩
 clear hs hZ hZe hZi hZp hZn hqD hqE hqF hmZ hmL hqv hqk hqt a
 rintro a w ⟨Y,hYi,hYn,hYp,hs,hmB⟩
 with_reducible apply gThen
 with_reducible apply wp_seq
 refine cMid (fun a w=>∃Y:RS,Y.inv w0 (B+20000) g9 gj jc X2 w∧Y.r.p=r.p∧Sl Tryz.f52.ntmps [(4,pt g4),(9,pt g9)] a∧Mm (own X) wB (Y.M g9 gj jc X2) w) ?_ ?_
 ·obtain⟨M3,hM3⟩:∃M3,Y.M g9 gj jc X2=M3:=⟨_,rfl⟩
  have hm:Mm (own M3) w (Y.M g9 gj jc X2) w:=by rw[←hM3];exact hmB.rebase
  unfold RS.M RD.hp RD.cs at hm
  obtain⟨h4,gt,hgt,hngt,hmv⟩:=hYi.i.gt
  rw[hM3]at hngt
  have r3:=MO.thr hmv hgt (k:=t) (by omega)
  generalize Y.r.y.ts[t]'_=qk at r3
  unfold ThO.v at r3
  rw[hgt,h4]at hm
  by_cases hst4:qk.d.st=4
  ·refine gsce98_ ?_;clear hs hm a;intros;rename_i a hm hs
   refine st hs rfl rfl rfl (d_call hs rfl rfl rfl (pl 93 rfl) ((ended_c w0 (B+20000) Y g9 gj jc X2 t _ hmB.rebase hYi (by omega) (by omega) ht))) ?_;clear hs a;rintro _ w6 ⟨Y2,hY1,hY2,hY3,hY4⟩ a hs
   have hmF:=hmB.trans hY2
   repeat refine sc_ ?_
   exact And.intro rfl ⟨Y2,hY1,hY4.trans hYp,(sb_ hs),hmF⟩
  ·refine gsce98_ ?_;clear hs hm a;intros;rename_i w a hm hs
   exact And.intro rfl ⟨Y,hYi,hYp,(sb_ hs),hmB⟩
 clear hs hYi hYn hYp hmB Y a
 rintro a w ⟨Y,hYi,hYp,hs,hmB⟩
 obtain⟨M3,hM3⟩:∃M3,Y.M g9 gj jc X2=M3:=⟨_,rfl⟩
 have hm:Mm (own M3) w (Y.M g9 gj jc X2) w:=by rw[←hM3];exact hmB.rebase
 unfold RS.M RD.hp RD.cs at hm
 rw[←hX2]at hm
 have hYj:RnI w0 (B+20000) M3 Y.r w:=by rw[←hM3];exact hYi.i
 refine gsce98_ ?_;clear hs hm a;intros;rename_i a hm hs
 have hmG:=hm.sub (M':=X) (List.Sublist.cons _ (List.Sublist.cons _ (List.Sublist.cons _ (List.Sublist.cons _ (List.Sublist.cons _ (List.Sublist.cons _ (List.Sublist.cons _ (List.Sublist.cons _ (List.Sublist.refl _)))))))))
 have hmH:=hmB
 rw[hM3]at hmH
 have hjl4:Y.js.length=4:=by have:=hYi.j.xl;rw[ints_len]at this;omega
 have hY2:Y.inv w0 (B+20000) g9 gj jc (⟨some g11,173,[.int .i64 q.th,.int .i64 q.stop,.int .i64 q.trap,.int .i64 q.cnt,.int .i64 q.pc,.int .i64 q.call,.slice q.a.A q.a.xs.length q.a.c,.slice q.d.A q.d.xs.length q.d.c]⟩::⟨some g10,32,(z.cl [slv z.tA z.ts.length z.tc])⟩::⟨some g4,87,(Y.r.p.cl (Y.r.y.cl (slv Y.r.y.tA Y.r.y.ts.length Y.r.y.tc::Y.r.o.cl (Y.r.o.f.cl [.slice Y.r.o.us.A Y.r.o.us.us.length Y.r.o.us.c,.slice Y.r.k.o.A Y.r.k.o.n Y.r.k.o.c,.slice Y.r.k.qA Y.r.k.qs.length Y.r.k.qc,slv Y.rA Y.n Y.rc,.slice (some ⟨gj,0,none⟩) 4 jc]))))⟩::⟨some g3,124,[.int .i64 th,.int .i64 br,.bool sg]⟩::⟨some g2,87,(r.p.cl (r.y.cl (slv r.y.tA r.y.ts.length r.y.tc::r.o.cl (r.o.f.cl [.slice r.o.us.A r.o.us.us.length r.o.us.c,.slice r.k.o.A r.k.o.n r.k.o.c,.slice r.k.qA r.k.qs.length r.k.qc,.slice eA n ec,.slice jA 4 jd]))))⟩::X) _:=⟨hYi.j,hYj.step hm,hYi.row,hYi.one⟩
 have hRV:=(RS.out hY2 hm hjl4).sub (X':=X) (List.Sublist.cons _ (List.Sublist.cons _ (List.Sublist.cons _ (List.Sublist.cons _ (List.Sublist.cons _ (List.Sublist.refl _))))))
 exact gRetN tab hs rfl (.cons (.cells rfl rfl rfl rfl (hm.ro (k:=0) (n:=18) (g:=g4) mem_ (cutF_ok rfl))) (.cons (.tmp rfl) .nil)) ⟨RV.f ⟨Y.r,ad Y.rA,Y.rc,Y.n,Y.es,some ⟨gj,0,none⟩,jc,Y.js⟩,Y.r.y.key,0,rfl,hmH.trans hmG,fun _=>⟨⟨Y.r,ad Y.rA,Y.rc,Y.n,Y.es,some ⟨gj,0,none⟩,jc,Y.js⟩,RV.cs_f _,hRV,hYp⟩⟩
def pgP(p:PgX):PV:=⟨some ⟨p.cA,0,none⟩,p.cc,p.code,some ⟨p.gs,0,none⟩,p.sc,p.ss,ad p.dA,p.dc,p.ws.map WS.rd⟩
theorem pgP_v(p:PgX):(pgP p).v=p.v:=by
 unfold PV.v pgP PgX.v
 dsimp only
 rw[List.length_map]
 rfl
theorem pgP_ok{p:PgX}{w:World}(h:RwsOk p.rows w):(pgP p).ok w:=by
 have h1:=h (some p.cA,p.code.flatMap inV) (List.mem_cons_self ..)
 have h2:=h (some p.gs,ints p.ss) (List.mem_cons_of_mem _ (List.mem_cons_self ..))
 have h3:=h (p.dA,p.ws.map WS.v) (List.mem_cons_of_mem _ (List.mem_cons_of_mem _ (List.mem_cons_self ..)))
 refine⟨h1,h2,?_,fun r hr=>?_⟩
 ·unfold pgP
  dsimp only
  rw[WS.rds_v]
  exact h3
 ·obtain⟨r0,hr0,rfl⟩:=List.mem_map.1 hr
  exact h (r0.A,wds r0.xs) (List.mem_cons_of_mem _ (List.mem_cons_of_mem _ (List.mem_cons_of_mem _ (List.mem_map.2 ⟨r0,hr0,rfl⟩))))
theorem pgP_val [HB]{p:PgX}(h:PgV p)(hN:(p.code.length:Int)≤HB.h+1):(pgP p).val:=by
 refine⟨h.sz,by show(p.ws.map WS.rd).length=_;rw[List.length_map];exact h.wl,fun k k1 k2=>?_,fun r hr=>?_,h.c1,h.c2,h.inv,h.ju,hN⟩
 ·have k1':k<p.ws.length:=by have:k<(p.ws.map WS.rd).length:=k1;rwa[List.length_map]at this
  have:=h.fit k k1' k2
  have e:((pgP p).ws[k]).xs=(p.ws[k]).xs:=by
   show((p.ws.map WS.rd)[k]'(by rw[List.length_map];exact k1')).xs=_
   rw[List.getElem_map];rfl
  rw[e]
  exact this
 ·obtain⟨r0,hr0,rfl⟩:=List.mem_map.1 hr
  exact h.bd r0 hr0
theorem pgP_st{p:PgX}{M:List Hp}{w:World}{N:Nat}(h:RwsOk p.rows w)(hg:RwsGe p.rows N)(hM:∀g,own M g→g<N):St M (pgP p).ok w:=fun w' M' hm=>pgP_ok fun r hr=>rdD hm.fr (h r hr) fun g o e hw=>by
 cases hA:r.1 with
 |none=>rw[hA]at e;cases e
 |some g1=>
  have h1:=hg r hr g1 hA
  rw[hA]at e
  have e':g1=g:=by simpa using congrArg (fun x=>x.map Addr.block) e
  subst e'
  have:=hM _ hw
  omega
theorem own_eq{M M':List Hp}{g:Nat}(hg:own M g)(h:M.map Hp.g=M'.map Hp.g):own M' g:=by
 obtain⟨x,hx,e⟩:=hg
 have h1:some g∈M'.map Hp.g:=by rw[←h,←e];exact List.mem_map.2 ⟨x,hx,rfl⟩
 obtain⟨y,hy,e2⟩:=List.mem_map.1 h1
 exact⟨y,hy,e2⟩
theorem St.of_rd{S:Nat→Prop}{w0:World}{M:List Hp}{w:World}{A:Option Addr}{vs:List Value}(_hm:Mm S w0 M w)(h:Rd w w.heap.size A vs)(hn:∀b o,A=some ⟨b,o,none⟩→¬own M b):St M (fun v=>Rd v v.heap.size A vs) w:=fun w' M' hm=>rdD hm.fr h fun g o e=>hn g o e
theorem pgP_st'{S:Nat→Prop}{w0:World}{p:PgX}{M:List Hp}{w:World}{N:Nat}(_hm:Mm S w0 M w)(h:RwsOk p.rows w)(hg:RwsGe p.rows N)(hM:∀g,own M g→g<N):St M (pgP p).ok w:=pgP_st h hg hM
structure PV.btw(p:PV)(lo hi:Nat):Prop where
 c:p.code≠ []→∀b o,p.cA=some ⟨b,o,none⟩→lo≤b∧b<hi
 s:p.ss≠ []→∀b o,p.sA=some ⟨b,o,none⟩→lo≤b∧b<hi
 d:p.ws≠ []→∀b o,p.dA=some ⟨b,o,none⟩→lo≤b∧b<hi
 dd:∀r∈p.ws,r.xs≠ []→∀b o,r.A=some ⟨b,o,none⟩→lo≤b∧b<hi
theorem PV.ok.keep{p:PV}{lo hi:Nat}{S:Nat→Prop}{w w':World}(h:p.ok w)(hb:p.btw lo hi)(hf:Fr S w w')(hn:∀b,lo≤b→b<hi→¬S b):p.ok w':=by
 refine⟨rdV hf h.c fun h0 g o e=>?_,rdV hf h.s fun h0 g o e=>?_,rdV hf h.d fun h0 g o e=>?_,fun r hr=>rdV hf (h.dd r hr) fun h0 g o e=>?_⟩
 ·have:=hb.c (by rintro h1;rw[h1]at h0;exact h0 rfl) g o e
  exact hn g this.1 this.2
 ·have:=hb.s (by rintro h1;rw[h1]at h0;exact h0 rfl) g o e
  exact hn g this.1 this.2
 ·have:=hb.d (by rintro h1;rw[h1]at h0;exact h0 rfl) g o e
  exact hn g this.1 this.2
 ·have:=hb.dd r hr (by rintro h1;rw[h1]at h0;exact h0 rfl) g o e
  exact hn g this.1 this.2
theorem ad_blk{A:Option Nat}{b o:Nat}(h:ad A=some ⟨b,o,none⟩):A=some b:=by
 cases A with
 |none=>cases h
 |some g=>
  have:=congrArg Addr.block (Option.some.inj (show some (⟨g,0,none⟩:Addr)=some ⟨b,o,none⟩from h))
  rw[show g=b from this]
theorem rd_lt{w:World}{A:Option Addr}{vs:List Value}(h:Rd w w.heap.size A vs)(h0:vs≠ []){b o:Nat}(e:A=some ⟨b,o,none⟩):b<w.heap.size:=by
 obtain⟨b1,o1,e1,hb,-⟩:=h.ro (List.length_pos_iff.2 h0)
 rw[e1]at e
 have:=congrArg Addr.block (Option.some.inj e)
 rw[←show b1=b from this]
 exact hb
theorem pgP_btw{p:PgX}{w:World}{N:Nat}(h:RwsOk p.rows w)(hg:RwsGe p.rows N):(pgP p).btw N w.heap.size:=by
 have hok:=pgP_ok h
 have k1:∀A vs,(A,vs)∈p.rows→∀b o,ad A=some ⟨b,o,none⟩→N≤b:=fun A vs hm b o e=>hg (A,vs) hm b (ad_blk e)
 refine⟨fun h0 b o e=>⟨k1 (some p.cA) _ (List.mem_cons_self ..) b o e,rd_lt hok.c ?_ e⟩,fun h0 b o e=>⟨k1 (some p.gs) _ (List.mem_cons_of_mem _ (List.mem_cons_self ..)) b o e,rd_lt hok.s ?_ e⟩,fun h0 b o e=>⟨k1 p.dA _ (List.mem_cons_of_mem _ (List.mem_cons_of_mem _ (List.mem_cons_self ..))) b o e,rd_lt hok.d ?_ e⟩,fun r hr h0 b o e=>?_⟩
 ·intro h1
  have:=congrArg List.length h1
  rw[flat_len inV 5 inV_len]at this
  exact h0 (List.length_eq_zero_iff.1 (by simp only[List.length_nil]at this;omega))
 ·intro h1
  have:=congrArg List.length h1
  rw[ints_len]at this
  exact h0 (List.length_eq_zero_iff.1 (by simpa using this))
 ·intro h1
  have:=congrArg List.length h1
  rw[List.length_map]at this
  exact h0 (List.length_eq_zero_iff.1 (by simpa using this))
 ·have hr':r∈p.ws.map WS.rd:=hr
  obtain⟨r0,hr0,rfl⟩:=List.mem_map.1 hr'
  refine⟨k1 r0.A (wds r0.xs) (List.mem_cons_of_mem _ (List.mem_cons_of_mem _ (List.mem_cons_of_mem _ (List.mem_map.2 ⟨r0,hr0,rfl⟩)))) b o e,rd_lt (hok.dd _ hr) ?_ e⟩
  intro h1
  have:=congrArg List.length h1
  rw[wds_len2]at this
  exact h0 (List.length_eq_zero_iff.1 (by simp only[List.length_nil]at this;omega))
theorem kbg_c [HB](p:PV)(hpv:p.val)(w0:World)(A:Option Addr)(nn c:Nat)(bs ss:List Int)(key:Int)(o:OV)(X:List Hp)(wB:World)(hw:w0.heap.size≤wB.heap.size)(hM:Mm (own X) wB X wB)(hp:St X p.ok wB)(hA:Rd wB wB.heap.size A (ints bs))(hn:nn=p.ss.length)(hss:ss=p.ss)(hg:LGap bs ss)(hnc:nn≤c)(hkey:0≤key∧key≤65535)(ho:o.ok wB)(hov:o.val)(hnum:∀d∈o.f.ds,∀c∈d.xs,NumC c):Ret Tryz.prog 49 [p.v,.agg #[.slice A p.ss.length c,.int .u16 key],o.v] wB (fun u w'=>∃z:RV,u= .tuple #[z.v,.int .i64 0]∧z.inv w0 0 X w'∧z.r.p=p∧Pu wB w'):=by
 subst hn hss
 exact begin_c w0 p A c bs key o X wB hM hw hp hpv hA hnc hg hkey ho hov hnum
structure RnX where
 k:Nat
 a:Nat
 Z:RV
theorem run_c(gd:Nat)(A:Option Addr)(n c at_:Nat)(xs:List Int)(wB:World)(h:Dk gd A n c at_ xs wB):
  Ret Tryz.prog 30 [pt gd] wB (fun u w'=>∃(_:HB)(Z:RV)(a1:Nat)(wp:World),u=Z.v∧HB.h+1=(Z.r.p.code.length:Int)∧Z.inv wp 400000 [dk gd A n c a1] w'∧Z.r.p.btw wB.heap.size wp.heap.size∧wB.heap.size≤wp.heap.size∧Mm (own [dk gd A n c at_]) wB [dk gd A n c a1] w'):=by
 have hgd:=Hp.lt h.sat (g:=gd) rfl
 refine enterR Tryz.func30 rfl rfl rfl fun a hs hm=>?_
 clear hm
 have hm:=h.in_
 refine gsce98_ ?_;clear hs hm a;intros;rename_i a hm hs
 obtain⟨g2,rfl⟩:=hs.pp 2
 refine st hs rfl rfl rfl (d_call hs rfl rfl rfl (pl 48 rfl) ((prg_c gd A n c _ xs _ (h.now hm mem_)))) ?_;clear hs a;rintro _ wp ⟨px,rfl,hpv0,hrw,hge,a1,k1,hf⟩ a hs
 have hlt:=fun g (hg:own _ g)=>hm.own_lt hg
 have hle0:=hm.fr.size
 have hne0:∀b o,(pgP px).sA=some ⟨b,o,none⟩→b≠gd:=fun b o e=>by
  have h1:=hge (some px.gs,ints px.ss) (List.mem_cons_of_mem _ (List.mem_cons_self ..)) px.gs rfl
  have e':px.gs=b:=congrArg Addr.block (Option.some.inj (show some (⟨px.gs,0,none⟩:Addr)=some ⟨b,o,none⟩from e))
  omega
 have hbw:=pgP_btw hrw hge
 replace hm:=hm.dkt rep_ k1 hf
 have hpB:=hm.fr.size
 have hp0:=pgP_st' hm hrw hge fun g hg=>hlt g (own_eq hg rfl)
 obtain⟨hb,hhb⟩:∃hb:HB,hb.h+1=((pgP px).code.length:Int):=⟨⟨(px.code.length:Int)-1,by have:=hpv0.c1;omega,by have:=hpv0.c2;omega⟩,by show(px.code.length:Int)-1+1=(px.code.length:Int);omega⟩
 have hpv:=pgP_val hpv0 (Int.le_of_eq hhb.symm)
 rw[←pgP_v px]at hs
 replace hbw:(pgP px).btw wB.heap.size wp.heap.size:=⟨fun h b o e=>⟨Nat.le_trans hle0 (hbw.c h b o e).1,(hbw.c h b o e).2⟩,fun h b o e=>⟨Nat.le_trans hle0 (hbw.s h b o e).1,(hbw.s h b o e).2⟩,fun h b o e=>⟨Nat.le_trans hle0 (hbw.d h b o e).1,(hbw.d h b o e).2⟩,fun r hr h b o e=>⟨Nat.le_trans hle0 (hbw.dd r hr h b o e).1,(hbw.dd r hr h b o e).2⟩⟩
 generalize pgP px=p at hs hpv hp0 hne0 hbw hhb
 have hmA:=hm
 clear hm hlt hrw hge hf hpv0 k1 px
 have hm:=hmA.rebase
 unfold PV.v at hs
 refine gs730d_ ?_;clear hs hm a;intros;rename_i a hm hs
 with_reducible apply lNilThen
 with_reducible apply wp_seq
 obtain⟨g3,rfl⟩:=hs.pp 3
 have hp1:=hp0.step hm
 have hw1:=hm.fr.size
 have hmB:=hmA.trans hm
 clear hp0 hmA
 have hm1:=hmB.rebase
 clear hm
 have hm:=hm1
 clear hm1
 refine cMid (fun a w=>∃(g4 a1:Nat)(Z:RV),Z.inv wp 0 [⟨some g4,87,Z.cs⟩,⟨some g2,87,[nS,nS,nS,nS,.int .u16 0,nS,nS,nS,nS,nS,nS,nS,nS,nS,nS,nS,nS,nS]⟩,dk gd A n c a1] w∧Z.r.p=p∧Sl Tryz.f30.ntmps [(0,pt gd),(2,pt g2),(4,pt g4)] a∧Mm (own [dk gd A n c at_]) wB [⟨some g4,87,Z.cs⟩,⟨some g2,87,[nS,nS,nS,nS,.int .u16 0,nS,nS,nS,nS,nS,nS,nS,nS,nS,nS,nS,nS,nS]⟩,dk gd A n c a1] w) ?_ ?_
 ·with_reducible repeat(first|apply gThen|apply wp_seq)
  refine cDrawT (n:=14) (.s [1,2,5]<| .e [(0,.e [(3,.e [(4,.x<| .e [(6,.x<| .e [(7,.x<| .s [8,9,10]<| .o 11<| .o 12<| .t 13<| .d),(11,.o 7<| .x<| .s [8,9,10]<| .o 12<| .t 13<| .d)]),(11,.o 6<| .x<| .o 7<| .x<| .s [8,9,10]<| .o 12<| .t 13<| .d)]),(11,.o 4<| .x<| .o 6<| .x<| .o 7<| .x<| .s [8,9,10]<| .o 12<| .t 13<| .d)]),(11,.o 3<| .o 4<| .x<| .o 6<| .x<| .o 7<| .x<| .s [8,9,10]<| .o 12<| .t 13<| .d)]),(3,.e [(0,.e [(4,.x<| .e [(6,.x<| .e [(7,.x<| .s [8,9,10]<| .o 11<| .o 12<| .t 13<| .d),(11,.o 7<| .x<| .s [8,9,10]<| .o 12<| .t 13<| .d)]),(11,.o 6<| .x<| .o 7<| .x<| .s [8,9,10]<| .o 12<| .t 13<| .d)]),(11,.o 4<| .x<| .o 6<| .x<| .o 7<| .x<| .s [8,9,10]<| .o 12<| .t 13<| .d)]),(4,.x<| .e [(0,.e [(6,.x<| .e [(7,.x<| .s [8,9,10]<| .o 11<| .o 12<| .t 13<| .d),(11,.o 7<| .x<| .s [8,9,10]<| .o 12<| .t 13<| .d)]),(11,.o 6<| .x<| .o 7<| .x<| .s [8,9,10]<| .o 12<| .t 13<| .d)]),(6,.x<| .e [(0,.e [(7,.x<| .s [8,9,10]<| .o 11<| .o 12<| .t 13<| .d),(11,.o 7<| .x<| .s [8,9,10]<| .o 12<| .t 13<| .d)]),(11,.o 0<| .o 7<| .x<| .s [8,9,10]<| .o 12<| .t 13<| .d)]),(11,.e [(0,.o 6<| .x<| .o 7<| .x<| .s [8,9,10]<| .o 12<| .t 13<| .d),(6,.x<| .o 0<| .o 7<| .x<| .s [8,9,10]<| .o 12<| .t 13<| .d)])]),(11,.e [(0,.o 4<| .x<| .o 6<| .x<| .o 7<| .x<| .s [8,9,10]<| .o 12<| .t 13<| .d),(4,.x<| .e [(0,.o 6<| .x<| .o 7<| .x<| .s [8,9,10]<| .o 12<| .t 13<| .d),(6,.x<| .o 0<| .o 7<| .x<| .s [8,9,10]<| .o 12<| .t 13<| .d)])])]),(11,.e [(0,.o 3<| .o 4<| .x<| .o 6<| .x<| .o 7<| .x<| .s [8,9,10]<| .o 12<| .t 13<| .d),(3,.e [(0,.o 4<| .x<| .o 6<| .x<| .o 7<| .x<| .s [8,9,10]<| .o 12<| .t 13<| .d),(4,.x<| .e [(0,.o 6<| .x<| .o 7<| .x<| .s [8,9,10]<| .o 12<| .t 13<| .d),(6,.x<| .o 0<| .o 7<| .x<| .s [8,9,10]<| .o 12<| .t 13<| .d)])])])]) [] hm rfl rfl ?_
  clear hm;intro t_ w1_ hm
  repeat' (first|(refine dg9546_ ?_;clear t_ hs hm a;intros;rename_i a hm hs t_)|refine tE t_ ?_|refine tC ?_ ?_|exact tN|intro t_|(refine oDo (i:=4) hs rfl (Wnt.none rfl) rfl rfl (by exact d_call hs rfl rfl rfl (pl 50 rfl) ((lay_c gd A n c _ xs p.sA p.ss.length p.sc p.ss _ (h.now (hmB.trans hm) mem_) rfl hpv.sz (hp1.at_ hm).s hne0))) ?_;clear hs;rintro _ w3 ⟨x,rfl,hly,a2,k2,hf⟩ a hs;(have hnl:=fun b o (e:x.A=some ⟨b,o,none⟩) (hg:own _ b)=>Nat.lt_irrefl _ (Nat.lt_of_lt_of_le (hm.own_lt hg) (hly.new b o e)));(replace hm:=hm.dkt rep_ k2 hf);(clear hf);(have hxl:x.l= .agg #[.slice x.A p.ss.length x.c,.int .u16 x.key]:=by unfold LS.l;rw[hly.n]);(rw[hxl]at hs);replace t_:=tX t_;refine⟨(hm.sub sub_),?_⟩;(refine hRebase hm ?_);(have hp2:=hp1.step hm);(have hw2:=hm.fr.size);(have hmC:=hmB.trans hm);(have hx2:=St.of_rd hm hly.ok.br (fun b o e hg=>hnl b o e (own_eq hg rfl)));(clear hnl);(have hm1:=hm.rebase);(clear hm);(have hm:=hm1);(clear hm1))|(refine oDo (i:=6) hs rfl (Wnt.none rfl) rfl rfl (by exact d_call hs rfl rfl rfl (pl 51 rfl) ((out_c gd A n c _ xs _ (h.now (hmC.trans hm) mem_)))) ?_;clear hs;rintro _ w3 ⟨o,R,a3,rfl,oo,ov,on,hk⟩ a hs;(replace hm:=(hm.deck (R:=R) (hk.perm (List.perm_append_comm (l₁:=R) (l₂:=[_]))) rfl rep_).perm List.perm_append_comm);(clear hk);(simp only[List.cons_append,List.nil_append]at hm);(unfold OV.v at hs);replace t_:=tX t_;refine⟨(hm.sub sub_),?_⟩)|(refine oDo (i:=7) hs rfl (Wnt.none rfl) rfl rfl (by exact d_call hs rfl rfl rfl (pl 49 rfl) ((kbg_c p hpv wp x.A x.n x.c x.bs x.ss x.key o _ _ (Nat.le_trans hw1 (Nat.le_trans hw2 hm.fr.size)) hm.rebase (hp2.step hm) (hx2.at_ hm) hly.n hly.ss hly.gap hly.cap hly.apt.key (oo.now hm (fun z hz=>by simp only[List.mem_cons];simp[hz])) ov on))) ?_;clear hs;rintro _ w4 ⟨Z,rfl,hZ,hZp,hf⟩ a hs;(replace hm:=hm.pu hf);(clear hf);(unfold RV.v RV.cs RD.cs at hs);replace t_:=tX t_;refine⟨(hm.sub sub_),?_⟩;(refine hRebase hm ?_);(have hmD:=hmC.trans hm);(have hm1:=hm.rebase);(clear hm);(have hm:=hm1);(clear hm1))|(refine tD t_ ?_;(obtain⟨g4,rfl⟩:=hs.pp 4);(have hs4:=fun{c1 c2 c3 c4:Hp}=>(List.Sublist.cons_cons c1 (List.Sublist.cons c2 (List.Sublist.cons_cons c3 (List.Sublist.cons_cons c4 (List.nil_sublist R))))));(exact And.intro rfl ⟨g4,_,Z,(hZ.step hm).sub hs4,hZp,(sb_ hs),(hmD.trans hm).sub hs4⟩))|fail)
 clear hs hm a
 rintro a w ⟨g4,a1,Z,hZ,hZp,hs,hm⟩
 refine gsce98_ ?_;clear hs hm a;intros;rename_i a hm hs
 refine st hs rfl rfl rfl (d_call hs rfl rfl rfl (pl 21 rfl) ((nxt_c gd A n c _ xs 16 _ (h.now hm mem_) (by omega) (by omega)))) ?_;clear hs a;rintro _ w1 ⟨r0,rfl,b0,a2,k0,hf⟩ a hs
 have hZ2:=hZ
 have hm1:=hm.dkt rep_ k0 hf (M':=[⟨some g4,87,Z.cs⟩,⟨some g2,87,[nS,nS,nS,nS,.int .u16 0,nS,nS,nS,nS,nS,nS,nS,nS,nS,nS,nS,nS,nS]⟩,dk gd A n c a2])
 have hmR:Mm (own [⟨some g4,87,Z.cs⟩,⟨some g2,87,[nS,nS,nS,nS,.int .u16 0,nS,nS,nS,nS,nS,nS,nS,nS,nS,nS,nS,nS,nS]⟩,dk gd A n c a1]) _ [⟨some g4,87,Z.cs⟩,⟨some g2,87,[nS,nS,nS,nS,.int .u16 0,nS,nS,nS,nS,nS,nS,nS,nS,nS,nS,nS,nS,nS]⟩,dk gd A n c a2] w1:=hm.rebase.dkt rep_ k0 hf
 replace hZ2:=hZ.step hmR
 clear hm hmR hf k0 hZ
 have hm:=hm1
 clear hm1
 obtain⟨k0,hk0⟩:∃k0:Nat,3+(r0:Int)=(k0:Int):=⟨3+r0,by omega⟩
 refine gsce98_ ?_;clear hs hm a;intros;rename_i a hm hs
 refine cLoop (X:=RnX) (fun X a w'=>X.k≤18∧X.Z.r.p=p∧X.Z.inv wp (360000-20000*(X.k:Int)) [⟨some g4,87,X.Z.cs⟩,⟨some g2,87,[nS,nS,nS,nS,.int .u16 0,nS,nS,nS,nS,nS,nS,nS,nS,nS,nS,nS,nS,nS]⟩,dk gd A n c X.a] w'∧Sl Tryz.f30.ntmps [(0,pt gd),(2,pt g2),(4,pt g4),(6,.int .i64 (X.k:Int))] a∧Mm (own [dk gd A n c at_]) wB [⟨some g4,87,X.Z.cs⟩,⟨some g2,87,[nS,nS,nS,nS,.int .u16 0,nS,nS,nS,nS,nS,nS,nS,nS,nS,nS,nS,nS,nS]⟩,dk gd A n c X.a] w') (fun X=>X.k) ⟨k0,a2,Z⟩ ⟨by dsimp only;omega,hZp,hZ2.up (by dsimp only;omega),(sb_ hs),hm⟩ ?_
 clear hs hm a hZ2 hZp hp1 hmB hk0
 rintro⟨k,a1,Z⟩ a w' ⟨hk,hZp,hZ,hs,hmB⟩
 dsimp only at hk hZp hZ hs hmB
 have hmX:=hmB.rebase
 by_cases hk1:0<k
 ·obtain⟨k,rfl⟩:∃j,k=j+1:=⟨k-1,by omega⟩
  have hm:=hmX
  unfold RV.cs RD.cs at hm
  refine gsce98_ ?_;clear hs hm a;intros;rename_i a hm hs
  refine cMid (fun a w=>∃(f:Nat→Option Addr × Nat × Nat)(kk e:Int)(g7 a2:Nat),Sl Tryz.f30.ntmps [(0,pt gd),(2,pt g2),(4,pt g4),(6,.int .i64 ((k+1:Nat):Int)),(7,pt g7),(8,.int .i64 e)] a∧Z.inv wp 400000 [⟨some g7,87,runV f kk⟩,⟨some g4,87,Z.cs⟩,⟨some g2,87,[nS,nS,nS,nS,.int .u16 0,nS,nS,nS,nS,nS,nS,nS,nS,nS,nS,nS,nS,nS]⟩,dk gd A n c a2] w∧(e=0→∃y:RV,y.cs=runV f kk∧y.r.p=p∧y.inv wp (360000-20000*(k:Int)) [⟨some g7,87,runV f kk⟩,⟨some g4,87,Z.cs⟩,⟨some g2,87,[nS,nS,nS,nS,.int .u16 0,nS,nS,nS,nS,nS,nS,nS,nS,nS,nS,nS,nS,nS]⟩,dk gd A n c a2] w)∧Mm (own [dk gd A n c at_]) wB [⟨some g7,87,runV f kk⟩,⟨some g4,87,Z.cs⟩,⟨some g2,87,[nS,nS,nS,nS,.int .u16 0,nS,nS,nS,nS,nS,nS,nS,nS,nS,nS,nS,nS,nS]⟩,dk gd A n c a2] w) ?_ ?_
  ·with_reducible repeat(first|apply gThen|apply wp_seq)
   refine cDrawT (n:=10) (.s [0,1]<| .e [(2,.x<| .e [(3,.x<| .s [4,5,6]<| .o 7<| .o 8<| .t 9<| .d),(7,.o 3<| .x<| .s [4,5,6]<| .o 8<| .t 9<| .d)]),(7,.o 2<| .x<| .o 3<| .x<| .s [4,5,6]<| .o 8<| .t 9<| .d)]) [⟨some g4,87,(Z.r.p.cl (Z.r.y.cl (slv Z.r.y.tA Z.r.y.ts.length Z.r.y.tc::Z.r.o.cl (Z.r.o.f.cl [.slice Z.r.o.us.A Z.r.o.us.us.length Z.r.o.us.c,.slice Z.r.k.o.A Z.r.k.o.n Z.r.k.o.c,.slice Z.r.k.qA Z.r.k.qs.length Z.r.k.qc,.slice Z.eA Z.n Z.ec,.slice Z.jA 4 Z.jd]))))⟩] hm rfl rfl ?_
   clear hm;intro t_ w1_ hm
   repeat' (first|(refine dg9546_ ?_;clear t_ hs hm a;intros;rename_i a hm hs t_)|refine tE t_ ?_|refine tC ?_ ?_|exact tN|intro t_|(refine oDo (i:=2) hs rfl (Wnt.none rfl) rfl rfl (by exact d_call hs rfl rfl rfl (pl 53 rfl) ((cho_c gd A n c _ xs _ (h.now (hmB.trans hm) mem_)))) ?_;clear hs;rintro _ w3 ⟨th,br,sg,rfl,a2,k2,hf⟩ a hs;(replace hm:=hm.dkt rep_ k2 hf);(clear hf);replace t_:=tX t_;refine⟨(hm.sub sub_),?_⟩)|(refine oDo (i:=3) hs rfl (Wnt.none rfl) rfl rfl (by exact d_call hs rfl rfl rfl (pl 52 rfl) ((next_c wp _ Z _ th br sg _ hm.rebase (hZ.step hm) (by omega)))) ?_;clear hs;rintro _ w4 ⟨f,kk,e,rfl,hM',hv⟩ a hs;(replace hm:=hm.trans hM');(clear hM');(unfold runV at hs);replace t_:=tX t_;refine⟨(hm.sub sub_),?_⟩;(refine hRebase hm ?_);(have hZ4:=hZ.step hm);(have hmC:=hmB.trans hm);(have hm1:=hm.rebase);(clear hm);(have hm:=hm1);(clear hm1))|(refine tD t_ ?_;(obtain⟨g7,rfl⟩:=hs.pp 7);(exact And.intro rfl ⟨f,kk,e,g7,_,(sb_ hs),(hZ4.step hm).up (by omega),(fun he=>by obtain⟨y,hy1,hy2,hy3⟩:=hv he;exact⟨y,hy1,hy3.trans hZp,(hy2.step hm).up (by omega)⟩),hmC.trans hm⟩))|fail)
  clear hs hm hmX hmB hZ a
  rintro a w ⟨f,kk,e,g7,a2,hs,hZ,hv,hmB⟩
  have hm:=hmB.rebase
  unfold RV.cs RD.cs runV at hm
  by_cases he:e=0
  ·obtain⟨y,hy1,hy3,hy2⟩:=hv he
   refine gsce98_ ?_;clear hs hm a;intros;rename_i a hm hs
   refine⟨⟨k,a2,y⟩,by dsimp only;omega,by dsimp only;omega,hy3,?_,(sb_ hs),?_⟩
   ·dsimp only
    rw[hy1]
    exact(hy2.step hm).sub (List.Sublist.cons _ (List.Sublist.refl _))
   ·dsimp only
    rw[hy1]
    exact(hmB.trans hm).sub (List.Sublist.cons _ (List.Sublist.refl _))
  ·refine gsce98_ ?_;clear hs hm a;intros;rename_i a hm hs
   exact gRetN tab hs rfl (.cons (.cells rfl rfl rfl rfl (hm.ro (k:=0) (n:=18) (g:=g2) mem_ (cutF_ok rfl))) .nil) ⟨hb,Z,a2,wp,rfl,by rw[hZp];exact hhb,(hZ.step hm).sub (List.Sublist.cons _ (List.Sublist.cons _ (List.Sublist.cons _ (List.Sublist.refl _)))),by rw[hZp];exact hbw,hpB,(hmB.trans hm).sub (List.Sublist.cons _ (List.Sublist.cons _ (List.Sublist.cons _ (List.Sublist.refl _))))⟩
 ·obtain rfl:k=0:=by omega
  have hm:=hmX
  unfold RV.cs RD.cs at hm
  refine gsce98_ ?_;clear hs hm a;intros;rename_i a hm hs
  exact gRetN tab hs rfl (.cons (.cells rfl rfl rfl rfl (hm.ro (k:=0) (n:=18) (g:=g2) mem_ (cutF_ok rfl))) .nil) ⟨hb,Z,a1,wp,rfl,by rw[hZp];exact hhb,((hZ.step hm).up (by omega)).sub (List.Sublist.cons _ (List.Sublist.cons _ (List.Sublist.refl _))),by rw[hZp];exact hbw,hpB,(hmB.trans hm).sub (List.Sublist.cons _ (List.Sublist.cons _ (List.Sublist.refl _)))⟩
theorem dgSij0_{G H:Prop}(k:H)(s:Bx H→G:=by intro k_;(repeat(first|(refine tTake t_ hs rfl (by kernel_rfl) gw_ rfl rfl (by intro w hm;replace hm:Mm _ _ _ w:=hm;(first|exact kvR_|exact r_loadO hs rfl rfl tab rfl rfl rfl hm (by repeat(first|exact mH|apply mT)) (by assumption))) (hm.sub sub_) ?_;(try clear t_ hs a);intro t_ a hs)|(refine tTakeN t_ hs rfl (by kernel_rfl) rfl rfl rfl rfl rfl rfl rfl (hm.sub sub_) ?_;(try clear t_ hs a);intro t_ a hs)|(refine tTakeU t_ hs rfl (by kernel_rfl) rfl rfl rfl rfl rfl rfl (hm.sub sub_) ?_;(try clear t_ hs a);intro t_ a hs)|(refine tE1 t_ ?_;(try clear t_);intro t_)|(refine nx_ t_ rfl ?_;have t_:=t_;first|(refine oDo hs rfl gw_ rfl rfl da_ ?_;(try clear hs hm a);rintro _ w_ ⟨g_,rfl,-,hm⟩ a hs;refine⟨(hm.sub sub_),?_⟩)|(refine oDoN hs rfl gw_ rfl ds_ ?_;(try clear hs hm a);rintro-w_ hm a hs;refine⟨(hm.sub sub_),?_⟩)|(refine oDoV hs rfl gw_ rfl rfl (by(first|exact klR_|exact r_loadO hs rfl rfl tab rfl rfl rfl hm (by repeat(first|exact mH|apply mT)) (by assumption))) ?_;(try clear hs a);intro a hs;refine⟨(hm.sub sub_),?_⟩))));have y_:=t_;clear t_;(first|(have m_:=hm;have s_:=hs;have z_:=y_;clear hs;(try clear hm);revert m_ s_ z_ a)|((first|refine rexd_ hs hm ?_|refine rexb_ hs hm ?_);intro a hm hs;have z_:=y_;revert hm hs z_ a));(try revert w_);(repeat revert g_);exact k_.h):G:=s ⟨k⟩
structure RgX where
 rs:List CO
 qA:Option Nat
 qc:Nat
 qcs:List Value
structure RcX where
 xs:List CN
 A:Option Nat
 c:Nat
 cs:List Value
theorem cns_snoc(xs:List CN)(q:CN):cns xs++q.cs=cns (xs++[q]):=by unfold cns;rw[List.flatMap_append,List.flatMap_singleton]
structure RgOk(rs:List (List CN))(ss:List Int):Prop where
 n:rs.length≤ss.length
 l:∀k (h:k<rs.length) (h':k<ss.length),((rs[k]).length:Int)=ss[k]
 v:∀r∈rs,∀c∈r,c.val
theorem RgOk.snoc{rs:List (List CN)}{ss:List Int}{r:List CN}(h:RgOk rs ss)(hl:rs.length<ss.length)(hr:(r.length:Int)=ss[rs.length])(hv:∀c∈r,c.val):RgOk (rs++[r]) ss:=⟨by rw[List.length_append,List.length_singleton];omega,fun k h1 h2=>by
 rw[List.getElem_append]
 split
 ·exact h.l k _ h2
 ·have hk:k=rs.length:=by rw[List.length_append,List.length_singleton]at h1;omega
  subst hk
  simpa using hr,fun x hx=>by
 rcases List.mem_append.1 hx with hx|hx
 ·exact h.v x hx
 ·rcases List.mem_singleton.1 hx with rfl;exact hv⟩
theorem regs_c [HB](p:PV)(z:MO)(B:Int)(wB:World)(hp:p.ok wB)(hpv:p.val)(hz:z.mv.ok wB)(hv:z.d.val p.ss B):Ret Tryz.prog 54 [.agg #[slv z.m.cA z.m.xs.length z.m.cc,slv z.m.lA z.m.ls.length z.m.lc],.agg #[slv z.bA z.bs.length z.bc,.int .u16 z.key],.slice p.sA p.ss.length p.sc] wB (fun u w'=>∃(rs:List CO)(qA:Option Nat)(qc:Nat)(qcs:List Value),u=slv qA rs.length qc∧Row qA rs.length qc 1 (rs.map CO.v) qcs∧(∀r∈rs,r.ok)∧rs.length=p.ss.length∧RgOk (rs.map CO.xs) p.ss∧New wB w' (⟨qA,93,qcs⟩::rs.map CO.hp)∧Pu wB w'):=by
 have hX:=lsX_ok hp hpv hz (by rw[MO.mv_d];exact hv)
 have hXl:=lsX_l (p:=p) (x:=z.mv) (B:=B) (by rw[MO.mv_d];exact hv)
 have klk:=fun(w'':World) (hf:Pu wB w'') (a:Nat) (ha:a<512)=>lookz_c z p.ss B a w'' (hz.pu hf) hv ha
 have kcn:=fun(w'':World) (hf:Pu wB w'') (c:CV) (hc:c.val)=>cann_c (lsX p z.mv) c w'' (hX.pu hf) hc
 have kcv:=fun(c:CV) (hc:c.val)=>(canN_val hX hc).1
 rw[hXl,lsX_s]at kcn
 generalize lsX p z.mv=XX at kcn kcv
 have hg:=hv.gap
 have hz1:=hpv.sz
 have hzb:=hz.b
 have hs':=hp.s
 have h1:=hz1.one
 have h4:=hz1.four
 obtain⟨bA,bc,bcs,bs,key,m,tA,tc,tcs,ts⟩:=z
 obtain⟨cA,cc,code,sA,sc,ss,dA,dc,ws⟩:=p
 unfold MO.mv MO.d at*
 dsimp only at*
 have hbl:=hg.len
 clear hX hXl hz hv hpv hp
 obtain⟨gb,o1,hbA,hbb,rB⟩:=hzb.ro (by rw[ints_len];omega)
 obtain⟨rfl,rfl⟩:bA=some gb∧0=o1:=by
  cases bA with
  |none=>simp[ad]at hbA
  |some g=>simpa[ad]using hbA
 obtain⟨b2,o2,rfl,hb2,rS⟩:=hs'.ro (by rw[ints_len];omega)
 unfold slv at*
 unfold ad at*
 simp only[Option.map_some]at*
 refine enterR Tryz.func54 rfl rfl rfl fun a hs hm=>?_
 refine gsce98_ ?_;clear hs hm a;intros;rename_i a hm hs
 obtain⟨g3,rfl⟩:=hs.pp 3
 obtain⟨g4,rfl⟩:=hs.pp 4
 replace hm:=hm.zero 93
 refine cLoop (X:=RgX) (fun X a w'=>X.rs.length≤ss.length∧Sl Tryz.f54.ntmps [(2,.slice (some ⟨b2,o2,none⟩) ss.length sc),(3,pt g3),(4,pt g4),(7,slv X.qA X.rs.length X.qc),(12,.slice (some ⟨b2,o2,none⟩) ss.length sc),(13,.int .i64 (ss.length:Int)),(14,.int .i64 (X.rs.length:Int))] a∧Mm (fun _=>False) wB ([⟨X.qA,93,X.qcs⟩,⟨some g4,25,[.slice (some ⟨gb,0,none⟩) bs.length bc,.int .u16 key]⟩,⟨some g3,29,[slv m.cA m.xs.length m.cc,slv m.lA m.ls.length m.lc]⟩]++X.rs.map CO.hp) w'∧Row X.qA X.rs.length X.qc 1 (X.rs.map CO.v) X.qcs∧(∀r∈X.rs,r.ok)∧RgOk (X.rs.map CO.xs) ss) (fun X=>ss.length-X.rs.length) ⟨[],none,0,[]⟩ ⟨Nat.zero_le _,(sb_ hs),hm,Row.empty 1,(fun r hr=>by cases hr),⟨Nat.zero_le _,(fun k h=>by cases h),(fun r hr=>by cases hr)⟩⟩ ?_
 clear hs hm a
 rintro⟨rs,qA,qc,qcs⟩ a w' ⟨hlen,hs,hm,hqr,hok,hrg⟩
 dsimp only at hlen hs hm hqr hok hrg
 by_cases hlt:rs.length<ss.length
 ·have e2:=ints_some (xs:=ss) (k:=rs.length) hlt
  have e1:=ints_some (xs:=bs) (k:=rs.length) (by omega)
  have hgb:=hg.b rs.length (by omega)
  have hsk:=hz1.bd _ (List.getElem_mem hlt)
  rw[getI (l:=bs) (k:=rs.length) (by omega),getI (l:=ss) (k:=rs.length) hlt]at hgb
  obtain⟨sk,hske⟩:∃sk,ss[rs.length]=sk:=⟨_,rfl⟩
  rw[hske]at e2 hgb hsk
  generalize bs[rs.length]'_=bk at e1 hgb
  refine gsce98_ ?_;clear hs hm a;intros;rename_i a hm hs
  replace hm:=hm.zero 95
  refine cLoop (X:=RcX) (fun X a w'=>(X.xs.length:Int)≤sk∧Sl Tryz.f54.ntmps [(2,.slice (some ⟨b2,o2,none⟩) ss.length sc),(3,pt g3),(4,pt g4),(7,slv qA rs.length qc),(12,.slice (some ⟨b2,o2,none⟩) ss.length sc),(13,.int .i64 (ss.length:Int)),(14,.int .i64 (rs.length:Int)),(8,.int .i64 (rs.length:Int)),(10,slv X.A X.xs.length X.c),(19,.int .i64 sk),(20,.int .i64 (X.xs.length:Int))] a∧Mm (fun _=>False) wB (⟨X.A,95,X.cs⟩::([⟨qA,93,qcs⟩,⟨some g4,25,[.slice (some ⟨gb,0,none⟩) bs.length bc,.int .u16 key]⟩,⟨some g3,29,[slv m.cA m.xs.length m.cc,slv m.lA m.ls.length m.lc]⟩]++rs.map CO.hp)) w'∧Row X.A X.xs.length X.c 4 (cns X.xs) X.cs∧(∀c∈X.xs,c.val)) (fun X=>32-X.xs.length) ⟨[],none,0,[]⟩ ⟨by dsimp only;rw[List.length_nil];omega,(sb_ hs),hm,Row.empty 4,(fun c hc=>by cases hc)⟩ ?_
  clear hs hm a
  rintro⟨xs,A,c,cs⟩ a w' ⟨hxl,hs,hm,hr,hxv⟩
  dsimp only at hxl hs hm hr hxv
  by_cases hlt2:(xs.length:Int)<sk
  ·obtain⟨ad1,had⟩:∃ad1:Nat,bk+(xs.length:Int)=(ad1:Int):=⟨(bk+(xs.length:Int)).toNat,by omega⟩
   have had5:ad1<512:=by omega
   refine gsce98_ ?_;clear hs hm a;intros;rename_i a hm hs
   refine cMid (fun a w=>∃(q:CN)(A':Option Nat)(c':Nat)(cs':List Value),q.val∧Row A' (xs.length+1) c' 4 (cns xs++q.cs) cs'∧Sl Tryz.f54.ntmps [(2,.slice (some ⟨b2,o2,none⟩) ss.length sc),(3,pt g3),(4,pt g4),(7,slv qA rs.length qc),(12,.slice (some ⟨b2,o2,none⟩) ss.length sc),(13,.int .i64 (ss.length:Int)),(14,.int .i64 (rs.length:Int)),(8,.int .i64 (rs.length:Int)),(10,slv A' (xs.length+1) c'),(19,.int .i64 sk),(20,.int .i64 (xs.length:Int))] a∧Mm (fun _=>False) wB (⟨A',95,cs'⟩::([⟨qA,93,qcs⟩,⟨some g4,25,[.slice (some ⟨gb,0,none⟩) bs.length bc,.int .u16 key]⟩,⟨some g3,29,[slv m.cA m.xs.length m.cc,slv m.lA m.ls.length m.lc]⟩]++rs.map CO.hp)) w) ?_ ?_
   ·with_reducible repeat(first|apply gThen|apply wp_seq)
    refine cDrawT (n:=16) (.s [0,1,2,3,4,5,6,7,8,9,10]<| .o 11<| .x<| .o 12<| .x<| .o 13<| .o 14<| .x<| .t 15<| .d) [⟨some g4,25,[.slice (some ⟨gb,0,none⟩) bs.length bc,.int .u16 key]⟩,⟨some g3,29,[slv m.cA m.xs.length m.cc,slv m.lA m.ls.length m.lc]⟩] hm rfl rfl ?_
    clear hm;intro t_ w1_ hm
    repeat' (first|(refine dgSij0_ ?_;clear t_ hs hm a;intros;rename_i a hm hs t_)|refine tE t_ ?_|refine tC ?_ ?_|exact tN|intro t_|(refine oDo (i:=11) hs rfl (Wnt.none rfl) rfl rfl (by exact d_call hs rfl rfl rfl (pl 94 rfl) ((klk _ hm.fr ad1 had5))) ?_;clear hs;rintro _ w1 ⟨cv,rfl,hcv,hf⟩ a hs;(replace hm:=hm.pu hf);(clear hf);replace t_:=tX t_;refine⟨(hm.sub sub_),?_⟩)|(refine oDo (i:=12) hs rfl (Wnt.none rfl) rfl rfl (by exact d_call hs rfl rfl rfl (pl 55 rfl) ((kcn _ hm.fr cv hcv))) ?_;clear hs;rintro _ w1 ⟨rfl,hf⟩ a hs;(replace hm:=hm.pu hf);(clear hf);(have hqv:=kcv cv hcv);(generalize canN XX cv=q at hs hqv);replace t_:=tX t_;refine⟨(hm.sub sub_),?_⟩)|(refine oDo (i:=14) hs rfl (Wnt.none rfl) rfl rfl (by exact d_append (A:=A) (n:=xs.length) (c:=c) (news:=q.cs) hs rfl rfl rfl rfl rfl tab rfl rfl rfl rfl rfl hm mem_ hr rfl (hm.ro (n:=4) (vs:=q.cs) mem_ (cutF_ok rfl)) rfl (by show(xs.length+1)*24≤_;omega) (by omega)) ?_;clear hs;rintro _ w1 ⟨A',c',cs',rfl,hr',hM'⟩ a hs;(replace hm:=hM' _ rep_);(clear hM');replace t_:=tX t_;refine⟨(hm.sub sub_),?_⟩)|(refine tD t_ ?_;(exact And.intro rfl ⟨q,A',c',cs',hqv,hr',(sb_ hs),hm.sub sub_⟩))|fail)
   clear hs hm a
   rintro a w ⟨q,A',c',cs',hqv,hr',hs,hm⟩
   rw[cns_snoc]at hr'
   refine gsce98_ ?_;clear hs hm a;intros;rename_i a hm hs
   refine⟨⟨xs++[q],A',c',cs'⟩,by dsimp only;rw[List.length_append,List.length_singleton];omega,by dsimp only;rw[List.length_append,List.length_singleton];omega,?_,hm,?_,fun x hx=>?_⟩
   ·dsimp only
    rw[List.length_append,List.length_singleton]
    exact(sb_ hs)
   ·dsimp only
    rw[List.length_append,List.length_singleton]
    exact hr'
   ·rcases List.mem_append.1 hx with hx|hx
    ·exact hxv x hx
    ·rcases List.mem_singleton.1 hx with rfl;exact hqv
  ·have hxe:(xs.length:Int)=sk:=by omega
   obtain⟨r,hre⟩:∃r:CO,r=⟨A,c,cs,xs⟩:=⟨_,rfl⟩
   have hrv:r.v=slv A xs.length c:=by rw[hre];rfl
   have hrh:r.hp=⟨A,95,cs⟩:=by rw[hre];rfl
   have hro:r.ok:=by rw[hre];exact hr
   have hrx:r.xs=xs:=by rw[hre]
   refine gsce98_ ?_;clear hs hm a;intros;rename_i a hm hs
   refine dv hs (Wnt.none rfl) rfl rfl (d_append (A:=qA) (n:=rs.length) (c:=qc) (news:=[slv A xs.length c]) hs rfl rfl rfl rfl rfl tab rfl rfl rfl rfl rfl hm mem_ hqr rfl (hm.ro (n:=1) mem_ (cutF_ok rfl)) rfl (by show(rs.length+1)*24≤_;omega) (by omega)) ?_
   clear hs
   rintro _ w4 ⟨qA2,qc2,qcs2,rfl,hqr2,hM⟩ a hs
   replace hm:=hM _ rep_
   clear hM
   rw[←hrv,CO.snoc]at hqr2
   refine gsce98_ ?_;clear hs hm a;intros;rename_i a hm hs
   rw[←hrh]at hm
   refine⟨⟨rs++[r],qA2,qc2,qcs2⟩,by dsimp only;rw[List.length_append,List.length_singleton];omega,by dsimp only;rw[List.length_append,List.length_singleton];omega,?_,?_,?_,fun x hx=>?_,?_⟩
   ·dsimp only
    rw[List.length_append,List.length_singleton]
    exact(sb_ hs)
   ·dsimp only
    exact CO.perm (hm.sub (List.Sublist.cons _ (List.Sublist.refl _)))
   ·dsimp only
    rw[List.length_append,List.length_singleton]
    exact hqr2
   ·rcases List.mem_append.1 hx with hx|hx
    ·exact hok x hx
    ·rcases List.mem_singleton.1 hx with rfl;exact hro
   ·dsimp only
    rw[List.map_append,List.map_singleton,hrx]
    exact hrg.snoc (by rw[List.length_map];exact hlt) (by rw[hxe,←hske];simp only[List.length_map]) hxv
 ·have hln:rs.length=ss.length:=by omega
  refine gsce98_ ?_;clear hs hm a;intros;rename_i a hm hs
  exact gRet1 hs rfl rfl ⟨rs,qA,qc,qcs,rfl,hqr,hok,hln,hrg,hm.new (List.Sublist.cons_cons _ (List.Sublist.cons _ (List.Sublist.cons _ (List.Sublist.refl _)))),hm.fr⟩
theorem dgSik0_{G H:Prop}(k:H)(s:Bx H→G:=by intro k_;(repeat(first|(refine tTakeB false t_ hs rfl (by kernel_rfl) (by kernel_rfl) gw_ rfl rfl (by intro w _;(first|exact kvR_|exact r_loadO hs rfl rfl tab rfl rfl rfl hm (by repeat(first|exact mH|apply mT)) (by assumption))) bu_ ?_;(try clear t_ hs a);intro t_ a hs)|(refine tTakeB true t_ hs rfl (by kernel_rfl) (by kernel_rfl) gw_ rfl rfl (by intro w hm;replace hm:Mm _ _ _ w:=hm rfl;(first|exact klR_|exact r_loadO hs rfl rfl tab rfl rfl rfl hm (by repeat(first|exact mH|apply mT)) (by assumption))) bu_ ?_;(try clear t_ hs a);intro t_ a hs)|(refine tE1B t_ ?_;(try clear t_);intro t_)|(refine nx_ t_ rfl ?_;have t_:=t_;first|(refine oDoB hs rfl gw_ rfl rfl da_ ?_;(try clear hs hm a);rintro _ w_ ⟨g_,rfl,-,hm⟩ a hs;refine⟨bu_,?_⟩)|(refine oDoNB hs rfl gw_ rfl ds_ ?_;(try clear hs hm a);rintro-w_ hm a hs;refine⟨bu_,?_⟩)|(refine oDoVB hs rfl gw_ rfl rfl (by(first|exact klR_|exact r_loadO hs rfl rfl tab rfl rfl rfl hm (by repeat(first|exact mH|apply mT)) (by assumption))) ?_;(try clear hs a);intro a hs;refine⟨bu_,?_⟩))));have y_:=t_;clear t_;(first|(have m_:=hm;have s_:=hs;have z_:=y_;clear hs;(try clear hm);revert m_ s_ z_ a)|((first|refine rexd_ hs hm ?_|refine rexb_ hs hm ?_);intro a hm hs;have z_:=y_;revert hm hs z_ a));(try revert w_);(repeat revert g_);exact k_.h):G:=s ⟨k⟩
structure VwD where
 st:Int
 pc:Int
 cnt:Int
 han:Int
 sav:Int
 trp:Int
 cod:Int
structure VwO where
 d:VwD
 r:CO
def VwO.v(x:VwO):List Value:=[.int .i64 x.d.st,.int .i64 x.d.pc,.int .i64 x.d.cnt,.int .i64 x.d.han,.int .i64 x.d.sav,.int .i64 x.d.trp,.int .u16 x.d.cod,slv x.r.A x.r.xs.length x.r.c]
theorem VwO.len(x:VwO):x.v.length=8:=rfl
def VwO.hp(x:VwO):Hp:=x.r.hp
structure VwD.val [HB](x:VwD)(B:Int):Prop where
 st:0≤x.st∧x.st≤4
 pc:0≤x.pc∧x.pc≤255
 cnt:0≤x.cnt∧x.cnt≤B
 han:-1≤x.han∧x.han≤HB.h
 sav:-1≤x.sav∧x.sav≤255
 trp:0≤x.trp∧x.trp≤6
 cod:0≤x.cod∧x.cod≤65535
structure VwO.val [HB](x:VwO)(B:Int):Prop where
 d:x.d.val B
 n:x.r.xs.length=8
 v:∀c∈x.r.xs,c.val
theorem VwO.snoc(l:List VwO)(x:VwO):l.flatMap VwO.v++x.v=(l++[x]).flatMap VwO.v:=by rw[List.flatMap_append,List.flatMap_singleton]
theorem VwO.perm{S:Nat→Prop}{w0 w:World}{L:List Hp}{rs:List VwO}{r:VwO}(hm:Mm S w0 (r.hp::(L++rs.map VwO.hp)) w):Mm S w0 (L++(rs++[r]).map VwO.hp) w:=by
 rw[List.map_append,List.map_singleton,←List.append_assoc]
 exact hm.perm List.perm_append_comm
structure SO where
 qA:Option Nat
 qc:Nat
 qcs:List Value
 rs:List CO
 tA:Option Nat
 tc:Nat
 tcs:List Value
 ts:List VwO
def SO.v(x:SO):Value:= .agg #[slv x.qA x.rs.length x.qc,slv x.tA x.ts.length x.tc]
def SO.hps(x:SO):List Hp:=⟨x.tA,98,x.tcs⟩::((⟨x.qA,93,x.qcs⟩::x.rs.map CO.hp)++x.ts.map VwO.hp)
structure SO.ok(x:SO):Prop where
 q:Row x.qA x.rs.length x.qc 1 (x.rs.map CO.v) x.qcs
 t:Row x.tA x.ts.length x.tc 8 (x.ts.flatMap VwO.v) x.tcs
 rr:∀r∈x.rs,r.ok
 tt:∀r∈x.ts,r.r.ok
structure SO.val [HB](x:SO)(ss:List Int)(B:Int):Prop where
 n:x.rs.length=ss.length
 r:RgOk (x.rs.map CO.xs) ss
 tn:x.ts.length=4
 t:∀r∈x.ts,r.val B
structure StX where
 ts:List VwO
 tA:Option Nat
 tc:Nat
 tcs:List Value
theorem state_c [HB](p:PV)(z:MO)(B:Int)(wB:World)(hp:p.ok wB)(hpv:p.val)(hz:z.mv.ok wB)(hzo:z.ok)(hv:z.d.val p.ss B):Ret Tryz.prog 31 [p.v,z.v] wB (fun u w'=>∃y:SO,u=y.v∧y.ok∧y.val p.ss B∧New wB w' y.hps∧Pu wB w'):=by
 have hX:=lsX_ok hp hpv hz (by rw[MO.mv_d];exact hv)
 have hXl:=lsX_l (p:=p) (x:=z.mv) (B:=B) (by rw[MO.mv_d];exact hv)
 have kcn:=fun(w'':World) (hf:Pu wB w'') (c:CV) (hc:c.val)=>cann_c (lsX p z.mv) c w'' (hX.pu hf) hc
 have kcv:=fun(c:CV) (hc:c.val)=>(canN_val hX hc).1
 have hXl2:(lsX p z.mv).l= .agg #[slv z.bA z.bs.length z.bc,.int .u16 z.key]:=hXl
 rw[hXl2,lsX_s]at kcn
 generalize lsX p z.mv=XX at kcn kcv
 clear hX hXl hXl2
 have krg:=fun(w'':World) (hf:Pu wB w'')=>regs_c p z B w'' (hp.pu hf) hpv (hz.pu hf) hv
 have h4:z.ts.length=4:=by have:=hv.t;rwa[MO.d_len]at this
 obtain⟨gt,hgt⟩:=hzo.t.some_ (by omega)
 unfold PV.v MO.v
 rw[hgt,h4]
 refine enterR Tryz.func31 rfl rfl rfl fun a hs hm=>?_
 refine gsce98_ ?_;clear hs hm a;intros;rename_i a hm hs
 refine st hs rfl rfl rfl (d_call hs rfl rfl rfl (pl 54 rfl) ((krg _ hm.fr))) ?_;clear hs a;rintro _ w1 ⟨rs,qA,qc,qcs,rfl,hqr,hqo,hql,hrg,hN,hf⟩ a hs
 replace hm:=gainE hm hf hN
 clear hN hf krg
 simp only[List.cons_append,List.nil_append]at hm
 refine gsce98_ ?_;clear hs hm a;intros;rename_i a hm hs
 obtain⟨g2,rfl⟩:=hs.pp 2
 obtain⟨g3,rfl⟩:=hs.pp 3
 obtain⟨g4,rfl⟩:=hs.pp 4
 obtain⟨g5,rfl⟩:=hs.pp 5
 replace hm:=(hm.zero 98).perm (List.Perm.swap _ _ _)
 refine cLoop (X:=StX) (fun X a w'=>X.ts.length≤4∧Sl Tryz.f31.ntmps [(2,pt g2),(3,pt g3),(4,pt g4),(5,pt g5),(20,slv (some gt) 4 z.tc),(21,.int .i64 ((4:Nat):Int)),(22,.int .i64 (X.ts.length:Int))] a∧Mm (fun _=>False) wB (⟨some g5,91,[slv qA rs.length qc,slv X.tA X.ts.length X.tc]⟩::⟨X.tA,98,X.tcs⟩::⟨some g4,91,[nS,nS]⟩::⟨some g3,32,(z.cl [slv (some gt) 4 z.tc])⟩::⟨some g2,38,(p.cl [])⟩::((⟨qA,93,qcs⟩::rs.map CO.hp)++X.ts.map VwO.hp)) w'∧Row X.tA X.ts.length X.tc 8 (X.ts.flatMap VwO.v) X.tcs∧(∀r∈X.ts,r.r.ok)∧(∀r∈X.ts,r.val B)) (fun X=>4-X.ts.length) ⟨[],none,0,[]⟩ ⟨Nat.zero_le _,(sb_ hs),by rw[List.map_nil,List.append_nil];exact hm,Row.empty 8,(fun r hr=>by cases hr),(fun r hr=>by cases hr)⟩ ?_
 clear hs hm a
 rintro⟨ts,tA,tc,tcs⟩ a w' ⟨hlen,hs,hm,htr,hto,htv⟩
 dsimp only at hlen hs hm htr hto htv
 by_cases hlt:ts.length<4
 ·have r3:=MO.thr hz hgt (k:=ts.length) (by omega)
  have hqm:z.ts[ts.length]'(by omega)∈z.ts:=List.getElem_mem _
  have hqr3:=hz.tt _ (List.mem_map.2 ⟨_,hqm,rfl⟩)
  have hqv:=hv.tt _ (List.mem_map.2 ⟨_,hqm,rfl⟩)
  generalize z.ts[ts.length]'_=q at r3 hqr3 hqv
  clear hqm
  obtain⟨rA0,qrc,qrcs,⟨st,xs0,pc,cnt,han,sav,trp,cod⟩⟩:=q
  obtain⟨v1,v2,v3,v4,v5,v6,v7,v8,v9⟩:=hqv
  unfold ThO.tv at hqr3
  dsimp only at*
  obtain⟨qr,o5,hrA,hb5,r5⟩:=hqr3.ro (by rw[cvs_len];omega)
  obtain⟨rfl,rfl⟩:rA0=some qr∧0=o5:=by
   cases rA0 with
   |none=>simp[ad]at hrA
   |some g=>simpa[ad]using hrA
  unfold ThO.v slv at r3
  dsimp only[Option.map_some]at r3
  refine gsce98_ ?_;clear hs hm a;intros;rename_i a hm hs
  obtain⟨g8,rfl⟩:=hs.pp 8
  replace hm:=(hm.sub (List.Sublist.cons_cons _ (List.Sublist.cons _ (List.Sublist.refl _)))).zero 95
  refine cLoop (X:=RcX) (fun X a w'=>X.xs.length≤8∧Sl Tryz.f31.ntmps [(2,pt g2),(3,pt g3),(4,pt g4),(5,pt g5),(20,slv (some gt) 4 z.tc),(21,.int .i64 ((4:Nat):Int)),(22,.int .i64 (ts.length:Int)),(8,pt g8),(42,.slice (some ⟨qr,0,none⟩) xs0.length qrc),(43,.int .i64 (xs0.length:Int)),(44,.int .i64 (X.xs.length:Int))] a∧Mm (fun _=>False) wB (⟨X.A,95,X.cs⟩::⟨some g8,98,[.int .i64 st,.int .i64 pc,.int .i64 cnt,.int .i64 han,.int .i64 sav,.int .i64 trp,.int .u16 cod,slv X.A X.xs.length X.c]⟩::(⟨some g5,91,[slv qA rs.length qc,slv tA ts.length tc]⟩::⟨tA,98,tcs⟩::⟨some g4,91,[nS,nS]⟩::⟨some g3,32,(z.cl [slv (some gt) 4 z.tc])⟩::⟨some g2,38,(p.cl [])⟩::((⟨qA,93,qcs⟩::rs.map CO.hp)++ts.map VwO.hp))) w'∧Row X.A X.xs.length X.c 4 (cns X.xs) X.cs∧(∀c∈X.xs,c.val)) (fun X=>8-X.xs.length) ⟨[],none,0,[]⟩ ⟨Nat.zero_le _,(sb_ hs),hm,Row.empty 4,(fun c hc=>by cases hc)⟩ ?_
  clear hs hm a
  rintro⟨xs,A,c,cs⟩ a w' ⟨hxl,hs,hm,hr,hxv⟩
  dsimp only at hxl hs hm hr hxv
  by_cases hlt2:xs.length<8
  ·have r6:=r5.flat CV.cs_len (k:=xs.length) (by omega)
   have hcv:=v9 _ (List.getElem_mem (show xs.length<xs0.length by omega))
   generalize xs0[xs.length]'_=cv at r6 hcv
   unfold CV.cs at r6
   rw[Nat.zero_add]at r6
   clear r3 r5
   refine gsce98_ ?_;clear hs hm a;intros;rename_i a hm hs
   obtain⟨g10,rfl⟩:=hs.pp 10
   refine cMid (fun a w=>∃(q:CN)(A':Option Nat)(c':Nat)(cs':List Value),q.val∧Row A' (xs.length+1) c' 4 (cns xs++q.cs) cs'∧Sl Tryz.f31.ntmps [(2,pt g2),(3,pt g3),(4,pt g4),(5,pt g5),(20,slv (some gt) 4 z.tc),(21,.int .i64 ((4:Nat):Int)),(22,.int .i64 (ts.length:Int)),(8,pt g8),(42,.slice (some ⟨qr,0,none⟩) xs0.length qrc),(43,.int .i64 (xs0.length:Int)),(44,.int .i64 (xs.length:Int))] a∧Mm (fun _=>False) wB (⟨A',95,cs'⟩::⟨some g8,98,[.int .i64 st,.int .i64 pc,.int .i64 cnt,.int .i64 han,.int .i64 sav,.int .i64 trp,.int .u16 cod,slv A' (xs.length+1) c']⟩::(⟨some g5,91,[slv qA rs.length qc,slv tA ts.length tc]⟩::⟨tA,98,tcs⟩::⟨some g4,91,[nS,nS]⟩::⟨some g3,32,(z.cl [slv (some gt) 4 z.tc])⟩::⟨some g2,38,(p.cl [])⟩::((⟨qA,93,qcs⟩::rs.map CO.hp)++ts.map VwO.hp))) w) ?_ ?_
   ·with_reducible repeat(first|apply gThen|apply wp_seq)
    refine cDrawTB (n:=12) (.s [0,1,2,3,4,5,6]<| .o 7<| .x<| .o 8<| .o 9<| .x<| .t 10<| .o 11<| .d) 11 [⟨some g10,103,[.int .u8 cv.t,.int .u16 cv.v]⟩,⟨some g8,98,[.int .i64 st,.int .i64 pc,.int .i64 cnt,.int .i64 han,.int .i64 sav,.int .i64 trp,.int .u16 cod,slv A xs.length c]⟩,⟨some g3,32,(z.cl [slv (some gt) 4 z.tc])⟩,⟨some g2,38,(p.cl [])⟩] hm rfl rfl ?_
    clear hm;intro t_ w1_ hm
    repeat' (first|(refine dgSik0_ ?_;clear t_ hs hm a;intros;rename_i a hm hs t_)|refine tEB t_ ?_|refine tCB ?_ ?_|exact tNB|intro t_|(refine oDoB (i:=7) hs rfl (Wnt.none rfl) rfl rfl (by exact d_call hs rfl rfl rfl (pl 55 rfl) ((kcn _ hm.fr cv hcv))) ?_;clear hs;rintro _ w1 ⟨rfl,hf⟩ a hs;(replace hm:=hm.pu hf);(clear hf);(have hqv:=kcv cv hcv);(generalize canN XX cv=q at hs hqv);replace t_:=tX t_;refine⟨bu_,?_⟩)|(refine oDoB (i:=9) hs rfl (Wnt.none rfl) rfl rfl (by exact d_append (A:=A) (n:=xs.length) (c:=c) (news:=q.cs) hs rfl rfl rfl rfl rfl tab rfl rfl rfl rfl rfl hm mem_ hr rfl (hm.ro (n:=4) (vs:=q.cs) mem_ (cutF_ok rfl)) rfl (by show(xs.length+1)*24≤_;omega) (by omega)) ?_;clear hs;rintro _ w1 ⟨A',c',cs',rfl,hr',hM'⟩ a hs;(replace hm:=hM' _ rep_);(clear hM');replace t_:=tX t_;refine⟨bu_,?_⟩)|(refine tDB t_ ?_;(exact And.intro rfl ⟨q,A',c',cs',hqv,hr',(sb_ hs),hm.sub (List.Sublist.cons _ (List.Sublist.cons _ (List.Sublist.refl _)))⟩))|fail)
   clear hs hm a
   rintro a w ⟨q,A',c',cs',hqv,hr',hs,hm⟩
   rw[cns_snoc]at hr'
   refine gsce98_ ?_;clear hs hm a;intros;rename_i a hm hs
   refine⟨⟨xs++[q],A',c',cs'⟩,by dsimp only;rw[List.length_append,List.length_singleton];omega,by dsimp only;rw[List.length_append,List.length_singleton];omega,?_,?_,?_,fun x hx=>?_⟩
   ·dsimp only
    rw[List.length_append,List.length_singleton]
    exact(sb_ hs)
   ·dsimp only
    rw[List.length_append,List.length_singleton]
    exact hm
   ·dsimp only
    rw[List.length_append,List.length_singleton]
    exact hr'
   ·rcases List.mem_append.1 hx with hx|hx
    ·exact hxv x hx
    ·rcases List.mem_singleton.1 hx with rfl;exact hqv
  ·have hxe:xs.length=8:=by omega
   obtain⟨r,hre⟩:∃r:VwO,r=⟨⟨st,pc,cnt,han,sav,trp,cod⟩,⟨A,c,cs,xs⟩⟩:=⟨_,rfl⟩
   have hrv:r.v=[.int .i64 st,.int .i64 pc,.int .i64 cnt,.int .i64 han,.int .i64 sav,.int .i64 trp,.int .u16 cod,slv A xs.length c]:=by rw[hre];rfl
   have hrh:r.hp=⟨A,95,cs⟩:=by rw[hre];rfl
   have hro:r.r.ok:=by rw[hre];exact hr
   have hrd:r.val B:=by rw[hre];exact⟨⟨v1,v3,v4,v5,v6,v7,v8⟩,hxe,hxv⟩
   refine gsce98_ ?_;clear hs hm a;intros;rename_i a hm hs
   refine dv hs (Wnt.none rfl) rfl rfl (d_append (A:=tA) (n:=ts.length) (c:=tc) (news:=[.int .i64 st,.int .i64 pc,.int .i64 cnt,.int .i64 han,.int .i64 sav,.int .i64 trp,.int .u16 cod,slv A xs.length c]) hs rfl rfl rfl rfl rfl tab rfl rfl rfl rfl rfl hm mem_ htr rfl (hm.ro (n:=8) mem_ (cutF_ok rfl)) rfl (by show(ts.length+1)*80≤_;omega) (by omega)) ?_
   clear hs
   rintro _ w4 ⟨tA2,tc2,tcs2,rfl,htr2,hM⟩ a hs
   replace hm:=hM _ rep_
   clear hM
   rw[←hrv,VwO.snoc]at htr2
   refine gsce98_ ?_;clear hs hm a;intros;rename_i a hm hs
   rw[←hrh]at hm
   refine⟨⟨ts++[r],tA2,tc2,tcs2⟩,by dsimp only;rw[List.length_append,List.length_singleton];omega,by dsimp only;rw[List.length_append,List.length_singleton];omega,?_,?_,?_,fun x hx=>?_,fun x hx=>?_⟩
   ·dsimp only
    rw[List.length_append,List.length_singleton]
    exact(sb_ hs)
   ·dsimp only
    have hm2:=VwO.perm (L:=⟨some g5,91,[slv qA rs.length qc,slv tA2 (ts.length+1) tc2]⟩::⟨tA2,98,tcs2⟩::⟨some g4,91,[nS,nS]⟩::⟨some g3,32,(z.cl [slv (some gt) 4 z.tc])⟩::⟨some g2,38,(p.cl [])⟩::⟨qA,93,qcs⟩::rs.map CO.hp) (rs:=ts) (r:=r) (hm.sub (List.Sublist.cons _ (List.Sublist.cons_cons _ (List.Sublist.cons _ (List.Sublist.refl _)))))
    rw[List.length_append,List.length_singleton]
    exact hm2
   ·dsimp only
    rw[List.length_append,List.length_singleton]
    exact htr2
   ·rcases List.mem_append.1 hx with hx|hx
    ·exact hto x hx
    ·rcases List.mem_singleton.1 hx with rfl;exact hro
   ·rcases List.mem_append.1 hx with hx|hx
    ·exact htv x hx
    ·rcases List.mem_singleton.1 hx with rfl;exact hrd
 ·have hln:ts.length=4:=by omega
  refine gsce98_ ?_;clear hs hm a;intros;rename_i a hm hs
  exact gRetN tab hs rfl (.cons (.cells rfl rfl rfl rfl (hm.ro (k:=0) (n:=2) (g:=g4) mem_ (cutF_ok rfl))) .nil) ⟨⟨qA,qc,qcs,rs,tA,tc,tcs,ts⟩,rfl,⟨hqr,htr,hqo,hto⟩,⟨hql,hrg,hln,htv⟩,hm.new (List.Sublist.cons _ (List.Sublist.cons_cons _ (List.Sublist.cons _ (List.Sublist.cons _ (List.Sublist.cons _ (List.Sublist.refl _)))))),hm.fr⟩
theorem gcSil0_{G H:Prop}(k:H)(s:Bx H→G:=by intro k_;(repeat(first|(refine ovR_ ?_;(try clear hs a);intro a hs)|((with_reducible apply lCons);first|(refine dv hs gw_ rfl rfl da_ ?_;(try clear hs hm a);rintro _ w_ ⟨g_,rfl,-,hm⟩ a hs)|(refine stn hs rfl rfl ds_ ?_;(try clear hs hm a);rintro-w_ hm a hs))|refine sc_ ?_|((with_reducible apply lCons);first|(refine dvc hs hm gw_ rfl rfl rfl rfl rfl (pl 96 rfl) (kc _ hm.fr) ?_;(try clear hs hm a);intro w_ hm a hs))));(first|(have m_:=hm;have s_:=hs;clear hs;(try clear hm);revert m_ s_ a)|((first|refine rexc_ hs hm ?_|refine rexl_ hs hm ?_|refine rexg_ hs hm ?_|refine rexq_ hs hm ?_);intro a hm hs;revert hm hs a));(try revert w_);(repeat revert g_);exact k_.h):G:=s ⟨k⟩
theorem gpSil1_{G H:Prop}(k:H)(s:Bx H→G:=by intro k_;(repeat(first|(refine ovR_ ?_;(try clear hs a);intro a hs)|((with_reducible apply lCons);first|(refine dv hs gw_ rfl rfl da_ ?_;(try clear hs hm a);rintro _ w_ ⟨g_,rfl,-,hm⟩ a hs)|(refine stn hs rfl rfl ds_ ?_;(try clear hs hm a);rintro-w_ hm a hs))|refine sc_ ?_));have m_:=hm;have s_:=hs;clear hs;(try clear hm);revert m_ s_ a;(try revert w_);(repeat revert g_);exact k_.h):G:=s ⟨k⟩
structure VwV where
 d:VwD
 r:CnS
def VwV.v(x:VwV):List Value:=[.int .i64 x.d.st,.int .i64 x.d.pc,.int .i64 x.d.cnt,.int .i64 x.d.han,.int .i64 x.d.sav,.int .i64 x.d.trp,.int .u16 x.d.cod,.slice x.r.A x.r.xs.length x.r.c]
theorem VwV.len(x:VwV):x.v.length=8:=rfl
structure VwV.val [HB](x:VwV)(B:Int):Prop where
 d:x.d.val B
 n:x.r.xs.length=8
 v:∀c∈x.r.xs,c.val
structure SV where
 rA:Option Addr
 rc:Nat
 rs:List CnS
 tA:Option Addr
 tc:Nat
 ts:List VwV
def SV.v(x:SV):Value:= .agg #[.slice x.rA x.rs.length x.rc,.slice x.tA x.ts.length x.tc]
structure SV.ok(x:SV)(w:World):Prop where
 r:Rd w w.heap.size x.rA (x.rs.map CnS.v)
 t:Rd w w.heap.size x.tA (x.ts.flatMap VwV.v)
 rr:∀r∈x.rs,r.ok w
 tt:∀r∈x.ts,r.r.ok w
theorem SV.ok.pu{x:SV}{w w':World}(h:x.ok w)(hf:Pu w w'):x.ok w':=⟨hf.rd' h.r,hf.rd' h.t,fun r hr=>(h.rr r hr).pu hf,fun r hr=>(h.tt r hr).pu hf⟩
structure SV.val [HB](x:SV)(ss:List Int)(B:Int):Prop where
 n:x.rs.length=ss.length
 r:RgOk (x.rs.map CnS.xs) ss
 tn:x.ts.length=4
 t:∀r∈x.ts,r.val B
theorem SV.val.rl [HB]{x:SV}{ss:List Int}{B:Int}(h:x.val ss B){k:Nat}(hk:k<x.rs.length)(hk':k<ss.length):((x.rs[k]).xs.length:Int)=ss[k]:=by
 have:=h.r.l k (by rw[List.length_map];exact hk) hk'
 rwa[List.getElem_map]at this
theorem SV.val.rv [HB]{x:SV}{ss:List Int}{B:Int}(h:x.val ss B){r:CnS}(hr:r∈x.rs):∀c∈r.xs,c.val:=h.r.v _ (List.mem_map.2 ⟨r,hr,rfl⟩)
def VwO.rd(x:VwO):VwV:=⟨x.d,x.r.rd⟩
def SO.rd(x:SO):SV:=⟨ad x.qA,x.qc,x.rs.map CO.rd,ad x.tA,x.tc,x.ts.map VwO.rd⟩
theorem SO.rd_v(x:SO):x.rd.v=x.v:=by
 unfold SO.rd SV.v SO.v
 dsimp only
 rw[List.length_map,List.length_map]
 rfl
theorem SO.rd_ok{S:Nat→Prop}{w0 w:World}{M:List Hp}{x:SO}(hm:Mm S w0 M w)(hM:∀h∈x.hps,h∈M)(h:x.ok):x.rd.ok w:=by
 refine⟨?_,?_,fun r hr=>?_,fun r hr=>?_⟩
 ·unfold SO.rd
  dsimp only
  rw[CO.rds_v]
  exact hm.rd_row (hM _ (List.mem_cons_of_mem _ (List.mem_cons_self ..))) h.q
 ·unfold SO.rd
  dsimp only
  rw[show(x.ts.map VwO.rd).flatMap VwV.v=x.ts.flatMap VwO.v by rw[List.flatMap_map];rfl]
  exact hm.rd_row (hM _ (List.mem_cons_self ..)) h.t
 ·obtain⟨r0,hr0,rfl⟩:=List.mem_map.1 hr
  exact CO.rd_ok hm (hM _ (List.mem_cons_of_mem _ (List.mem_append_left _ (List.mem_cons_of_mem _ (List.mem_map.2 ⟨r0,hr0,rfl⟩))))) (h.rr r0 hr0)
 ·obtain⟨r0,hr0,rfl⟩:=List.mem_map.1 hr
  exact CO.rd_ok hm (hM _ (List.mem_cons_of_mem _ (List.mem_append_right _ (List.mem_map.2 ⟨r0,hr0,rfl⟩)))) (h.tt r0 hr0)
theorem SO.rd_val [HB]{x:SO}{ss:List Int}{B:Int}(h:x.val ss B):x.rd.val ss B:=by
 refine⟨?_,?_,?_,fun r hr=>?_⟩
 ·show(x.rs.map CO.rd).length=_
  rw[List.length_map];exact h.n
 ·show RgOk ((x.rs.map CO.rd).map CnS.xs) ss
  rw[CO.rds_xs];exact h.r
 ·show(x.ts.map VwO.rd).length=_
  rw[List.length_map];exact h.tn
 ·obtain⟨r0,hr0,rfl⟩:=List.mem_map.1 hr
  have:=h.t r0 hr0
  exact⟨this.d,this.n,this.v⟩
theorem thrs_c [HB](A:Option Addr)(c:Nat)(ts:List VwV)(B:Int)(wB:World)(hA:Rd wB wB.heap.size A (ts.flatMap VwV.v))(ho:∀r∈ts,r.r.ok wB)(hn:ts.length=4)(hv:∀r∈ts,r.val B)(hB:B≤1099511627776):Ret Tryz.prog 95 [.slice A ts.length c] wB (fun u w'=>u= .bool true∧Pu wB w'):=by
 refine enterR Tryz.func95 rfl rfl rfl fun a hs hm=>?_
 refine gsce98_ ?_;clear hs hm a;intros;rename_i a hm hs
 refine cLoop (X:=Nat) (fun k a w'=>k≤ts.length∧Sl Tryz.f95.ntmps [(0,.slice A ts.length c),(6,.slice A ts.length c),(7,.int .i64 (ts.length:Int)),(8,.int .i64 (k:Int))] a∧Mm (fun _=>False) wB [] w') (fun k=>ts.length-k) 0 ⟨Nat.zero_le _,(sb_ hs),hm⟩ ?_
 clear hs hm a
 rintro k a w' ⟨hk,hs,hm⟩
 by_cases hlt:k<ts.length
 ·obtain⟨b1,o1,hA1,hb1,r1⟩:=hA.ro (by rw[flat_len VwV.v 8 VwV.len];omega)
  have r2:=r1.flat VwV.len hlt
  have hq:=hv _ (List.getElem_mem hlt)
  have hqo:=ho _ (List.getElem_mem hlt)
  generalize ts[k]=q at r2 hq hqo
  obtain⟨⟨st,pc,cnt,han,sav,trp,cod⟩,r⟩:=q
  obtain⟨⟨v1,v2,v3,v4,v5,v6,v7⟩,v8,v9⟩:=hq
  have hbl:=HB.le
  unfold VwV.v at r2
  dsimp only at*
  have kc:=fun w'' (hf:Pu wB w'')=>ccls_c r 8 w'' (hqo.pu hf) v9 (by omega) (by omega)
  unfold CnS.v at kc
  rw[hA1]at hs
  refine gcSil0_ ?_;clear hs hm a;intros;rename_i a hm hs
  rw[←hA1]at hs
  exact zfe81_
 ·obtain rfl:k=ts.length:=by omega
  rw[hn]at hs
  refine gsce98_ ?_;clear hs hm a;intros;rename_i a hm hs
  exact gRet1 hs rfl rfl ⟨rfl,hm.fr⟩
theorem vldS_c [HB](p:PV)(x:SV)(B:Int)(wB:World)(hp:p.ok wB)(hpv:p.val)(hx:x.ok wB)(h:x.val p.ss B)(hB:B≤1099511627776):Ret Tryz.prog 59 [p.v,x.v] wB (fun u w'=>u= .bool true∧Pu wB w'):=by
 have kck:=fun w'' (hf:Pu wB w'')=>chk_c p w'' (hp.pu hf) hpv
 have kth:=fun w'' (hf:Pu wB w'')=>thrs_c x.tA x.tc x.ts B w'' (hx.pu hf).t (hx.pu hf).tt h.tn h.t hB
 have hn:=h.n
 have h4:=hpv.sz.four
 unfold PV.v SV.v at*
 refine enterR Tryz.func59 rfl rfl rfl fun a hs hm=>?_
 repeat(first|(refine gpSil1_ ?_;clear hs hm a;intros;rename_i a hm hs)|refine sc_ ?_|((with_reducible apply lCons);first|(refine dvc hs hm gw_ rfl rfl rfl rfl rfl (pl 38 rfl) (kck _ hm.fr) ?_;clear hs hm a;intro w hm a hs)|(refine dvc hs hm gw_ rfl rfl rfl rfl rfl (pl 95 rfl) (kth _ hm.fr) ?_;clear hs hm a;intro w hm a hs)))
 obtain⟨g2,rfl⟩:=hs.pp 2
 obtain⟨g3,rfl⟩:=hs.pp 3
 refine cLoop (X:=Nat) (fun k a w'=>k≤x.rs.length∧Sl Tryz.f59.ntmps [(2,.pointer (some ⟨g2,0,none⟩)),(26,.slice x.rA x.rs.length x.rc),(27,.int .i64 (x.rs.length:Int)),(28,.int .i64 (k:Int))] a∧Mm (fun _=>False) wB [⟨some g3,91,[.slice x.rA x.rs.length x.rc,.slice x.tA x.ts.length x.tc]⟩,⟨some g2,38,[.slice p.cA p.code.length p.cc,.slice p.sA p.ss.length p.sc,.slice p.dA p.ws.length p.dc]⟩] w') (fun k=>x.rs.length-k) 0 ⟨Nat.zero_le _,(sb_ hs),hm⟩ ?_
 clear hs hm a
 rintro k a w' ⟨hk,hs,hm⟩
 by_cases hlt:k<x.rs.length
 ·obtain⟨b1,o1,hA1,hb1,r1⟩:=hx.r.ro (by rw[List.length_map];omega)
  obtain⟨b2,o2,hA2,hb2,r2⟩:=hp.s.ro (by rw[ints_len];omega)
  have e2:=ints_some (xs:=p.ss) (k:=k) (by omega)
  have hcell:(x.rs.map CnS.v)[k]?=some (.slice (x.rs[k]).A (x.rs[k]).xs.length (x.rs[k]).c):=by rw[List.getElem?_map,List.getElem?_eq_getElem hlt];rfl
  have hl:=h.rl hlt (by omega)
  have hsz:=hpv.sz.bd _ (List.getElem_mem (show k<p.ss.length by omega))
  have hqo:=hx.rr _ (List.getElem_mem hlt)
  have hqv:=h.rv (List.getElem_mem hlt)
  generalize x.rs[k]=q at hcell hl hqo hqv
  rw[←hl]at e2
  generalize p.ss[k]'_=sk at hl hsz
  have kc:=fun w'' (hf:Pu wB w'')=>ccls_c q 32 w'' (hqo.pu hf) hqv (by omega) (by omega)
  unfold CnS.v at kc
  rw[hA1]at hs hm
  rw[hA2]at hm
  refine gcSil0_ ?_;clear hs hm a;intros;rename_i a hm hs
  rw[←hA1]at hs hm
  rw[←hA2]at hm
  exact zb7e7_
 ·obtain rfl:k=x.rs.length:=by omega
  refine gsce98_ ?_;clear hs hm a;intros;rename_i a hm hs
  exact gRet1 hs rfl rfl ⟨rfl,hm.fr⟩
def lsS(x:SV):List CnS:=x.rs++x.ts.map VwV.r
structure LsX where
 k:Nat
 A:Option Nat
 c:Nat
 cs:List Value
theorem lists_c(x:SV)(wB:World)(hx:x.ok wB)(hn:x.rs.length≤4)(hn4:x.ts.length=4):Ret Tryz.prog 60 [x.v] wB (fun u w'=>∃(A:Option Nat)(c:Nat)(cs:List Value),u=slv A (lsS x).length c∧Row A (lsS x).length c 1 ((lsS x).map CnS.v) cs∧New wB w' [⟨A,93,cs⟩]∧Pu wB w'):=by
 unfold SV.v
 refine enterR Tryz.func60 rfl rfl rfl fun a hs hm=>?_
 refine gsc5af_ ?_;clear hs hm a;intros;rename_i a hm hs
 obtain⟨g1,rfl⟩:=hs.pp 1
 replace hm:=hm.zero 93
 refine dv hs (Wnt.none rfl) rfl rfl (d_appendS (A:=none) (n:=0) (c:=0) (xs:=[]) (news:=x.rs.map CnS.v) hs rfl rfl rfl rfl tab rfl rfl rfl rfl rfl hm mem_ (Row.empty 1) (by rw[List.length_map,Nat.mul_one]) (hm.fr.rd' hx.r) (CnS.vals_one _) (by show(0+x.rs.length)*24≤_;omega) (by omega)) ?_
 clear hs
 rintro _ w3 ⟨A,c,cs,rfl,hr,hM⟩ a hs
 replace hm:=hM _ rep_
 clear hM
 rw[Nat.zero_add,List.nil_append]at hr
 rw[Nat.zero_add]at hs
 refine gsc5af_ ?_;clear hs hm a;intros;rename_i a hm hs
 refine cLoop (X:=LsX) (fun X a w'=>X.k≤4∧Row X.A (x.rs.length+X.k) X.c 1 (x.rs.map CnS.v++((x.ts.take X.k).map VwV.r).map CnS.v) X.cs∧Sl Tryz.f60.ntmps [(3,slv X.A (x.rs.length+X.k) X.c),(10,.slice x.tA x.ts.length x.tc),(11,.int .i64 (x.ts.length:Int)),(12,.int .i64 (X.k:Int))] a∧Mm (fun _=>False) wB [⟨X.A,93,X.cs⟩] w') (fun X=>4-X.k) ⟨0,A,c,cs⟩ ⟨Nat.zero_le _,by dsimp only;rw[List.take_zero,List.map_nil,List.map_nil,List.append_nil];exact hr,(sb_ hs),hm.sub sub_⟩ ?_
 clear hs hm a hr
 rintro⟨k,A,c,cs⟩ a w' ⟨hk,hr,hs,hm⟩
 dsimp only at hk hr hs hm
 by_cases hlt:k<4
 ·obtain⟨b1,o1,hA1,hb1,r1⟩:=hx.t.ro (by rw[flat_len VwV.v 8 VwV.len];omega)
  have hlt':k<x.ts.length:=by omega
  have r2:=r1.flat VwV.len hlt'
  have htk:(x.ts.take (k+1)).map VwV.r=(x.ts.take k).map VwV.r++[(x.ts[k]).r]:=by
   rw[List.take_add_one,List.getElem?_eq_getElem hlt',Option.toList_some,List.map_append,List.map_singleton]
  generalize x.ts[k]=q at r2 htk
  unfold VwV.v at r2
  rw[hA1]at hs
  refine gsc5af_ ?_;clear hs hm a;intros;rename_i a hm hs
  refine dv hs (Wnt.none rfl) rfl rfl (d_append (A:=A) (n:=x.rs.length+k) (c:=c) (news:=[.slice q.r.A q.r.xs.length q.r.c]) hs rfl rfl rfl rfl rfl tab rfl rfl rfl rfl rfl hm mem_ hr rfl (hm.ro (n:=1) mem_ (cutF_ok rfl)) rfl (by show(x.rs.length+k+1)*24≤_;omega) (by omega)) ?_
  clear hs
  rintro _ w4 ⟨A2,c2,cs2,rfl,hr2,hM⟩ a hs
  replace hm:=hM _ rep_
  clear hM
  refine gsc5af_ ?_;clear hs hm a;intros;rename_i a hm hs
  rw[←hA1]at hs
  refine⟨⟨k+1,A2,c2,cs2⟩,by dsimp only;omega,by dsimp only;omega,?_,(sb_ hs),hm.sub sub_⟩
  dsimp only
  rw[htk,List.map_append,←List.append_assoc]
  exact hr2
 ·obtain rfl:k=4:=by omega
  have hl:(lsS x).length=x.rs.length+4:=by unfold lsS;rw[List.length_append,List.length_map,hn4]
  have hmp:(lsS x).map CnS.v=x.rs.map CnS.v++((x.ts.take 4).map VwV.r).map CnS.v:=by unfold lsS;rw[List.map_append,List.take_of_length_le (by omega)]
  refine gsc5af_ ?_;clear hs hm a;intros;rename_i a hm hs
  rw[hl,hmp]
  exact gRet1 hs rfl rfl ⟨A,c,cs,rfl,hr,hm.new (List.Sublist.refl _),hm.fr⟩
end Go.Proofs.YtbjffoojenpmfaaGreat
