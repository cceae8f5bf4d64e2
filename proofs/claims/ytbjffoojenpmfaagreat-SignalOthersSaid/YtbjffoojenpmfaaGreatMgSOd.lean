/- Texts put together: Shp, Shq, Sgu, Sgv, Sgw, Sgx, Sgy, Sgz, Sha, Shb, Shc, Shd, She, Shj, Lk10, Lk13, Lk14, Shr, Shs, Sht. -/
import Derived.Test.YtbjffoojenpmfaaGreatMgSOc
set_option maxRecDepth 20000
set_option maxHeartbeats 64000000
namespace Go.Proofs.YtbjffoojenpmfaaGreat
open Go.RowKit
theorem gcShp0_{G H:Prop}(k:H)(s:Bx H→G:=by intro k_;(repeat(first|(refine oqR_ ?_;(try clear hs a);intro a hs)|((with_reducible apply lCons);first|(refine dv hs gw_ rfl rfl da_ ?_;(try clear hs hm a);rintro _ w_ ⟨g_,rfl,-,hm⟩ a hs)|(refine stn hs rfl rfl ds_ ?_;(try clear hs hm a);rintro-w_ hm a hs))|((with_reducible apply qNil);(try clear hm);intro w_ hm)|refine cQ_ ?_|refine sc_ ?_|((with_reducible apply lCons);first|(refine dvc hs hm gw_ rfl rfl rfl rfl rfl (pl 27 rfl) (k1 _ hm.fr) ?_;(try clear hs hm a);intro w_ hm a hs)|(refine dvc hs hm gw_ rfl rfl rfl rfl rfl (pl 126 rfl) (k3 _ hm.fr) ?_;(try clear hs hm a);intro w_ hm a hs)|(refine dvc hs hm gw_ rfl rfl rfl rfl rfl (pl 110 rfl) (k4 _) ?_;(try clear hs hm a);intro w_ hm a hs)|(refine dvc hs hm gw_ rfl rfl rfl rfl rfl (pl 127 rfl) (k5 _ hm.fr) ?_;(try clear hs hm a);intro w_ hm a hs))|((with_reducible apply qCons);first|(refine qwc hs gw_ rfl rfl rfl rfl rfl (pl 27 rfl) (fun w hm=>k1 _ hm.fr) ?_;(try clear hs a);intro a hs)|(refine qwc hs gw_ rfl rfl rfl rfl rfl (pl 126 rfl) (fun w hm=>k3 _ hm.fr) ?_;(try clear hs a);intro a hs)|(refine qwc hs gw_ rfl rfl rfl rfl rfl (pl 110 rfl) (fun w hm=>k4 _) ?_;(try clear hs a);intro a hs)|(refine qwc hs gw_ rfl rfl rfl rfl rfl (pl 127 rfl) (fun w hm=>k5 _ hm.fr) ?_;(try clear hs a);intro a hs))));(first|(have m_:=hm;have s_:=hs;clear hs;(try clear hm);revert m_ s_ a)|((first|refine rexc_ hs hm ?_|refine rexl_ hs hm ?_|refine rexg_ hs hm ?_|refine rexq_ hs hm ?_);intro a hm hs;revert hm hs a));(try revert w_);(repeat revert g_);exact k_.h):G:=s ⟨k⟩
theorem dgShp1_{G H:Prop}(k:H)(s:Bx H→G:=by intro k_;(repeat(first|(refine tTakeB false t_ hs rfl (by kernel_rfl) (by kernel_rfl) gw_ rfl rfl (by intro w _;(first|exact kvR_|exact r_loadO hs rfl rfl tab rfl rfl rfl hm (by repeat(first|exact mH|apply mT)) (by assumption))) bu_ ?_;(try clear t_ hs a);intro t_ a hs)|(refine tTakeB true t_ hs rfl (by kernel_rfl) (by kernel_rfl) gw_ rfl rfl (by intro w hm;replace hm:Mm _ _ _ w:=hm rfl;(first|exact klR_|exact r_loadO hs rfl rfl tab rfl rfl rfl hm (by repeat(first|exact mH|apply mT)) (by assumption))) bu_ ?_;(try clear t_ hs a);intro t_ a hs)|(refine tE1B t_ ?_;(try clear t_);intro t_)|(refine nx_ t_ rfl ?_;have t_:=t_;first|(refine oDoB hs rfl gw_ rfl rfl da_ ?_;(try clear hs hm a);rintro _ w_ ⟨g_,rfl,-,hm⟩ a hs;refine⟨bu_,?_⟩)|(refine oDoNB hs rfl gw_ rfl ds_ ?_;(try clear hs hm a);rintro-w_ hm a hs;refine⟨bu_,?_⟩)|(refine oDoVB hs rfl gw_ rfl rfl (by(first|exact klR_|exact r_loadO hs rfl rfl tab rfl rfl rfl hm (by repeat(first|exact mH|apply mT)) (by assumption))) ?_;(try clear hs a);intro a hs;refine⟨bu_,?_⟩))));have y_:=t_;clear t_;(first|(have m_:=hm;have s_:=hs;have z_:=y_;clear hs;(try clear hm);revert m_ s_ z_ a)|((first|refine rexd_ hs hm ?_|refine rexb_ hs hm ?_);intro a hm hs;have z_:=y_;revert hm hs z_ a));(try revert w_);(repeat revert g_);exact k_.h):G:=s ⟨k⟩
theorem CO_mem{l:List ThO}{k:Nat}{q:ThO}(h:l[k]?=some q):q.hp∈l.map ThO.hp:=List.mem_map.2 ⟨q,List.mem_of_getElem? h,rfl⟩
theorem put_c [HB](p:PV)(N gm:Nat)(y:MO)(B:Int)(tk:Nat)(q:ThD)(r:RqV)(x:RsV)(wB:World)(hp:p.at wB N)(hpv:p.val)(hN:N≤wB.heap.size)(hM:Mm (own y.hps) wB y.hps wB)(hno:∀b,b<N→¬own y.hps b)(hy:y.ok)(hv:y.d.val p.ss B)(hh:Ro wB gm 0 y.vs)(hng:¬own y.hps gm)(ht:tk<4)(hth:r.th=(tk:Int))(hq:y.d.ts[tk]?=some q) (hq2:q.st=2) (hra:Rd wB N r.a.A (cns r.a.xs)) (hrv:r.val) (hrk:r.kin) (hst:r.stop=1) (hxd:Rd wB N x.d.A (cns x.d.xs)) (hxf:x.fit):
  Ret Tryz.prog 128 [p.v,pt gm,r.v,x.v] wB (fun u w'=>∃(z:MO)(b:Bool),u= .bool b∧z.ok∧z.d.val p.ss B∧z.vs=y.vs∧Mm (own y.hps) wB z.hps w'):=by
 by_cases h10:r.call=10
 ·exact put_spw p N gm y B tk q r x wB hp hpv hN hM hno hy hv hh hng ht hth hq hq2 hra hrv hrk hst hxd hxf h10
 by_cases h12:r.call=12
 ·exact put_han p N gm y B tk q r x wB hp hpv hN hM hno hy hv hh hng ht hth hq hq2 hra hrv hrk hst hxd hxf h12
 by_cases hd:0<x.d.xs.length
 ·by_cases hb:bufF r.call=2
  ·exact put_buf p N gm y B tk q r x wB hp hpv hN hM hno hy hv hh hng ht hth hq hq2 hra hrv hrk hst hxd hxf hb hd
  ·exact put_non p N gm y B tk q r x wB hp hpv hN hM hno hy hv hh hng ht hth hq hq2 hra hrv hrk hst hxd hxf ⟨h10,h12,fun e=>absurd e hb⟩
 ·exact put_non p N gm y B tk q r x wB hp hpv hN hM hno hy hv hh hng ht hth hq hq2 hra hrv hrk hst hxd hxf ⟨h10,h12,fun _=>List.eq_nil_of_length_eq_zero (by omega)⟩
theorem rput_c [HB](p:PV)(y:MO)(B:Int)(r:RqV)(x:RsV)(wB:World)(hp:p.ok wB)(hpv:p.val)(hmv:y.mv.ok wB)(hy:y.ok)(hv:y.d.val p.ss B)(hB:B≤1000000000)(hr:r.ok wB)(hrv:r.val)(hrk:r.kin)(hst:r.stop=1)(hx:x.ok wB)(hxf:x.fit):
  Ret Tryz.prog 114 [p.v,y.v,r.v,x.v] wB (fun u w'=>∃(z:MO)(b:Bool),u= .tuple #[z.v,.bool b]∧z.ok∧z.d.val p.ss B∧(z=y∨New wB w' z.hps)∧Pu wB w'):=by
 have hvv:y.mv.d.val p.ss B:=by rw[MO.mv_d];exact hv
 have hsm:=hvv.sm hpv.sz
 have k1:=fun w'' (hf:Pu wB w'')=>xval_c p y.mv B w'' (hp.pu hf) hpv (hmv.pu hf) hvv (Row.le hy.b) (by omega)
 have k2:=fun w'' (hf:Pu wB w'')=>rcp_c y.mv w'' (hmv.pu hf) hsm
 have k3:=fun w'' (hf:Pu wB w'')=>rqval_c r w'' (hr.pu hf) hrv
 have k4:=fun w''=>arg_c r.call w'' hrv.call
 have k5:=fun w'' (hf:Pu wB w'')=>rsval_c x w'' (hx.pu hf) hxf
 have hth4:=hrv.th
 have hkn:=hrk.n
 obtain⟨tk,htk⟩:∃k:Nat,r.th=(k:Int):=⟨r.th.toNat,by omega⟩
 have htl:y.ts.length=4:=by have:=hv.t;rwa[MO.d_len]at this
 have hty:tk<y.ts.length:=by omega
 have hyt:=hy.t
 rw[htl]at hyt
 obtain⟨gt,hgt⟩:=hyt.some_ (by omega)
 obtain⟨qy,hqy⟩:∃q,y.ts[tk]?=some q:=⟨_,List.getElem?_eq_getElem hty⟩
 have hq:y.d.ts[tk]?=some qy.d:=by rw[MO.d_ts y hty,(List.getElem?_eq_some_iff.1 hqy).2]
 have hyv:y.v= .agg #[slv y.bA y.bs.length y.bc,.int .u16 y.key,slv y.m.cA y.m.xs.length y.m.cc,slv y.m.lA y.m.ls.length y.m.lc,slv (some gt) 4 y.tc]:=by unfold MO.v;rw[hgt,htl]
 rw[MO.mv_v]at k1 k2
 rw[hyv]at k1 k2 ⊢
 obtain⟨bt,ot,hbt,-,rt⟩:=hmv.t.ro (by rw[flat_len ThV.v 8 ThV.len];show 0<(y.ts.map ThO.tv).length*8;rw[List.length_map];omega)
 have hbt':ad y.tA=some ⟨bt,ot,none⟩:=hbt
 rw[hgt]at hbt'
 obtain⟨rfl,rfl⟩:gt=bt∧0=ot:=by unfold ad at hbt';simpa using hbt'
 have r1:=rt.flat ThV.len (show tk<y.mv.ts.length by show tk<(y.ts.map ThO.tv).length;rw[List.length_map];exact hty)
 rw[show y.mv.ts[tk]'(by show tk<(y.ts.map ThO.tv).length;rw[List.length_map];exact hty)=ThO.tv qy by show(y.ts.map ThO.tv)[tk]'_=_;rw[List.getElem_map,(List.getElem?_eq_some_iff.1 hqy).2]]at r1
 unfold ThV.v ThO.tv at r1
 dsimp only at r1
 rw[Nat.zero_add]at r1
 clear rt
 have hno:∀w',Pu wB w'→∃(z:MO)(b:Bool),Value.tuple #[.agg #[slv y.bA y.bs.length y.bc,.int .u16 y.key,slv y.m.cA y.m.xs.length y.m.cc,slv y.m.lA y.m.ls.length y.m.lc,slv (some gt) 4 y.tc],.bool false]= .tuple #[z.v,.bool b]∧z.ok∧z.d.val p.ss B∧(z=y∨New wB w' z.hps)∧Pu wB w':=fun w' hf=>⟨y,false,by rw[hyv],hy,hv,.inl rfl,hf⟩
 obtain⟨th,stop,trap,cnt,pc,call,ra,rd⟩:=r
 obtain⟨xv,xd,sp,wt⟩:=x
 have hra:ra.ok wB:=hr.a
 have hrd:rd.ok wB:=hr.d
 have hxd:xd.ok wB:=hx
 unfold PV.v RqV.v RsV.v at*
 dsimp only at*
 subst htk hst
 by_cases hs2:qy.d.st=2
 rotate_left
 ·refine enterR Tryz.func114 rfl rfl rfl fun a hs hm=>?_
  refine gcShp0_ ?_;clear hs hm a;intros;rename_i a hm hs
  obtain⟨g8,rfl⟩:=hs.pp 8
  exact z3a12_
 refine enterR Tryz.func114 rfl rfl rfl fun a hs hm=>?_
 refine gcShp0_ ?_;clear hs hm a;intros;rename_i a hm hs
 obtain⟨g4,rfl⟩:=hs.pp 4
 obtain⟨g5,rfl⟩:=hs.pp 5
 obtain⟨g6,rfl⟩:=hs.pp 6
 obtain⟨g7,rfl⟩:=hs.pp 7
 obtain⟨g8,rfl⟩:=hs.pp 8
 refine st hs rfl rfl rfl (d_call hs rfl rfl rfl (pl 19 rfl) ((k2 _ hm.fr))) ?_;clear hs a;rintro _ w1 ⟨c,rfl,hco,hcd,hN,hf⟩ a hs
 replace hm:=gainE hm hf hN
 clear hN hf k1 k2 k3 k4 k5 hsm
 have hcd':c.d=y.d:=by rw[hcd,MO.mv_d]
 clear hcd
 have hcv:c.d.val p.ss B:=hcd'▸hv
 have hctl:c.ts.length=4:=by have:=hcv.t;rwa[MO.d_len]at this
 have hct:=hco.t
 rw[hctl]at hct
 obtain⟨gc,hgc⟩:=hct.some_ (by omega)
 have hctk:tk<c.ts.length:=by omega
 obtain⟨qc,hqc⟩:∃q,c.ts[tk]?=some q:=⟨_,List.getElem?_eq_getElem hctk⟩
 have hqcd:c.d.ts[tk]?=some qc.d:=by rw[MO.d_ts c hctk,(List.getElem?_eq_some_iff.1 hqc).2]
 have hqe:qc.d=qy.d:=by rw[hcd',hq]at hqcd;exact(Option.some.inj hqcd).symm
 have hqcv:=hcv.tt qc.d (List.mem_map.2 ⟨qc,List.mem_of_getElem? hqc,rfl⟩)
 have hqco:=hco.tt qc (List.mem_of_getElem? hqc)
 rw[hgc]at hct
 have hccl:=hct.len
 have hccle:=hct.le
 unfold MO.v at hs
 rw[hgc,hctl]at hs
 rw[show c.hps=⟨c.tA,52,c.tcs⟩::⟨c.bA,3,c.bcs⟩::(c.m.hps++c.ts.map ThO.hp)from rfl,hgc]at hm
 simp only[List.cons_append,List.nil_append]at hm
 have hcvs:c.vs=(c.cl [slv (some gc) 4 c.tc]):=by unfold MO.vs;rw[hgc,hctl]
 have hyes:∀(z:MO) w',z.vs=c.vs→z.ok→z.d.val p.ss B→New wB w' z.hps→Pu wB w'→∃(z:MO)(b:Bool),Value.tuple #[.agg #[slv c.bA c.bs.length c.bc,.int .u16 c.key,slv c.m.cA c.m.xs.length c.m.cc,slv c.m.lA c.m.ls.length c.m.lc,slv (some gc) 4 c.tc],.bool true]= .tuple #[z.v,.bool b]∧z.ok∧z.d.val p.ss B∧(z=y∨New wB w' z.hps)∧Pu wB w':=fun z w' h1 h2 h3 h4 h5=>⟨z,true,by rw[MO.v_vs,h1,hcvs],h2,h3,.inr h4,h5⟩
 have hend:∀{a:Act}{w:World}{M:List Hp}(z:MO),z.vs=c.vs→z.ok→z.d.val p.ss B→(∃L,Mm (fun _=>False) wB (L++z.hps) w)→True:=fun _ _ _ _ _=>trivial
 clear hend
 by_cases hc0:call=0
 ·subst hc0
  have hal:ra.xs.length=1:=hkn
  obtain⟨b1,o1,hA,hb1,r2⟩:=Rd.ro hra (by rw[cns_len];omega)
  have r3:=r2.flat CN.cs_len (show 0<ra.xs.length by omega)
  have hc0v:=(hrv.av _ (List.getElem_mem (show 0<ra.xs.length by omega))).v
  generalize ra.xs[0]'(by omega)=c0 at r3 hc0v
  unfold CN.cs at r3
  rw[hA]at hm
  refine gsce98_ ?_;clear hs hm a;intros;rename_i a hm hs
  obtain⟨g10,rfl⟩:=hs.pp 10
  have hqr:Row qc.A qc.d.xs.length qc.c 2 (cvs qc.d.xs) qc.cs:=hqco
  have hcut:cutF c.tcs (tk*8) 8=some [.int .i64 qc.d.st,slv qc.A qc.d.xs.length qc.c,.int .i64 qc.d.pc,.int .i64 qc.d.cnt,.int .i64 qc.d.han,.int .i64 qc.d.sav,.int .i64 qc.d.trp,.int .u16 qc.d.cod]:=
   cutF_of c.tcs (tk*8) qc.v (by rw[ThO.len];omega) (fun j v hj=>hct.get (by rw[flat_get ThO.v 8 ThO.len c.ts tk j hctk (List.getElem?_eq_some_iff.1 hj).1,(List.getElem?_eq_some_iff.1 hqc).2];exact hj))
  have kend:∀(w'':World),Rd w'' w''.heap.size (ad qc.A) (cvs qc.d.xs)→Ret Tryz.prog 109 [.agg #[.int .i64 qc.d.st,slv qc.A qc.d.xs.length qc.c,.int .i64 qc.d.pc,.int .i64 qc.d.cnt,.int .i64 qc.d.han,.int .i64 qc.d.sav,.int .i64 qc.d.trp,.int .u16 qc.d.cod],.int .i64 0,.int .u16 c0.v] w'' (fun u w'=>∃q':ThO,u= .agg q'.v.toArray∧q'.ok∧q'.d={qc.d with st:=4,trp:=0,cod:=c0.v}∧New w'' w' [q'.hp]∧Pu w'' w'):=fun w'' hr=>tend_c ⟨ad qc.A,qc.c,qc.d⟩ 0 c0.v w'' hr (by have:=hqcv.n;dsimp only;omega)
  have hqcR:=CO_mem hqc
  generalize hR:c.ts.map ThO.hp=R at hm hqcR
  refine cMid (fun a w=>∃q':ThO,q'.ok∧q'.d={qc.d with st:=4,trp:=0,cod:=c0.v}∧Sl Tryz.f114.ntmps [(8,pt g8),(10,pt g10)] a∧Mm (fun _=>False) wB (q'.hp::⟨some g10,32,(c.cl [slv (some gc) 4 c.tc])⟩::⟨some g8,32,[nS,.int .u16 0,nS,nS,nS]⟩::⟨some gc,52,c.tcs.take (tk*8)++q'.v++c.tcs.drop (tk*8+8)⟩::⟨c.bA,3,c.bcs⟩::(c.m.hps++R)) w) ?_ ?_
  ·with_reducible repeat(first|apply gThen|apply wp_seq)
   refine cDrawTB (n:=18) (.s [0,1,2,3,4,5,6,7,8,9,10,11,12,13,14]<| .o 15<| .x<| .t 16<| .o 17<| .x<| .d) 17 [⟨some g10,32,(c.cl [slv (some gc) 4 c.tc])⟩,⟨some g6,173,[.int .i64 (tk:Int),.int .i64 1,.int .i64 trap,.int .i64 cnt,.int .i64 pc,.int .i64 0,.slice (some ⟨b1,o1,none⟩) ra.xs.length ra.c,.slice rd.A rd.xs.length rd.c]⟩,⟨some gc,52,c.tcs⟩] hm rfl rfl ?_
   clear hm;intro t_ w1_ hm
   repeat' (first|(refine dgShp1_ ?_;clear t_ hs hm a;intros;rename_i a hm hs t_)|refine tEB t_ ?_|refine tCB ?_ ?_|exact tNB|intro t_|(refine oDoB (i:=15) hs rfl (Wnt.none rfl) rfl rfl (by exact d_call hs rfl rfl rfl (pl 109 rfl) ((kend _ (hm.rd_row (A:=qc.A) (by have h1:qc.hp∈c.m.hps++R:=List.mem_append_right _ hqcR;repeat(first|exact h1|apply List.mem_cons_of_mem)) hqr)))) ?_;clear hs;rintro _ w1 ⟨q',rfl,hqo',hqd',hN,hf⟩ a hs;(replace hm:=hm.gain hf hN);(clear hN hf);(simp only[List.cons_append,List.nil_append]at hm);replace t_:=tX t_;refine⟨bu_,?_⟩)|(refine oDoNB (i:=17) hs rfl (Wnt.none rfl) rfl (by exact d_store hs rfl rfl rfl tab rfl rfl rfl rfl hm rep_ (putG (by show tk*8+8≤_;omega))) ?_;clear hs;rintro-w1 hm a hs;replace t_:=tX t_;refine⟨bu_,?_⟩)|(refine tDB t_ ?_;(exact And.intro rfl ⟨q',hqo',hqd',(sb_ hs),hm.sub sub_⟩))|fail)
  clear hs hm a
  rintro a w ⟨q',hqo',hqd',hs,hm⟩
  rw[←hR]at hm
  have hsp:=hct.splice (o:=tk*8) (ys:=q'.v) (by rw[ThO.len];omega)
  rw[ThO.len,flat_splice ThO.v 8 ThO.len c.ts tk q' hctk]at hsp
  replace hm:=MO.close_ (z:=c) (q:=q') (m:=c.m) (L:=[⟨some g10,32,(c.cl [slv (some gc) 4 c.tc])⟩,⟨some g8,32,[nS,.int .u16 0,nS,nS,nS]⟩]) hctk (tcs:=c.tcs.take (tk*8)++q'.v++c.tcs.drop (tk*8+8)) (by
   have h1:=MO.open_ (L:=[q'.hp,⟨some g10,32,(c.cl [slv (some gc) 4 c.tc])⟩,⟨some g8,32,[nS,.int .u16 0,nS,nS,nS]⟩]) (z:={c with tcs:=c.tcs.take (tk*8)++q'.v++c.tcs.drop (tk*8+8)}) (q:=qc) (t:=tk) (by
    rw[show MO.hps {c with tcs:=c.tcs.take (tk*8)++q'.v++c.tcs.drop (tk*8+8)}=⟨c.tA,52,c.tcs.take (tk*8)++q'.v++c.tcs.drop (tk*8+8)⟩::⟨c.bA,3,c.bcs⟩::(c.m.hps++c.ts.map ThO.hp)from rfl,hgc]
    exact hm) hqc
   have h2:=h1.sub (List.Sublist.cons_cons _ (List.Sublist.cons_cons _ (List.Sublist.cons_cons _ (List.Sublist.cons _ (List.Sublist.refl _)))))
   exact h2.perm (List.perm_middle (l₁:=[_,_])))
  refine gsce98_ ?_;clear hs hm a;intros;rename_i a hm hs
  refine gRetN tab hs rfl (.cons (.cells rfl rfl rfl rfl (hm.ro (k:=0) (n:=5) (g:=g8) mem_ (cutF_ok rfl))) (.cons (.tmp rfl) .nil)) (hyes (c.upd tk q' (c.tcs.take (tk*8)++q'.v++c.tcs.drop (tk*8+8)) c.m) _ (MO.upd_vs (MeO.like.refl _)) (MO.upd_ok hco hco.m hqo' (by rw[hctl,hgc];exact hsp)) (MO.upd_val hcv (Int.le_refl _) (MO.m_val hcv) ?_) (hm.new (List.Sublist.cons _ (List.Sublist.cons _ (List.Sublist.refl _)))) hm.fr)
  rw[hqd']
  exact⟨by dsimp only;omega,hqcv.n,hqcv.pc,hqcv.cnt,hqcv.han,hqcv.sav,by dsimp only;omega,hc0v,hqcv.cv⟩
 cases wt
 rotate_left
 ·refine gsce98_ ?_;clear hs hm a;intros;rename_i a hm hs
  obtain⟨g10,rfl⟩:=hs.pp 10
  have hrow0:Row (some gc) 4 c.tc 8 ((c.ts.set tk qc).flatMap ThO.v) c.tcs:=by rw[set_self hqc];exact hct
  have r1':=trow_set hrow0 hctk 0 (by omega) (.int .i64 3) (q2:={qc with d:={qc.d with st:=3}}) rfl
  have zh:(c.upd tk {qc with d:={qc.d with st:=3}} (c.tcs.set (tk*8+0) (.int .i64 3)) c.m).hps=⟨some gc,52,c.tcs.set (tk*8+0) (.int .i64 3)⟩::⟨c.bA,3,c.bcs⟩::(c.m.hps++c.ts.map ThO.hp):=(MO.hps_set (q':={qc with d:={qc.d with st:=3}}) hqc rfl).trans (by rw[hgc])
  exact gRetN tab hs rfl (.cons (.cells rfl rfl rfl rfl (hm.ro (k:=0) (n:=5) (g:=g8) mem_ (cutF_ok rfl))) (.cons (.tmp rfl) .nil)) (hyes (c.upd tk {qc with d:={qc.d with st:=3}} (c.tcs.set (tk*8+0) (.int .i64 3)) c.m) _ (MO.upd_vs (MeO.like.refl _)) (MO.upd_ok hco hco.m hqco (by rw[hctl,hgc];exact r1')) (MO.upd_val hcv (Int.le_refl _) (MO.m_val hcv) ⟨by dsimp only;omega,hqcv.n,hqcv.pc,hqcv.cnt,hqcv.han,hqcv.sav,hqcv.trp,hqcv.cod,hqcv.cv⟩) (by rw[zh];exact hm.new sub_) hm.fr)
 ·refine gsce98_ ?_;clear hs hm a;intros;rename_i a hm hs
  obtain⟨g10,rfl⟩:=hs.pp 10
  have hchp:c.hps=⟨some gc,52,c.tcs⟩::⟨c.bA,3,c.bcs⟩::(c.m.hps++c.ts.map ThO.hp):=by rw[←hgc];rfl
  rw[←hchp]at hm
  have hm':Mm (fun _=>False) wB ([⟨some g10,32,(c.cl [slv (some gc) 4 c.tc])⟩,⟨some g8,32,[nS,.int .u16 0,nS,nS,nS]⟩,⟨some g7,175,[.int .u8 xv.t,.int .u16 xv.v,.int .i64 xv.r,.int .i64 xv.o,.slice xd.A xd.xs.length xd.c,.int .i64 sp,.bool false]⟩,⟨some g6,173,[.int .i64 (tk:Int),.int .i64 1,.int .i64 trap,.int .i64 cnt,.int .i64 pc,.int .i64 call,.slice ra.A ra.xs.length ra.c,.slice rd.A rd.xs.length rd.c]⟩,⟨some g5,32,(y.cl [slv (some gt) 4 y.tc])⟩,⟨some g4,38,(p.cl [])⟩]++c.hps) _:=hm
  have kput:=put_c p wB.heap.size g10 c B tk qc.d ⟨tk,1,trap,cnt,pc,call,ra,rd⟩ ⟨xv,xd,sp,false⟩ _ (hp.at.fr hm.fr (Nat.le_refl _) (fun b _ e=>e)) hpv hm.fr.size (hm'.sub (List.sublist_append_right _ _)).rebase (fun b hb=>hm'.old hb) hco hcv (by rw[hcvs];exact hm.ro (k:=0) (n:=5) mem_ (cutF_ok rfl)) (hm'.notinR (x:=⟨some g10,32,(c.cl [slv (some gc) 4 c.tc])⟩) mem_ rfl) (by omega) rfl hqcd (by rw[hqe];exact hs2) (hm.fr.rd hra (Nat.le_refl _) (fun b _ e=>e)) hrv hrk rfl (hm.fr.rd hxd (Nat.le_refl _) (fun b _ e=>e)) hxf
  unfold PV.v RqV.v RsV.v at kput
  dsimp only at kput
  refine st hs rfl rfl rfl (d_call hs rfl rfl rfl (pl 128 rfl) ((kput))) ?_;clear hs a;rintro _ w1 ⟨z,b,rfl,zo,zv,zvs,hk⟩ a hs
  replace hm:=hm'.swapE _ hk
  clear hk hm' kput
  simp only[List.cons_append,List.nil_append]at hm
  cases b
  ·refine gsce98_ ?_;clear hs hm a;intros;rename_i a hm hs
   exact z3a12_
  ·refine gsce98_ ?_;clear hs hm a;intros;rename_i a hm hs
   exact gRetN tab hs rfl (.cons (.cells rfl rfl rfl rfl (hm.ro (k:=0) (n:=5) (g:=g8) mem_ (cutF_ok rfl))) (.cons (.tmp rfl) .nil)) (hyes z _ zvs zo zv (hm.new sub_) hm.fr)
theorem gcShq0_{G H:Prop}(k:H)(s:Bx H→G:=by intro k_;(repeat(first|(refine ovR_ ?_;(try clear hs a);intro a hs)|((with_reducible apply lCons);first|(refine dv hs gw_ rfl rfl da_ ?_;(try clear hs hm a);rintro _ w_ ⟨g_,rfl,-,hm⟩ a hs)|(refine stn hs rfl rfl ds_ ?_;(try clear hs hm a);rintro-w_ hm a hs))|refine sc_ ?_|((with_reducible apply lCons);first|(refine dvc hs hm gw_ rfl rfl rfl rfl rfl (pl 27 rfl) (k1 _ hm.fr) ?_;(try clear hs hm a);intro w_ hm a hs)|(refine dvc hs hm gw_ rfl rfl rfl rfl rfl (pl 127 rfl) (k5 _ hm.fr) ?_;(try clear hs hm a);intro w_ hm a hs)|(refine dvc hs hm gw_ rfl rfl rfl rfl rfl (pl 63 rfl) (kraw _ hm.fr) ?_;(try clear hs hm a);intro w_ hm a hs))));(first|(have m_:=hm;have s_:=hs;clear hs;(try clear hm);revert m_ s_ a)|((first|refine rexc_ hs hm ?_|refine rexl_ hs hm ?_|refine rexg_ hs hm ?_|refine rexq_ hs hm ?_);intro a hm hs;revert hm hs a));(try revert w_);(repeat revert g_);exact k_.h):G:=s ⟨k⟩
theorem dgShq1_{G H:Prop}(k:H)(s:Bx H→G:=by intro k_;(repeat(first|(refine tTakeB false t_ hs rfl (by kernel_rfl) (by kernel_rfl) gw_ rfl rfl (by intro w _;(first|exact kvR_|exact r_loadO hs rfl rfl tab rfl rfl rfl hm (by repeat(first|exact mH|apply mT)) (by assumption))) bu_ ?_;(try clear t_ hs a);intro t_ a hs)|(refine tTakeB true t_ hs rfl (by kernel_rfl) (by kernel_rfl) gw_ rfl rfl (by intro w hm;replace hm:Mm _ _ _ w:=hm rfl;(first|exact klR_|exact r_loadO hs rfl rfl tab rfl rfl rfl hm (by repeat(first|exact mH|apply mT)) (by assumption))) bu_ ?_;(try clear t_ hs a);intro t_ a hs)|(refine tE1B t_ ?_;(try clear t_);intro t_)|(refine nx_ t_ rfl ?_;have t_:=t_;first|(refine oDoB hs rfl gw_ rfl rfl da_ ?_;(try clear hs hm a);rintro _ w_ ⟨g_,rfl,-,hm⟩ a hs;refine⟨bu_,?_⟩)|(refine oDoNB hs rfl gw_ rfl ds_ ?_;(try clear hs hm a);rintro-w_ hm a hs;refine⟨bu_,?_⟩)|(refine oDoVB hs rfl gw_ rfl rfl (by(first|exact klR_|exact r_loadO hs rfl rfl tab rfl rfl rfl hm (by repeat(first|exact mH|apply mT)) (by assumption))) ?_;(try clear hs a);intro a hs;refine⟨bu_,?_⟩))));have y_:=t_;clear t_;(first|(have m_:=hm;have s_:=hs;have z_:=y_;clear hs;(try clear hm);revert m_ s_ z_ a)|((first|refine rexd_ hs hm ?_|refine rexb_ hs hm ?_);intro a hm hs;have z_:=y_;revert hm hs z_ a));(try revert w_);(repeat revert g_);exact k_.h):G:=s ⟨k⟩
theorem rwake_c [HB](p:PV)(y:MO)(B:Int)(t:Int)(x:RsV)(wB:World)(hp:p.ok wB)(hpv:p.val)(hmv:y.mv.ok wB)(hy:y.ok)(hv:y.d.val p.ss B)(hB:B≤1000000000)(hx:x.ok wB)(hxf:x.fit):
  Ret Tryz.prog 129 [p.v,y.v,.int .i64 t,x.v] wB (fun u w'=>∃(z:MO)(b:Bool),u= .tuple #[z.v,.bool b]∧z.ok∧z.d.val p.ss B∧(z=y∨New wB w' z.hps)∧Pu wB w'):=by
 have hvv:y.mv.d.val p.ss B:=by rw[MO.mv_d];exact hv
 have hsm:=hvv.sm hpv.sz
 have k1:=fun w'' (hf:Pu wB w'')=>xval_c p y.mv B w'' (hp.pu hf) hpv (hmv.pu hf) hvv (Row.le hy.b) (by omega)
 have k2:=fun w'' (hf:Pu wB w'')=>rcp_c y.mv w'' (hmv.pu hf) hsm
 have k5:=fun w'' (hf:Pu wB w'')=>rsval_c x w'' (hx.pu hf) hxf
 have htl:y.ts.length=4:=by have:=hv.t;rwa[MO.d_len]at this
 have hyt:=hy.t
 rw[htl]at hyt
 obtain⟨gt,hgt⟩:=hyt.some_ (by omega)
 have hyv:y.v= .agg #[slv y.bA y.bs.length y.bc,.int .u16 y.key,slv y.m.cA y.m.xs.length y.m.cc,slv y.m.lA y.m.ls.length y.m.lc,slv (some gt) 4 y.tc]:=by unfold MO.v;rw[hgt,htl]
 rw[MO.mv_v]at k1 k2
 rw[hyv]at k1 k2 ⊢
 obtain⟨bt,ot,hbt,-,rt⟩:=hmv.t.ro (by rw[flat_len ThV.v 8 ThV.len];show 0<(y.ts.map ThO.tv).length*8;rw[List.length_map];omega)
 have hbt':ad y.tA=some ⟨bt,ot,none⟩:=hbt
 rw[hgt]at hbt'
 obtain⟨rfl,rfl⟩:gt=bt∧0=ot:=by unfold ad at hbt';simpa using hbt'
 have hno:∀w',Pu wB w'→∃(z:MO)(b:Bool),Value.tuple #[.agg #[slv y.bA y.bs.length y.bc,.int .u16 y.key,slv y.m.cA y.m.xs.length y.m.cc,slv y.m.lA y.m.ls.length y.m.lc,slv (some gt) 4 y.tc],.bool false]= .tuple #[z.v,.bool b]∧z.ok∧z.d.val p.ss B∧(z=y∨New wB w' z.hps)∧Pu wB w':=fun w' hf=>⟨y,false,by rw[hyv],hy,hv,.inl rfl,hf⟩
 have hxv:=hxf.v
 obtain⟨xv,xd,sp,wt⟩:=x
 dsimp only at hxv
 have kraw:∀(w'':World),Pu wB w''→Ret Tryz.prog 63 [.agg #[slv y.bA y.bs.length y.bc,.int .u16 y.key],.slice p.sA p.ss.length p.sc,.agg #[.int .u8 xv.t,.int .u16 xv.v,.int .i64 xv.r,.int .i64 xv.o]] w'' (fun u w'=>u= .tuple #[.agg #[.int .u8 (rawC (lsX p y.mv) xv).t,.int .u16 (rawC (lsX p y.mv) xv).v],.int .i64 (rawE (lsX p y.mv) xv)]∧Pu w'' w'):=fun w'' hf=>by
  have h:=rawz_c (lsX p y.mv) xv w'' (lsX_ok (hp.pu hf) hpv (hmv.pu hf) hvv) hxv
  rw[lsX_l hvv]at h
  exact h
 have hcv:=rawC_val (lsX p y.mv) hxv
 generalize rawC (lsX p y.mv) xv=cv at kraw hcv
 unfold PV.v RsV.v at*
 dsimp only at*
 by_cases ht0:0≤t
 rotate_left
 ·refine enterR Tryz.func129 rfl rfl rfl fun a hs hm=>?_
  refine gcShq0_ ?_;clear hs hm a;intros;rename_i a hm hs
  obtain⟨g8,rfl⟩:=hs.pp 8
  exact z3a12_
 by_cases ht4:t<4
 rotate_left
 ·refine enterR Tryz.func129 rfl rfl rfl fun a hs hm=>?_
  refine gcShq0_ ?_;clear hs hm a;intros;rename_i a hm hs
  obtain⟨g8,rfl⟩:=hs.pp 8
  exact z3a12_
 obtain⟨tk,rfl⟩:∃k:Nat,t=(k:Int):=⟨t.toNat,by omega⟩
 have hty:tk<y.ts.length:=by omega
 obtain⟨qy,hqy⟩:∃q,y.ts[tk]?=some q:=⟨_,List.getElem?_eq_getElem hty⟩
 have hq:y.d.ts[tk]?=some qy.d:=by rw[MO.d_ts y hty,(List.getElem?_eq_some_iff.1 hqy).2]
 have r1:=rt.flat ThV.len (show tk<y.mv.ts.length by show tk<(y.ts.map ThO.tv).length;rw[List.length_map];exact hty)
 rw[show y.mv.ts[tk]'(by show tk<(y.ts.map ThO.tv).length;rw[List.length_map];exact hty)=ThO.tv qy by show(y.ts.map ThO.tv)[tk]'_=_;rw[List.getElem_map,(List.getElem?_eq_some_iff.1 hqy).2]]at r1
 unfold ThV.v ThO.tv at r1
 dsimp only at r1
 rw[Nat.zero_add]at r1
 clear rt
 by_cases hs3:qy.d.st=3
 rotate_left
 ·refine enterR Tryz.func129 rfl rfl rfl fun a hs hm=>?_
  refine gcShq0_ ?_;clear hs hm a;intros;rename_i a hm hs
  obtain⟨g8,rfl⟩:=hs.pp 8
  exact z3a12_
 by_cases he:rawE (lsX p y.mv) xv=0
 rotate_left
 ·refine enterR Tryz.func129 rfl rfl rfl fun a hs hm=>?_
  refine gcShq0_ ?_;clear hs hm a;intros;rename_i a hm hs
  obtain⟨g8,rfl⟩:=hs.pp 8
  exact z3a12_
 refine enterR Tryz.func129 rfl rfl rfl fun a hs hm=>?_
 refine gcShq0_ ?_;clear hs hm a;intros;rename_i a hm hs
 obtain⟨g8,rfl⟩:=hs.pp 8
 obtain⟨g10,rfl⟩:=hs.pp 10
 refine st hs rfl rfl rfl (d_call hs rfl rfl rfl (pl 19 rfl) ((k2 _ hm.fr))) ?_;clear hs a;rintro _ w1 ⟨c,rfl,hco,hcd,hN,hf⟩ a hs
 replace hm:=gainE hm hf hN
 clear hN hf k1 k2 k5 hsm kraw
 have hcd':c.d=y.d:=by rw[hcd,MO.mv_d]
 clear hcd
 have hcv':c.d.val p.ss B:=hcd'▸hv
 have hctl:c.ts.length=4:=by have:=hcv'.t;rwa[MO.d_len]at this
 have hct:=hco.t
 rw[hctl]at hct
 obtain⟨gc,hgc⟩:=hct.some_ (by omega)
 have hctk:tk<c.ts.length:=by omega
 obtain⟨qc,hqc⟩:∃q,c.ts[tk]?=some q:=⟨_,List.getElem?_eq_getElem hctk⟩
 have hqcv:=hcv'.tt qc.d (List.mem_map.2 ⟨qc,List.mem_of_getElem? hqc,rfl⟩)
 have hqco:=hco.tt qc (List.mem_of_getElem? hqc)
 have hqzr:Row qc.A qc.d.xs.length qc.c 2 (cvs qc.d.xs) qc.cs:=hqco
 rw[hqcv.n]at hqzr
 obtain⟨gq,hgq⟩:=hqzr.some_ (by omega)
 rw[hgq]at hqzr
 rw[hgc]at hct
 have hccl:=hct.len
 have hccle:=hct.le
 have hqcl:=hqzr.len
 have hqle:=hqzr.le
 have e1:c.tcs[tk*8+1]?=some (slv (some gq) 8 qc.c):=hct.get (by rw[flat_get ThO.v 8 ThO.len c.ts tk 1 hctk (by omega),(List.getElem?_eq_some_iff.1 hqc).2,←hgq,←hqcv.n];rfl)
 unfold MO.v at hs
 rw[hgc,hctl]at hs
 refine gsce98_ ?_;clear hs hm a;intros;rename_i a hm hs
 obtain⟨g12,rfl⟩:=hs.pp 12
 replace hm:=MO.open_ (L:=[⟨some g12,32,(c.cl [slv (some gc) 4 c.tc])⟩,⟨some g10,103,[.int .u8 cv.t,.int .u16 cv.v]⟩,⟨some g8,32,[nS,.int .u16 0,nS,nS,nS]⟩]) (z:=c) (by
  rw[show c.hps=⟨c.tA,52,c.tcs⟩::⟨c.bA,3,c.bcs⟩::(c.m.hps++c.ts.map ThO.hp)from rfl,hgc]at hm ⊢
  simp only[List.cons_append,List.nil_append]at hm
  exact hm.sub sub_) hqc
 simp only[List.cons_append,List.nil_append]at hm
 rw[show qc.hp=⟨some gq,103,qc.cs⟩ by unfold ThO.hp;rw[hgq],hgc]at hm
 obtain⟨W,hW⟩:∃W,(⟨c.bA,3,c.bcs⟩:Hp)::(c.m.hps++(c.ts.eraseIdx tk).map ThO.hp)=W:=⟨_,rfl⟩
 rw[hW]at hm
 refine cMid (fun a w=>Mm (fun _=>False) wB (⟨some g12,32,(c.cl [slv (some gc) 4 c.tc])⟩::⟨some g8,32,[nS,.int .u16 0,nS,nS,nS]⟩::⟨some gq,103,cv.cs++qc.cs.drop 2⟩::⟨some gc,52,c.tcs.set (tk*8+0) (.int .i64 1)⟩::W) w∧Sl Tryz.f129.ntmps [(8,pt g8),(12,pt g12)] a) ?_ ?_
 ·with_reducible repeat(first|apply gThen|apply wp_seq)
  refine cDrawTB (n:=15) (.s [0,1,2,3,4,5,6,7,8,9,10]<| .o 11<| .x<| .s [12,13]<| .o 14<| .d) 14 [⟨some g12,32,(c.cl [slv (some gc) 4 c.tc])⟩,⟨some g10,103,[.int .u8 cv.t,.int .u16 cv.v]⟩,⟨some gc,52,c.tcs⟩] hm rfl rfl ?_
  clear hm;intro t_ w1_ hm
  repeat' (first|(refine dgShq1_ ?_;clear t_ hs hm a;intros;rename_i a hm hs t_)|refine tEB t_ ?_|refine tCB ?_ ?_|exact tNB|intro t_|(refine oDoNB (i:=11) hs rfl (Wnt.none rfl) rfl (by exact d_store hs rfl rfl rfl tab rfl rfl rfl rfl hm rep_ (putG (by show 0+2≤_;omega))) ?_;clear hs;rintro-w1 hm a hs;replace t_:=tX t_;refine⟨bu_,?_⟩)|(refine tDB t_ ?_;(exact And.intro rfl ⟨hm.sub sub_,(sb_ hs)⟩))|fail)
 clear hs hm a
 rintro a w ⟨hm,hs⟩
 refine gsce98_ ?_;clear hs hm a;intros;rename_i a hm hs
 obtain⟨k1,k2,k3⟩:=ThO.reg_ok hqco hqcv (r:=0) (by omega) hcv
 have hrow:Row (some gc) 4 c.tc 8 ((c.ts.set tk (qc.reg 0 cv)).flatMap ThO.v) c.tcs:=by rw[trow_same hctk k3,set_self hqc];exact hct
 have r1':=trow_set hrow hctk 0 (by omega) (.int .i64 1) (q2:={qc.reg 0 cv with d:={(qc.reg 0 cv).d with st:=1}}) rfl
 obtain⟨z,hz⟩:∃z,z=c.upd tk {qc.reg 0 cv with d:={(qc.reg 0 cv).d with st:=1}} (c.tcs.set (tk*8+0) (.int .i64 1)) c.m:=⟨_,rfl⟩
 have zo:z.ok:=by rw[hz];exact MO.upd_ok hco hco.m k1 (by rw[hgc,hctl];exact r1')
 have zv:z.d.val p.ss B:=by rw[hz];exact MO.upd_val hcv' (Int.le_refl _) (MO.m_val hcv') ⟨by dsimp only;omega,k2.n,by rw[k2.pc];exact hqcv.pc,by rw[k2.cnt];exact hqcv.cnt,by rw[k2.han];exact hqcv.han,k2.sav,by rw[k2.trp];exact hqcv.trp,by rw[k2.cod];exact hqcv.cod,k2.cv⟩
 have zvs:z.vs=(c.cl [slv (some gc) 4 c.tc]):=by rw[hz,MO.upd_vs (MeO.like.refl _)];unfold MO.vs;rw[hgc,hctl]
 have hmz:∀{S:Nat→Prop}{w':World},Mm S wB (⟨some gq,103,cv.cs++qc.cs.drop 2⟩::⟨some gc,52,c.tcs.set (tk*8+0) (.int .i64 1)⟩::W) w'→Mm S wB z.hps w':=fun h=>by
  rw[hz]
  refine MO.close_ (L:=[]) (m:=c.m) hctk ?_
  rw[hW,hgc,show ThO.hp {qc.reg 0 cv with d:={(qc.reg 0 cv).d with st:=1}}=⟨some gq,103,cv.cs++qc.cs.drop 2⟩ by unfold ThO.hp;rw[←hgq];rfl]
  exact h
 exact gRetN tab hs rfl (.cons (.cells rfl rfl rfl rfl (hm.ro (k:=0) (n:=5) (g:=g8) mem_ (cutF_ok rfl))) (.cons (.tmp rfl) .nil)) ⟨z,true,by rw[MO.v_vs,zvs];rfl,zo,zv,.inr ((hmz (hm.sub sub_)).new (List.Sublist.refl _)),hm.fr⟩
theorem wds_len2(l:List Int):(wds l).length=l.length*1:=by unfold wds;rw[List.length_map,Nat.mul_one]
theorem wds_one2(l:List Int):(wds l).all (·.oneCell')=true:=by
 rw[List.all_eq_true]
 intro v hv
 obtain⟨x,_,rfl⟩:=List.mem_map.1 hv
 rfl
structure CO where
 A:Option Nat
 c:Nat
 cs:List Value
 xs:List CN
def CO.v(r:CO):Value:=slv r.A r.xs.length r.c
def CO.hp(r:CO):Hp:=⟨r.A,95,r.cs⟩
def CO.ok(r:CO):Prop:=Row r.A r.xs.length r.c 4 (cns r.xs) r.cs
def CO.rd(r:CO):CnS:=⟨ad r.A,r.c,r.xs⟩
def WS.rd(r:WS):WV:=⟨ad r.A,r.c,r.xs⟩
def WV.ok(x:WV)(w:World):Prop:=Rd w w.heap.size x.A (wds x.xs)
theorem WV.ok.pu{x:WV}{w w':World}(h:x.ok w)(hf:Pu w w'):x.ok w':=hf.rd' h
theorem CO.rd_v(r:CO):r.rd.v=r.v:=rfl
theorem CO.rd_ok{S:Nat→Prop}{w0 w:World}{M:List Hp}{r:CO}(hm:Mm S w0 M w)(hM:r.hp∈M)(h:r.ok):r.rd.ok w:=hm.rd_row hM h
theorem WS.rd_ok{S:Nat→Prop}{w0 w:World}{M:List Hp}{r:WS}(hm:Mm S w0 M w)(hM:r.hp∈M)(h:r.ok):r.rd.ok w:=hm.rd_row hM h
theorem CO.rds_v(l:List CO):(l.map CO.rd).map CnS.v=l.map CO.v:=by rw[List.map_map];rfl
theorem CO.rds_xs(l:List CO):(l.map CO.rd).map CnS.xs=l.map CO.xs:=by rw[List.map_map];rfl
theorem CnS.vals_one(l:List CnS):(l.map CnS.v).all (·.oneCell')=true:=by
 rw[List.all_eq_true]
 intro v hv
 obtain⟨q,_,rfl⟩:=List.mem_map.1 hv
 rfl
theorem CO.snoc(rs:List CO)(r:CO):rs.map CO.v++[r.v]=(rs++[r]).map CO.v:=by simp
theorem CO.perm{S:Nat→Prop}{w0 w:World}{L:List Hp}{rs:List CO}{r:CO}(hm:Mm S w0 (r.hp::(L++rs.map CO.hp)) w):Mm S w0 (L++(rs++[r]).map CO.hp) w:=by
 refine hm.perm ?_
 rw[List.map_append,←List.append_assoc]
 exact List.perm_append_comm (l₁:=L++rs.map CO.hp) (l₂:=[r.hp])
theorem CO.take_snoc{rs:List CO}{qs:List CnS}{r:CO}(h:rs.map CO.xs=(qs.take rs.length).map CnS.xs)(hl:rs.length<qs.length)(hr:r.xs=(qs[rs.length]).xs):(rs++[r]).map CO.xs=(qs.take (rs++[r]).length).map CnS.xs:=by
 rw[List.map_append,h,List.length_append,List.length_singleton,List.take_succ_eq_append_getElem hl,List.map_append]
 simp[hr]
theorem WS.rds_v(l:List WS):(l.map WS.rd).map WV.v=l.map WS.v:=by rw[List.map_map];rfl
theorem WS.snoc(rs:List WS)(r:WS):rs.map WS.v++[r.v]=(rs++[r]).map WS.v:=by simp
theorem WS.perm{S:Nat→Prop}{w0 w:World}{L:List Hp}{rs:List WS}{r:WS}(hm:Mm S w0 (r.hp::(L++rs.map WS.hp)) w):Mm S w0 (L++(rs++[r]).map WS.hp) w:=by
 refine hm.perm ?_
 rw[List.map_append,←List.append_assoc]
 exact List.perm_append_comm (l₁:=L++rs.map WS.hp) (l₂:=[r.hp])
theorem WS.take_snoc{rs:List WS}{qs:List WV}{r:WS}(h:rs.map WS.xs=(qs.take rs.length).map WV.xs)(hl:rs.length<qs.length)(hr:r.xs=(qs[rs.length]).xs):(rs++[r]).map WS.xs=(qs.take (rs++[r]).length).map WV.xs:=by
 rw[List.map_append,h,List.length_append,List.length_singleton,List.take_succ_eq_append_getElem hl,List.map_append]
 simp[hr]
structure RrX where
 rs:List WS
 qA:Option Nat
 qc:Nat
 qcs:List Value
theorem cpin_c(A:Option Addr)(c:Nat)(qs:List WV)(wB:World)(hx:Rd wB wB.heap.size A (qs.map WV.v))(hqs:∀q∈qs,q.ok wB)(hq1:qs.length≤1000)(hsm:∀q∈qs,q.xs.length≤1000):Ret Tryz.prog 103 [.slice A qs.length c] wB (fun u w'=>∃(qA:Option Nat)(qc:Nat)(qcs:List Value)(rs:List WS),u=slv qA rs.length qc∧Row qA rs.length qc 1 (rs.map WS.v) qcs∧(∀r∈rs,r.ok)∧rs.map WS.xs=qs.map WV.xs∧rs.length=qs.length∧New wB w' (⟨qA,74,qcs⟩::rs.map WS.hp)∧Pu wB w'):=by
 refine enterR Tryz.func103 rfl rfl rfl fun a hs hm=>?_
 refine gsc5af_ ?_;clear hs hm a;intros;rename_i a hm hs
 replace hm:=hm.zero 74
 refine cLoop (X:=RrX) (fun X a w'=>X.rs.length≤qs.length∧Sl Tryz.f103.ntmps [(3,slv X.qA X.rs.length X.qc),(6,.slice A qs.length c),(7,.int .i64 (qs.length:Int)),(8,.int .i64 (X.rs.length:Int))] a∧Mm (fun _=>False) wB ([⟨X.qA,74,X.qcs⟩]++X.rs.map WS.hp) w'∧Row X.qA X.rs.length X.qc 1 (X.rs.map WS.v) X.qcs∧X.rs.map WS.xs=(qs.take X.rs.length).map WV.xs∧∀r∈X.rs,r.ok) (fun X=>qs.length-X.rs.length) ⟨[],none,0,[]⟩ ⟨Nat.zero_le _,(sb_ hs),hm,Row.empty 1,rfl,fun r hr=>by cases hr⟩ ?_
 clear hs hm a
 rintro⟨rs,qA,qc,qcs⟩ a w' ⟨hlen,hs,hm,hqr,hab,hok⟩
 dsimp only at hlen hs hm hqr hab hok
 by_cases hlt:rs.length<qs.length
 ·obtain⟨b1,o1,hA,hb1,r1⟩:=hx.ro (by rw[List.length_map];omega)
  obtain⟨q,hq⟩:∃q,q=qs[rs.length]:=⟨_,rfl⟩
  have hqm:q∈qs:=by rw[hq];exact List.getElem_mem hlt
  have hcell:(qs.map WV.v)[rs.length]?=some (.slice q.A q.xs.length q.c):=by rw[List.getElem?_map,List.getElem?_eq_getElem hlt,hq];rfl
  have hqo:=hqs q hqm
  have hqn:=hsm q hqm
  rw[hA]at hs
  refine gsc5af_ ?_;clear hs hm a;intros;rename_i a hm hs
  refine dv hs (Wnt.none rfl) rfl rfl (d_appendS (A:=none) (n:=0) (c:=0) (xs:=[]) (news:=wds q.xs) hs rfl rfl rfl rfl tab rfl rfl rfl rfl rfl (hm.zero 23) mem_ (Row.empty 1) (wds_len2 _) (hm.fr.rd' hqo) (wds_one2 _) (by show(0+q.xs.length)*2≤_;omega) (by omega)) ?_
  clear hs
  rintro _ w3 ⟨rA,rc,rcs,rfl,hrr,hM⟩ a hs
  replace hm:=hM _ rep_
  clear hM
  rw[Nat.zero_add,List.nil_append]at hrr
  rw[Nat.zero_add]at hs
  refine gsc5af_ ?_;clear hs hm a;intros;rename_i a hm hs
  refine dv hs (Wnt.none rfl) rfl rfl (d_append (A:=qA) (n:=rs.length) (c:=qc) (news:=[slv rA q.xs.length rc]) hs rfl rfl rfl rfl rfl tab rfl rfl rfl rfl rfl hm mem_ hqr rfl (hm.ro (n:=1) mem_ (cutF_ok rfl)) rfl (by show(rs.length+1)*24≤_;omega) (by omega)) ?_
  clear hs
  rintro _ w4 ⟨qA',qc',qcs',rfl,hqr',hM⟩ a hs
  replace hm:=hM _ rep_
  clear hM
  rw[show slv rA q.xs.length rc=WS.v ⟨rA,rc,rcs,q.xs⟩from rfl,WS.snoc]at hqr'
  refine gsc5af_ ?_;clear hs hm a;intros;rename_i a hm hs
  rw[←hA]at hs
  replace hm:=hm.sub (List.Sublist.cons _ (List.Sublist.refl _))
  refine⟨⟨rs++[⟨rA,rc,rcs,q.xs⟩],qA',qc',qcs'⟩,by dsimp only;rw[List.length_append,List.length_singleton];omega,by dsimp only;rw[List.length_append,List.length_singleton];omega,?_,?_,?_,WS.take_snoc hab hlt (by rw[hq]),?_⟩
  ·dsimp only
   rw[List.length_append,List.length_singleton]
   exact(sb_ hs)
  ·exact WS.perm (r:=⟨rA,rc,rcs,q.xs⟩) (L:=[⟨qA',74,qcs'⟩]) hm
  ·dsimp only
   rw[List.length_append,List.length_singleton]
   exact hqr'
  ·intro z hz
   rcases List.mem_append.1 hz with hz|hz
   ·exact hok z hz
   ·rcases List.mem_singleton.1 hz with rfl;exact hrr
 ·have hln:rs.length=qs.length:=by omega
  refine gsc5af_ ?_;clear hs hm a;intros;rename_i a hm hs
  rw[hln,List.take_length]at hab
  exact gRet1 hs rfl rfl ⟨qA,qc,qcs,rs,rfl,hqr,hok,hab,hln,hm.new (List.Sublist.refl _),hm.fr⟩
structure OpD where
 f:Int
 o:Int
 w:Bool
def OpD.cs(x:OpD):List Value:=[.int .i64 x.f,.int .i64 x.o,.bool x.w]
theorem OpD.len(x:OpD):x.cs.length=3:=rfl
def ops(l:List OpD):List Value:=l.flatMap OpD.cs
theorem ops_len(l:List OpD):(ops l).length=l.length*3:=flat_len OpD.cs 3 OpD.len l
theorem ops_one(l:List OpD):(ops l).all (·.oneCell')=true:=flat_one (fun _=>rfl) l
structure FV where
 dA:Option Addr
 dc:Nat
 ds:List CnS
 oA:Option Addr
 oc:Nat
 os:List OpD
def FV.v(x:FV):Value:= .agg #[.slice x.dA x.ds.length x.dc,.slice x.oA x.os.length x.oc]
abbrev FV.cl(f:FV)(t:List Value):List Value:= .slice f.dA f.ds.length f.dc:: .slice f.oA f.os.length f.oc::t
structure FV.ok(x:FV)(w:World):Prop where
 d:Rd w w.heap.size x.dA (x.ds.map CnS.v)
 o:Rd w w.heap.size x.oA (ops x.os)
 dd:∀y∈x.ds,y.ok w
theorem FV.ok.pu{x:FV}{w w':World}(h:x.ok w)(hf:Pu w w'):x.ok w':=⟨hf.rd' h.d,hf.rd' h.o,fun y hy=>(h.dd y hy).pu hf⟩
structure FD where
 ds:List (List CN)
 os:List OpD
def FV.d'(x:FV):FD:=⟨x.ds.map CnS.xs,x.os⟩
structure OpD.fit(x:OpD)(ds:List (List CN)):Prop where
 free:x.f=-1→x.o=0∧x.w=false
 at_:¬x.f=-1→∃(k:Nat)(d:List CN),x.f=(k:Int)∧ds[k]?=some d∧0≤x.o∧x.o≤(d.length:Int)
structure FD.val(x:FD):Prop where
 n:x.ds.length≤4
 o:x.os.length=8
 d:∀d∈x.ds,d.length≤64∧∀c∈d,c.val
 fit:∀y∈x.os,y.fit x.ds
structure FO where
 dA:Option Nat
 dc:Nat
 dcs:List Value
 ds:List CO
 oA:Option Nat
 oc:Nat
 ocs:List Value
 os:List OpD
def FO.v(x:FO):Value:= .agg #[slv x.dA x.ds.length x.dc,slv x.oA x.os.length x.oc]
def FO.hps(x:FO):List Hp:=⟨x.dA,93,x.dcs⟩::⟨x.oA,212,x.ocs⟩::x.ds.map CO.hp
structure FO.ok(x:FO):Prop where
 d:Row x.dA x.ds.length x.dc 1 (x.ds.map CO.v) x.dcs
 o:Row x.oA x.os.length x.oc 3 (ops x.os) x.ocs
 dd:∀y∈x.ds,y.ok
def FO.d'(x:FO):FD:=⟨x.ds.map CO.xs,x.os⟩
def FO.rd(x:FO):FV:=⟨ad x.dA,x.dc,x.ds.map CO.rd,ad x.oA,x.oc,x.os⟩
theorem FO.rd_v(x:FO):x.rd.v=x.v:=by
 unfold FO.rd FV.v FO.v
 dsimp only
 rw[List.length_map]
 rfl
theorem FO.rd_d(x:FO):x.rd.d'=x.d':=by
 unfold FO.rd FV.d' FO.d'
 dsimp only
 rw[CO.rds_xs]
theorem FO.rd_ok{S:Nat→Prop}{w0 w:World}{M:List Hp}{x:FO}(hm:Mm S w0 M w)(hM:∀h∈x.hps,h∈M)(h:x.ok):x.rd.ok w:=by
 refine⟨?_,hm.rd_row (hM _ (List.mem_cons_of_mem _ (List.mem_cons_self ..))) h.o,fun y hy=>?_⟩
 ·show Rd w w.heap.size (ad x.dA) ((x.ds.map CO.rd).map CnS.v)
  rw[CO.rds_v]
  exact hm.rd_row (hM _ (List.mem_cons_self ..)) h.d
 ·obtain⟨z,hz,rfl⟩:=List.mem_map.1 hy
  exact CO.rd_ok hm (hM _ (List.mem_cons_of_mem _ (List.mem_cons_of_mem _ (List.mem_map.2 ⟨z,hz,rfl⟩)))) (h.dd z hz)
def On(R:List Hp)(p:World→Prop):Prop:=∀(S:Nat→Prop)(w0 w:World)(M:List Hp),Mm S w0 M w→(∀h∈R,h∈M)→p w
theorem On.now{R:List Hp}{p:World→Prop}(h:On R p){S:Nat→Prop}{w0 w:World}{M:List Hp}(hm:Mm S w0 M w)(hM:∀h∈R,h∈M):p w:=h S w0 w M hm hM
theorem On.more{R R':List Hp}{p:World→Prop}(h:On R p)(hs:∀x∈R,x∈R'):On R' p:=fun S w0 w M hm hM=>h S w0 w M hm (fun x hx=>hM x (hs x hx))
theorem FO.on{y:FO}(h:y.ok):On y.hps y.rd.ok:=fun _ _ _ _ hm hM=>FO.rd_ok hm hM h
theorem CO.on{r:CO}(h:r.ok):On [r.hp] r.rd.ok:=fun _ _ _ _ hm hM=>CO.rd_ok hm (hM _ (List.mem_singleton.2 rfl)) h
structure OuV where
 seq:Int
 so:Int
 d:CnS
def OuV.v(x:OuV):List Value:=[.int .i64 x.seq,.int .i64 x.so,.slice x.d.A x.d.xs.length x.d.c]
theorem OuV.len(x:OuV):x.v.length=3:=rfl
structure OuD where
 seq:Int
 so:Int
 xs:List CN
def OuV.d'(x:OuV):OuD:=⟨x.seq,x.so,x.d.xs⟩
structure OuO where
 seq:Int
 so:Int
 d:CO
def OuO.v(x:OuO):List Value:=[.int .i64 x.seq,.int .i64 x.so,slv x.d.A x.d.xs.length x.d.c]
def OuO.hp(x:OuO):Hp:=x.d.hp
def OuO.d'(x:OuO):OuD:=⟨x.seq,x.so,x.d.xs⟩
def OuO.rd(x:OuO):OuV:=⟨x.seq,x.so,x.d.rd⟩
theorem OuO.rds_v(l:List OuO):(l.map OuO.rd).flatMap OuV.v=l.flatMap OuO.v:=by rw[List.flatMap_map];rfl
theorem OuO.rds_d(l:List OuO):(l.map OuO.rd).map OuV.d'=l.map OuO.d':=by rw[List.map_map];rfl
theorem OuO.snoc(rs:List OuO)(r:OuO):rs.flatMap OuO.v++r.v=(rs++[r]).flatMap OuO.v:=by rw[List.flatMap_append,List.flatMap_singleton]
theorem OuO.perm{S:Nat→Prop}{w0 w:World}{L:List Hp}{rs:List OuO}{r:OuO}(hm:Mm S w0 (r.hp::(L++rs.map OuO.hp)) w):Mm S w0 (L++(rs++[r]).map OuO.hp) w:=by
 refine hm.perm ?_
 rw[List.map_append,←List.append_assoc]
 exact List.perm_append_comm (l₁:=L++rs.map OuO.hp) (l₂:=[r.hp])
theorem OuO.take_snoc{rs:List OuO}{qs:List OuV}{r:OuO}(h:rs.map OuO.d'=(qs.take rs.length).map OuV.d')(hl:rs.length<qs.length)(hr:r.d'=(qs[rs.length]).d'):(rs++[r]).map OuO.d'=(qs.take (rs++[r]).length).map OuV.d':=by
 rw[List.map_append,h,List.length_append,List.length_singleton,List.take_succ_eq_append_getElem hl,List.map_append]
 simp[hr]
structure FcX where
 rs:List CO
 qA:Option Nat
 qc:Nat
 qcs:List Value
structure OcX where
 rs:List OuO
 qA:Option Nat
 qc:Nat
 qcs:List Value
theorem fcp_c(x:FV)(wB:World)(hx:x.ok wB)(hq1:x.ds.length≤1000)(ho1:x.os.length≤1000)(hsm:∀q∈x.ds,q.xs.length≤1000):Ret Tryz.prog 104 [x.v] wB (fun u w'=>∃y:FO,u=y.v∧y.ok∧y.d'=x.d'∧y.ds.length=x.ds.length∧New wB w' y.hps∧Pu wB w'):=by
 unfold FV.v
 refine enterR Tryz.func104 rfl rfl rfl fun a hs hm=>?_
 refine gsc5af_ ?_;clear hs hm a;intros;rename_i a hm hs
 obtain⟨g1,rfl⟩:=hs.pp 1
 obtain⟨g2,rfl⟩:=hs.pp 2
 refine dv hs (Wnt.none rfl) rfl rfl (d_appendS (A:=none) (n:=0) (c:=0) (xs:=[]) (news:=ops x.os) hs rfl rfl rfl rfl tab rfl rfl rfl rfl rfl (hm.zero 212) mem_ (Row.empty 3) (ops_len _) (hm.fr.rd' hx.o) (ops_one _) (by show(0+x.os.length)*24≤_;omega) (by omega)) ?_
 clear hs
 rintro _ w2 ⟨oA,oc,ocs,rfl,hor,hM⟩ a hs
 replace hm:=hM _ rep_
 clear hM
 rw[Nat.zero_add,List.nil_append]at hor
 rw[Nat.zero_add]at hs
 refine gsc5af_ ?_;clear hs hm a;intros;rename_i a hm hs
 obtain⟨g3,rfl⟩:=hs.pp 3
 replace hm:=(hm.zero 93).sel (M':=[⟨some g3,78,[nS,slv oA x.os.length oc]⟩,⟨none,93,[]⟩,⟨oA,212,ocs⟩,⟨some g2,78,[nS,nS]⟩]) [1,0,2,3] (by decide) rfl
 refine cLoop (X:=FcX) (fun X a w'=>X.rs.length≤x.ds.length∧Sl Tryz.f104.ntmps [(2,pt g2),(3,pt g3),(11,.slice x.dA x.ds.length x.dc),(12,.int .i64 (x.ds.length:Int)),(13,.int .i64 (X.rs.length:Int))] a∧Mm (fun _=>False) wB ([⟨some g3,78,[slv X.qA X.rs.length X.qc,slv oA x.os.length oc]⟩,⟨X.qA,93,X.qcs⟩,⟨oA,212,ocs⟩,⟨some g2,78,[nS,nS]⟩]++X.rs.map CO.hp) w'∧Row X.qA X.rs.length X.qc 1 (X.rs.map CO.v) X.qcs∧X.rs.map CO.xs=(x.ds.take X.rs.length).map CnS.xs∧∀r∈X.rs,r.ok) (fun X=>x.ds.length-X.rs.length) ⟨[],none,0,[]⟩ ⟨Nat.zero_le _,(sb_ hs),hm,Row.empty 1,rfl,fun r hr=>by cases hr⟩ ?_
 clear hs hm a
 rintro⟨rs,qA,qc,qcs⟩ a w' ⟨hlen,hs,hm,hqr,hab,hok⟩
 dsimp only at hlen hs hm hqr hab hok
 by_cases hlt:rs.length<x.ds.length
 ·obtain⟨b1,o1,hA,hb1,r1⟩:=hx.d.ro (by rw[List.length_map];omega)
  obtain⟨q,hq⟩:∃q,q=x.ds[rs.length]:=⟨_,rfl⟩
  have hqm:q∈x.ds:=by rw[hq];exact List.getElem_mem hlt
  have hcell:(x.ds.map CnS.v)[rs.length]?=some (.slice q.A q.xs.length q.c):=by rw[List.getElem?_map,List.getElem?_eq_getElem hlt,hq];rfl
  have hqo:=hx.dd q hqm
  have hqn:=hsm q hqm
  rw[hA]at hs
  refine gsc5af_ ?_;clear hs hm a;intros;rename_i a hm hs
  refine cMid (fun a w=>∃(r:CO)(qA':Option Nat)(qc':Nat)(qcs':List Value),r.ok∧r.xs=q.xs∧Row qA' (rs.length+1) qc' 1 ((rs++[r]).map CO.v) qcs'∧Sl Tryz.f104.ntmps [(2,pt g2),(3,pt g3),(11,.slice x.dA x.ds.length x.dc),(12,.int .i64 (x.ds.length:Int)),(13,.int .i64 (rs.length:Int))] a∧Mm (fun _=>False) wB (r.hp::([⟨some g3,78,[slv qA' (rs.length+1) qc',slv oA x.os.length oc]⟩,⟨qA',93,qcs'⟩,⟨oA,212,ocs⟩,⟨some g2,78,[nS,nS]⟩]++rs.map CO.hp)) w) ?_ ?_
  ·skip
   refine cDrawT (n:=8) (.s [0,2]<| .e [(1,.o 3<| .x<| .o 4<| .o 5<| .x<| .t 6<| .o 7<| .d),(3,.x<| .e [(1,.o 4<| .o 5<| .x<| .t 6<| .o 7<| .d),(4,.o 1<| .o 5<| .x<| .t 6<| .o 7<| .d)])]) [] hm rfl rfl ?_
   clear hm;intro t_ w1_ hm
   repeat' (first|(refine dg149e_ ?_;clear t_ hs hm a;intros;rename_i a hm hs t_)|refine tE t_ ?_|refine tC ?_ ?_|exact tN|intro t_|(refine oDo (i:=3) hs rfl (Wnt.none rfl) rfl rfl (by exact d_appendS (A:=none) (n:=0) (c:=0) (xs:=[]) (news:=cns q.xs) hs rfl rfl rfl rfl tab rfl rfl rfl rfl rfl (hm.zero 95) mem_ (Row.empty 4) (cns_len _) (hm.fr.rd' hqo) (cns_one _) (by show(0+q.xs.length)*24≤_;omega) (by omega)) ?_;clear hs;rintro _ w1 ⟨rA,rc,rcs,rfl,hrr,hM⟩ a hs;(replace hm:=hM _ rep_);(clear hM);(rw[Nat.zero_add,List.nil_append]at hrr);(rw[Nat.zero_add]at hs);replace t_:=tX t_;refine⟨(hm.sub sub_),?_⟩)|(refine oDo (i:=5) hs rfl (Wnt.none rfl) rfl rfl (by exact d_append (A:=qA) (n:=rs.length) (c:=qc) (news:=[slv rA q.xs.length rc]) hs rfl rfl rfl rfl rfl tab rfl rfl rfl rfl rfl hm mem_ hqr rfl (hm.ro (n:=1) mem_ (cutF_ok rfl)) rfl (by show(rs.length+1)*24≤_;omega) (by omega)) ?_;clear hs;rintro _ w1 ⟨qA',qc',qcs',rfl,hqr',hM⟩ a hs;(replace hm:=hM _ rep_);(clear hM);replace t_:=tX t_;refine⟨(hm.sub sub_),?_⟩)|(refine tD t_ ?_;(rw[show slv rA q.xs.length rc=CO.v ⟨rA,rc,rcs,q.xs⟩from rfl,CO.snoc]at hqr');(rw[←hA]at hs);(exact And.intro rfl ⟨⟨rA,rc,rcs,q.xs⟩,qA',qc',qcs',hrr,rfl,hqr',(sb_ hs),hm.sub (List.Sublist.cons _ (List.Sublist.refl _))⟩))|fail)
  clear hs hm a hqr
  rintro a w ⟨r,qA',qc',qcs',hro,hrx,hqr',hs,hm⟩
  refine gsc5af_ ?_;clear hs hm a;intros;rename_i a hm hs
  refine⟨⟨rs++[r],qA',qc',qcs'⟩,by dsimp only;rw[List.length_append,List.length_singleton];omega,by dsimp only;rw[List.length_append,List.length_singleton];omega,?_,?_,?_,CO.take_snoc hab hlt (by rw[hrx,hq]),?_⟩
  ·dsimp only
   rw[List.length_append,List.length_singleton]
   exact(sb_ hs)
  ·dsimp only
   rw[List.length_append,List.length_singleton]
   exact CO.perm hm
  ·dsimp only
   rw[List.length_append,List.length_singleton]
   exact hqr'
  ·intro z hz
   rcases List.mem_append.1 hz with hz|hz
   ·exact hok z hz
   ·rcases List.mem_singleton.1 hz with rfl;exact hro
 ·have hln:rs.length=x.ds.length:=by omega
  refine gsc5af_ ?_;clear hs hm a;intros;rename_i a hm hs
  rw[hln,List.take_length]at hab
  refine gRetN tab hs rfl (.cons (.cells rfl rfl rfl rfl (hm.ro (k:=0) (n:=2) (g:=g2) mem_ (cutF_ok rfl))) .nil) ⟨⟨qA,qc,qcs,rs,oA,oc,ocs,x.os⟩,rfl,⟨hqr,hor,hok⟩,by unfold FO.d' FV.d';rw[hab],hln,hm.new ?_,hm.fr⟩
  unfold FO.hps
  dsimp only
  exact zbd11_
theorem ocp_c(A:Option Addr)(c:Nat)(qs:List OuV)(wB:World)(hx:Rd wB wB.heap.size A (qs.flatMap OuV.v))(hqs:∀q∈qs,q.d.ok wB)(hq1:qs.length≤1000)(hsm:∀q∈qs,q.d.xs.length≤1000):Ret Tryz.prog 105 [.slice A qs.length c] wB (fun u w'=>∃(qA:Option Nat)(qc:Nat)(qcs:List Value)(rs:List OuO),u=slv qA rs.length qc∧Row qA rs.length qc 3 (rs.flatMap OuO.v) qcs∧(∀r∈rs,r.d.ok)∧rs.map OuO.d'=qs.map OuV.d'∧rs.length=qs.length∧New wB w' (⟨qA,192,qcs⟩::rs.map OuO.hp)∧Pu wB w'):=by
 refine enterR Tryz.func105 rfl rfl rfl fun a hs hm=>?_
 refine gsc5af_ ?_;clear hs hm a;intros;rename_i a hm hs
 replace hm:=hm.zero 192
 refine cLoop (X:=OcX) (fun X a w'=>X.rs.length≤qs.length∧Sl Tryz.f105.ntmps [(3,slv X.qA X.rs.length X.qc),(6,.slice A qs.length c),(7,.int .i64 (qs.length:Int)),(8,.int .i64 (X.rs.length:Int))] a∧Mm (fun _=>False) wB ([⟨X.qA,192,X.qcs⟩]++X.rs.map OuO.hp) w'∧Row X.qA X.rs.length X.qc 3 (X.rs.flatMap OuO.v) X.qcs∧X.rs.map OuO.d'=(qs.take X.rs.length).map OuV.d'∧∀r∈X.rs,r.d.ok) (fun X=>qs.length-X.rs.length) ⟨[],none,0,[]⟩ ⟨Nat.zero_le _,(sb_ hs),hm,Row.empty 3,rfl,fun r hr=>by cases hr⟩ ?_
 clear hs hm a
 rintro⟨rs,qA,qc,qcs⟩ a w' ⟨hlen,hs,hm,hqr,hab,hok⟩
 dsimp only at hlen hs hm hqr hab hok
 by_cases hlt:rs.length<qs.length
 ·obtain⟨b1,o1,hA,hb1,r1⟩:=hx.ro (by rw[flat_len OuV.v 3 OuV.len];omega)
  obtain⟨q,hq⟩:∃q,qs[rs.length]=q:=⟨_,rfl⟩
  have hqm:q∈qs:=by rw[←hq];exact List.getElem_mem hlt
  have r2:=r1.flat OuV.len hlt
  rw[hq]at r2
  unfold OuV.v at r2
  have hqo:=hqs q hqm
  have hqn:=hsm q hqm
  rw[hA]at hs
  refine gsc5af_ ?_;clear hs hm a;intros;rename_i a hm hs
  obtain⟨g5,rfl⟩:=hs.pp 5
  refine dv hs (Wnt.none rfl) rfl rfl (d_appendS (A:=none) (n:=0) (c:=0) (xs:=[]) (news:=cns q.d.xs) hs rfl rfl rfl rfl tab rfl rfl rfl rfl rfl (hm.zero 95) mem_ (Row.empty 4) (cns_len _) (hm.fr.rd' hqo) (cns_one _) (by show(0+q.d.xs.length)*24≤_;omega) (by omega)) ?_
  clear hs
  rintro _ w3 ⟨rA,rc,rcs,rfl,hrr,hM⟩ a hs
  replace hm:=hM _ rep_
  clear hM
  rw[Nat.zero_add,List.nil_append]at hrr
  rw[Nat.zero_add]at hs
  refine gsc5af_ ?_;clear hs hm a;intros;rename_i a hm hs
  refine dv hs (Wnt.none rfl) rfl rfl (d_append (A:=qA) (n:=rs.length) (c:=qc) (news:=[.int .i64 q.seq,.int .i64 q.so,slv rA q.d.xs.length rc]) hs rfl rfl rfl rfl rfl tab rfl rfl rfl rfl rfl hm mem_ hqr rfl (hm.ro (n:=3) mem_ (cutF_ok rfl)) rfl (by show(rs.length+1)*40≤_;omega) (by omega)) ?_
  clear hs
  rintro _ w4 ⟨qA',qc',qcs',rfl,hqr',hM⟩ a hs
  replace hm:=hM _ rep_
  clear hM
  rw[show[.int .i64 q.seq,.int .i64 q.so,slv rA q.d.xs.length rc]=OuO.v ⟨q.seq,q.so,⟨rA,rc,rcs,q.d.xs⟩⟩from rfl,OuO.snoc]at hqr'
  refine gsc5af_ ?_;clear hs hm a;intros;rename_i a hm hs
  rw[←hA]at hs
  replace hm:=hm.sub (List.Sublist.cons _ (List.Sublist.cons_cons _ (List.Sublist.cons _ (List.Sublist.refl _))))
  refine⟨⟨rs++[⟨q.seq,q.so,⟨rA,rc,rcs,q.d.xs⟩⟩],qA',qc',qcs'⟩,by dsimp only;rw[List.length_append,List.length_singleton];omega,by dsimp only;rw[List.length_append,List.length_singleton];omega,?_,?_,?_,OuO.take_snoc hab hlt (by rw[hq];rfl),?_⟩
  ·dsimp only
   rw[List.length_append,List.length_singleton]
   exact(sb_ hs)
  ·exact OuO.perm (r:=⟨q.seq,q.so,⟨rA,rc,rcs,q.d.xs⟩⟩) (L:=[⟨qA',192,qcs'⟩]) hm
  ·dsimp only
   rw[List.length_append,List.length_singleton]
   exact hqr'
  ·intro z hz
   rcases List.mem_append.1 hz with hz|hz
   ·exact hok z hz
   ·rcases List.mem_singleton.1 hz with rfl;exact hrr
 ·have hln:rs.length=qs.length:=by omega
  refine gsc5af_ ?_;clear hs hm a;intros;rename_i a hm hs
  rw[hln,List.take_length]at hab
  exact gRet1 hs rfl rfl ⟨qA,qc,qcs,rs,rfl,hqr,hok,hab,hln,hm.new (List.Sublist.refl _),hm.fr⟩
theorem gpSgw0_{G H:Prop}(k:H)(s:Bx H→G:=by intro k_;(repeat(first|(refine ovR_ ?_;(try clear hs a);intro a hs)|((with_reducible apply lCons);first|(refine dv hs gw_ rfl rfl da_ ?_;(try clear hs hm a);rintro _ w_ ⟨g_,rfl,-,hm⟩ a hs)|(refine stn hs rfl rfl ds_ ?_;(try clear hs hm a);rintro-w_ hm a hs))|refine sc_ ?_));have m_:=hm;have s_:=hs;clear hs;(try clear hm);revert m_ s_ a;(try revert w_);(repeat revert g_);exact k_.h):G:=s ⟨k⟩
theorem gcSgw1_{G H:Prop}(k:H)(s:Bx H→G:=by intro k_;(repeat(first|(refine ovR_ ?_;(try clear hs a);intro a hs)|((with_reducible apply lCons);first|(refine dv hs gw_ rfl rfl da_ ?_;(try clear hs hm a);rintro _ w_ ⟨g_,rfl,-,hm⟩ a hs)|(refine stn hs rfl rfl ds_ ?_;(try clear hs hm a);rintro-w_ hm a hs))|refine sc_ ?_|((with_reducible apply lCons);first|(refine dvc hs hm gw_ rfl rfl rfl rfl rfl (pl 141 rfl) (k2 _ hm.fr) ?_;(try clear hs hm a);intro w_ hm a hs))));(first|(have m_:=hm;have s_:=hs;clear hs;(try clear hm);revert m_ s_ a)|((first|refine rexc_ hs hm ?_|refine rexl_ hs hm ?_|refine rexg_ hs hm ?_|refine rexq_ hs hm ?_);intro a hm hs;revert hm hs a));(try revert w_);(repeat revert g_);exact k_.h):G:=s ⟨k⟩
theorem FV.at_{x:FV}{k:Nat}{d:List CN}(h:x.d'.ds[k]?=some d):∃(hk:k<x.ds.length),(x.ds[k]).xs=d:=by
 have h':(x.ds.map CnS.xs)[k]?=some d:=h
 rw[List.getElem?_map]at h'
 cases hx:x.ds[k]? with
 |none=>rw[hx]at h';cases h'
 |some y=>
  rw[hx]at h'
  obtain⟨hk,hy⟩:=List.getElem?_eq_some_iff.1 hx
  exact⟨hk,by rw[hy];exact Option.some.inj h'⟩
theorem FV.len_(x:FV):x.d'.ds.length=x.ds.length:=by show(x.ds.map CnS.xs).length=_;rw[List.length_map]
theorem FV.mem_{x:FV}{y:CnS}(h:y∈x.ds):y.xs∈x.d'.ds:=List.mem_map.2 ⟨y,h,rfl⟩
theorem fval_c(x:FV)(wB:World)(hx:x.ok wB)(h:x.d'.val):Ret Tryz.prog 101 [x.v] wB (fun u w'=>u= .bool true∧Pu wB w'):=by
 have hn:=h.n
 rw[FV.len_]at hn
 have ho:x.os.length=8:=h.o
 have hro:=hx.o
 unfold FV.v
 refine enterR Tryz.func101 rfl rfl rfl fun a hs hm=>?_
 refine gsce98_ ?_;clear hs hm a;intros;rename_i a hm hs
 obtain⟨g1,rfl⟩:=hs.pp 1
 refine cLoop (X:=Nat) (fun k a w'=>k≤x.ds.length∧Sl Tryz.f101.ntmps [(1,.pointer (some ⟨g1,0,none⟩)),(18,.slice x.dA x.ds.length x.dc),(19,.int .i64 (x.ds.length:Int)),(20,.int .i64 (k:Int))] a∧Mm (fun _=>False) wB [⟨some g1,78,[.slice x.dA x.ds.length x.dc,.slice x.oA x.os.length x.oc]⟩] w') (fun k=>x.ds.length-k) 0 ⟨Nat.zero_le _,(sb_ hs),hm⟩ ?_
 clear hs hm a
 rintro k a w' ⟨hk,hs,hm⟩
 by_cases hlt:k<x.ds.length
 ·obtain⟨b1,o1,hA,hb1,r1⟩:=hx.d.ro (by rw[List.length_map];omega)
  obtain⟨q,hq⟩:∃q,q=x.ds[k]:=⟨_,rfl⟩
  have hqm:q∈x.ds:=by rw[hq];exact List.getElem_mem hlt
  have hcell:(x.ds.map CnS.v)[k]?=some (.slice q.A q.xs.length q.c):=by rw[List.getElem?_map,List.getElem?_eq_getElem hlt,hq];rfl
  have hqo:=hx.dd q hqm
  obtain⟨hq1,hq2⟩:=h.d _ (FV.mem_ hqm)
  have kc:=fun w'' (hf:Pu wB w'')=>ccls_c q 64 w'' (hqo.pu hf) hq2 (by omega) (by omega)
  unfold CnS.v at kc
  rw[hA]at hs hm
  repeat(first|(refine gpSgw0_ ?_;clear hs hm a;intros;rename_i a hm hs)|refine sc_ ?_|((with_reducible apply lCons);first|(refine dvc hs hm gw_ rfl rfl rfl rfl rfl (pl 96 rfl) (kc _ hm.fr) ?_;clear hs hm a;intro w hm a hs)))
  rw[←hA]at hs hm
  exact zb7e7_
 ·obtain rfl:k=x.ds.length:=by omega
  obtain⟨b1,o1,hA,hb1,r1⟩:=hro.ro (by rw[ops_len];omega)
  rw[hA,ho]at hm
  refine gsce98_ ?_;clear hs hm a;intros;rename_i a hm hs
  refine cLoop (X:=Nat) (fun k a w'=>k≤8∧Sl Tryz.f101.ntmps [(1,.pointer (some ⟨g1,0,none⟩)),(29,.slice (some ⟨b1,o1,none⟩) 8 x.oc),(30,.int .i64 ((8:Nat):Int)),(31,.int .i64 (k:Int))] a∧Mm (fun _=>False) wB [⟨some g1,78,[.slice x.dA x.ds.length x.dc,.slice (some ⟨b1,o1,none⟩) 8 x.oc]⟩] w') (fun k=>8-k) 0 ⟨Nat.zero_le _,(sb_ hs),hm⟩ ?_
  clear hs hm a
  rintro k a w' ⟨hk,hs,hm⟩
  by_cases hlt:k<8
  ·have r2:=r1.flat OpD.len (by omega:k<x.os.length)
   have hfit:=h.fit _ (List.getElem_mem (by omega:k<x.os.length))
   change OpD.fit (x.os[k]'(by omega)) _ at hfit
   generalize(x.os[k]'(by omega))=q at r2 hfit
   obtain⟨qf,qo,qw⟩:=q
   unfold OpD.cs at r2
   obtain⟨f1,f2⟩:=hfit
   dsimp only at f1 f2 r2
   by_cases hf:qf=-1
   ·obtain⟨rfl,rfl⟩:=f1 hf
    subst hf
    refine gqb0e8_ ?_;clear hs hm a;intros;rename_i a hm hs
    exact zfe81_
   ·obtain⟨j,d,rfl,hd,f3,f4⟩:=f2 hf
    obtain⟨hj,hjd⟩:=FV.at_ hd
    obtain⟨b3,o3,hA3,hb3,r3⟩:=hx.d.ro (by rw[List.length_map];omega)
    have hcell:(x.ds.map CnS.v)[j]?=some (.slice (x.ds[j]).A (x.ds[j]).xs.length (x.ds[j]).c):=by rw[List.getElem?_map,List.getElem?_eq_getElem hj];rfl
    rw[hjd]at hcell
    rw[hA3]at hm
    refine gqb0e8_ ?_;clear hs hm a;intros;rename_i a hm hs
    rw[←hA3]at hm
    exact zfe81_
  ·obtain rfl:k=8:=by omega
   refine gsce98_ ?_;clear hs hm a;intros;rename_i a hm hs
   exact gRet1 hs rfl rfl ⟨rfl,hm.fr⟩
def opnB(l:List OpD)(h:Int):Bool:=decide (0≤h)&&((l[h.toNat]?).map fun y=>!decide (y.f=-1)).getD false
theorem opnB_out{l:List OpD}{h:Int}(hh:h<0∨(l.length:Int)≤h):opnB l h=false:=by
 unfold opnB
 rcases hh with hh|hh
 ·rw[decide_eq_false (by omega),Bool.false_and]
 ·rw[List.getElem?_eq_none (by omega)]
  simp
theorem opnB_at{l:List OpD}{k:Nat}{y:OpD}(h:l[k]?=some y):opnB l (k:Int)=!decide (y.f=-1):=by
 unfold opnB
 rw[decide_eq_true (by omega),Bool.true_and,Int.toNat_natCast,h]
 rfl
theorem opnB_t{l:List OpD}{h:Int}(hh:opnB l h=true):∃(k:Nat)(y:OpD),h=(k:Int)∧l[k]?=some y∧¬y.f=-1:=by
 by_cases h1:h<0∨(l.length:Int)≤h
 ·rw[opnB_out h1]at hh;cases hh
 ·obtain⟨k,rfl⟩:∃k:Nat,h=(k:Int):=⟨h.toNat,by omega⟩
  have e:=List.getElem?_eq_getElem (l:=l) (i:=k) (by omega)
  rw[opnB_at e]at hh
  exact⟨k,_,rfl,e,by simpa using hh⟩
theorem open_c(x:FV)(h:Int)(wB:World)(hx:x.ok wB)(hn:x.os.length≤1000):Ret Tryz.prog 141 [x.v,.int .i64 h] wB (fun u w'=>u= .bool (opnB x.os h)∧Pu wB w'):=by
 have hro:=hx.o
 unfold FV.v
 by_cases h1:0≤h
 ·by_cases h2:h<(x.os.length:Int)
  ·obtain⟨k,rfl⟩:∃k:Nat,h=(k:Int):=⟨h.toNat,by omega⟩
   obtain⟨b1,o1,hA,hb1,r1⟩:=hro.ro (by rw[ops_len];omega)
   have hk:k<x.os.length:=by omega
   have r2:=r1.flat OpD.len hk
   rw[opnB_at (List.getElem?_eq_getElem hk)]
   generalize x.os[k]=q at r2
   obtain⟨qf,qo,qw⟩:=q
   unfold OpD.cs at r2
   dsimp only at r2
   rw[hA]
   by_cases hf:qf=-1
   ·subst hf
    refine enterR Tryz.func141 rfl rfl rfl fun a hs hm=>?_
    refine gsce98_ ?_;clear hs hm a;intros;rename_i a hm hs
    exact gRet1 hs rfl rfl ⟨rfl,hm.fr⟩
   ·refine enterR Tryz.func141 rfl rfl rfl fun a hs hm=>?_
    refine gsce98_ ?_;clear hs hm a;intros;rename_i a hm hs
    refine gRet1 hs rfl rfl ⟨?_,hm.fr⟩
    simp[hf]
  ·rw[opnB_out (.inr (by omega))]
   refine enterR Tryz.func141 rfl rfl rfl fun a hs hm=>?_
   refine gsce98_ ?_;clear hs hm a;intros;rename_i a hm hs
   exact gRet1 hs rfl rfl ⟨rfl,hm.fr⟩
 ·rw[opnB_out (.inl (by omega))]
  refine enterR Tryz.func141 rfl rfl rfl fun a hs hm=>?_
  refine gsce98_ ?_;clear hs hm a;intros;rename_i a hm hs
  exact gRet1 hs rfl rfl ⟨rfl,hm.fr⟩
theorem FO.out{S:Nat→Prop}{w0 w:World}{y:FO}(hm:Mm S w0 y.hps w)(h:y.ok):y.rd.ok w:=FO.rd_ok hm (fun _ h=>h) h
theorem FD.set_os{x:FD}(h:x.val)(k:Nat){y:OpD}(hy:y.fit x.ds):FD.val ⟨x.ds,x.os.set k y⟩:=⟨h.n,by show(x.os.set k y).length=8;rw[List.length_set];exact h.o,h.d,fun z hz=>by
 rcases List.mem_or_eq_of_mem_set hz with hz|rfl
 ·exact h.fit z hz
 ·exact hy⟩
theorem ops_splice{A:Option Nat}{c:Nat}{l:List OpD}{cs:List Value}(h:Row A l.length c 3 (ops l) cs){k:Nat}(hk:k<l.length)(y:OpD):Row A l.length c 3 (ops (l.set k y)) (cs.take (k*3)++y.cs++cs.drop (k*3+3)):=by
 have hsp:=h.splice (o:=k*3) (ys:=y.cs) (by rw[OpD.len];omega)
 rw[OpD.len,show(ops l).take (k*3)++y.cs++(ops l).drop (k*3+3)=ops (l.set k y)from flat_splice OpD.cs 3 OpD.len l k y hk]at hsp
 exact hsp
theorem clos_c(x:FV)(h:Int)(wB:World)(hx:x.ok wB)(hv:x.d'.val):Ret Tryz.prog 135 [x.v,.int .i64 h] wB (fun u w'=>∃(y:FV)(b:Bool)(R:List Hp),u= .tuple #[y.v,.bool b]∧On R y.ok∧New wB w' R∧y.d'.val∧Pu wB w'):=by
 have hn:=hv.n
 rw[FV.len_]at hn
 have ho:x.os.length=8:=hv.o
 have k1:=fun w'' (hf:Pu wB w'')=>fcp_c x w'' (hx.pu hf) (by omega) (by omega) (fun q hq=>by have:=(hv.d _ (FV.mem_ hq)).1;omega)
 have k2:=fun w'' (hf:Pu wB w'')=>open_c x h w'' (hx.pu hf) (by omega)
 unfold FV.v at k1 k2 ⊢
 refine enterR Tryz.func135 rfl rfl rfl fun a hs hm=>?_
 refine gsce98_ ?_;clear hs hm a;intros;rename_i a hm hs
 obtain⟨g2,rfl⟩:=hs.pp 2
 obtain⟨g4,rfl⟩:=hs.pp 4
 refine st hs rfl rfl rfl (d_call hs rfl rfl rfl (pl 104 rfl) ((k1 _ hm.fr))) ?_;clear hs a;rintro _ w1 ⟨y,rfl,hyo,hyd,hyn,hN,hf⟩ a hs
 replace hm:=gainE hm hf hN
 clear hN hf
 have hyv:y.d'.val:=hyd▸hv
 have hyos:y.os=x.os:=congrArg FD.os hyd
 obtain⟨dA,dc,dcs,ds,oA,oc,ocs,os⟩:=y
 unfold FO.v at hs
 unfold FO.hps at hm
 have hos8:os.length=8:=hyv.o
 simp only[List.cons_append,List.nil_append]at hm
 dsimp only at hs hm hyn hyos
 have hor:=hyo.o
 dsimp only at hor
 obtain⟨go,rfl⟩:=hor.some_ (by omega)
 rw[hos8]at hs
 have hfin:∀(ocs':List Value)(os':List OpD)(b:Bool)(w':World),Row (some go) os'.length oc 3 (ops os') ocs'→FD.val ⟨ds.map CO.xs,os'⟩→Mm (fun _=>False) wB (⟨dA,93,dcs⟩::⟨some go,212,ocs'⟩::ds.map CO.hp) w'→∃(y:FV)(b':Bool)(R:List Hp),Value.tuple #[.agg #[slv dA ds.length dc,slv (some go) 8 oc],.bool b]= .tuple #[y.v,.bool b']∧On R y.ok∧New wB w' R∧y.d'.val∧Pu wB w':=
  fun ocs' os' b w' h1 h2 h3=>⟨FO.rd ⟨dA,dc,dcs,ds,some go,oc,ocs',os'⟩,b,_,by
   have h8:os'.length=8:=h2.o
   rw[FO.rd_v]
   unfold FO.v
   dsimp only
   rw[h8],FO.on ⟨hyo.d,h1,hyo.dd⟩,h3.new (List.Sublist.refl _),by rw[FO.rd_d];exact h2,h3.fr⟩
 cases hb:opnB x.os h
 ·rw[hb]at k2
  refine gcSgw1_ ?_;clear hs hm a;intros;rename_i a hm hs
  exact gRetN tab hs rfl (.cons (.cells rfl rfl rfl rfl (hm.ro (k:=0) (n:=2) (g:=g4) mem_ (cutF_ok rfl))) (.cons (.tmp rfl) .nil)) (hfin ocs os false _ hor hyv (hm.sub sub_))
 ·rw[hb]at k2
  obtain⟨k,z,rfl,hk,hz⟩:=opnB_t hb
  have hkl:=(List.getElem?_eq_some_iff.1 hk).1
  have hocl:=hor.len
  have hocle:=hor.le
  refine gcSgw1_ ?_;clear hs hm a;intros;rename_i a hm hs
  refine stn hs rfl rfl (d_store hs rfl rfl rfl tab rfl rfl rfl rfl hm rep_ (putG (by show k*3+3≤_;omega))) ?_
  clear hs hm a
  rintro-w hm a hs
  refine gsce98_ ?_;clear hs hm a;intros;rename_i a hm hs
  exact gRetN tab hs rfl (.cons (.cells rfl rfl rfl rfl (hm.ro (k:=0) (n:=2) (g:=g4) mem_ (cutF_ok rfl))) (.cons (.tmp rfl) .nil)) (hfin _ _ true _ (by rw[List.length_set];exact ops_splice hor (by omega) ⟨-1,0,false⟩) (FD.set_os hyv k ⟨fun _=>⟨rfl,rfl⟩,fun e=>absurd rfl e⟩) (hm.sub sub_))
theorem gcSgx0_{G H:Prop}(k:H)(s:Bx H→G:=by intro k_;(repeat(first|(refine oqR_ ?_;(try clear hs a);intro a hs)|((with_reducible apply lCons);first|(refine dv hs gw_ rfl rfl da_ ?_;(try clear hs hm a);rintro _ w_ ⟨g_,rfl,-,hm⟩ a hs)|(refine stn hs rfl rfl ds_ ?_;(try clear hs hm a);rintro-w_ hm a hs))|((with_reducible apply qNil);(try clear hm);intro w_ hm)|refine cQ_ ?_|refine sc_ ?_|((with_reducible apply lCons);first|(refine dvc hs hm gw_ rfl rfl rfl rfl rfl (pl 141 rfl) (k2 _ hm.fr) ?_;(try clear hs hm a);intro w_ hm a hs))|((with_reducible apply qCons);first|(refine qwc hs gw_ rfl rfl rfl rfl rfl (pl 141 rfl) (fun w hm=>k2 _ hm.fr) ?_;(try clear hs a);intro a hs))));(first|(have m_:=hm;have s_:=hs;clear hs;(try clear hm);revert m_ s_ a)|((first|refine rexc_ hs hm ?_|refine rexl_ hs hm ?_|refine rexg_ hs hm ?_|refine rexq_ hs hm ?_);intro a hm hs;revert hm hs a));(try revert w_);(repeat revert g_);exact k_.h):G:=s ⟨k⟩
theorem seek_c(x:FV)(h off:Int)(wB:World)(hx:x.ok wB)(hv:x.d'.val):Ret Tryz.prog 136 [x.v,.int .i64 h,.int .i64 off] wB (fun u w'=>∃(y:FV)(b:Bool)(R:List Hp),u= .tuple #[y.v,.bool b]∧On R y.ok∧New wB w' R∧y.d'.val∧Pu wB w'):=by
 have hn:=hv.n
 rw[FV.len_]at hn
 have ho:x.os.length=8:=hv.o
 have k1:=fun w'' (hf:Pu wB w'')=>fcp_c x w'' (hx.pu hf) (by omega) (by omega) (fun q hq=>by have:=(hv.d _ (FV.mem_ hq)).1;omega)
 have k2:=fun w'' (hf:Pu wB w'')=>open_c x h w'' (hx.pu hf) (by omega)
 have hro:=hx.o
 unfold FV.v at k1 k2 ⊢
 refine enterR Tryz.func136 rfl rfl rfl fun a hs hm=>?_
 refine gsce98_ ?_;clear hs hm a;intros;rename_i a hm hs
 obtain⟨g3,rfl⟩:=hs.pp 3
 obtain⟨g6,rfl⟩:=hs.pp 6
 refine st hs rfl rfl rfl (d_call hs rfl rfl rfl (pl 104 rfl) ((k1 _ hm.fr))) ?_;clear hs a;rintro _ w1 ⟨y,rfl,hyo,hyd,hyn,hN,hf⟩ a hs
 replace hm:=gainE hm hf hN
 clear hN hf
 have hyv:y.d'.val:=hyd▸hv
 have hyos:y.os=x.os:=congrArg FD.os hyd
 have hyds:y.ds.map CO.xs=x.d'.ds:=congrArg FD.ds hyd
 obtain⟨dA,dc,dcs,ds,oA,oc,ocs,os⟩:=y
 unfold FO.v at hs
 unfold FO.hps at hm
 have hos8:os.length=8:=hyv.o
 simp only[List.cons_append,List.nil_append]at hm
 dsimp only at hs hm hyn hyos hyds
 have hor:=hyo.o
 have hdr:=hyo.d
 dsimp only at hor hdr
 obtain⟨go,rfl⟩:=hor.some_ (by omega)
 rw[hos8]at hs
 have hfin:∀(ocs':List Value)(os':List OpD)(b:Bool)(w':World),Row (some go) os'.length oc 3 (ops os') ocs'→FD.val ⟨ds.map CO.xs,os'⟩→Mm (fun _=>False) wB (⟨dA,93,dcs⟩::⟨some go,212,ocs'⟩::ds.map CO.hp) w'→∃(y:FV)(b':Bool)(R:List Hp),Value.tuple #[.agg #[slv dA ds.length dc,slv (some go) 8 oc],.bool b]= .tuple #[y.v,.bool b']∧On R y.ok∧New wB w' R∧y.d'.val∧Pu wB w':=
  fun ocs' os' b w' h1 h2 h3=>⟨FO.rd ⟨dA,dc,dcs,ds,some go,oc,ocs',os'⟩,b,_,by
   have h8:os'.length=8:=h2.o
   rw[FO.rd_v]
   unfold FO.v
   dsimp only
   rw[h8],FO.on ⟨hyo.d,h1,hyo.dd⟩,h3.new (List.Sublist.refl _),by rw[FO.rd_d];exact h2,h3.fr⟩
 cases hb:opnB x.os h
 ·rw[hb]at k2
  refine gcSgx0_ ?_;clear hs hm a;intros;rename_i g w a hm hs
  exact gRetN tab hs rfl (.cons (.cells rfl rfl rfl rfl (hm.ro (k:=0) (n:=2) (g:=g6) mem_ (cutF_ok rfl))) (.cons (.tmp rfl) .nil)) (hfin ocs os false _ hor hyv (hm.sub sub_))
 ·rw[hb]at k2
  obtain⟨k,z,rfl,hk,hz⟩:=opnB_t hb
  have hkl:=(List.getElem?_eq_some_iff.1 hk).1
  have hocl:=hor.len
  have hocle:=hor.le
  obtain⟨b1,o1,hA,hb1,r1⟩:=hro.ro (by rw[ops_len];omega)
  have r2:=r1.flat OpD.len hkl
  rw[(List.getElem?_eq_some_iff.1 hk).2]at r2
  obtain⟨j,d,hzf,hd,f3,f4⟩:=(hv.fit z (List.mem_of_getElem? hk)).at_ hz
  unfold OpD.cs at r2
  rw[hzf]at r2
  obtain⟨hj,hjd⟩:=FV.at_ hd
  obtain⟨b3,o3,hA3,hb3,r3⟩:=hx.d.ro (by rw[List.length_map];omega)
  have hcell:(x.ds.map CnS.v)[j]?=some (.slice (x.ds[j]).A (x.ds[j]).xs.length (x.ds[j]).c):=by rw[List.getElem?_map,List.getElem?_eq_getElem hj];rfl
  rw[hjd]at hcell
  rw[hA,hA3]at hs hm k2
  by_cases h1:0≤off
  ·by_cases h2:off≤(d.length:Int)
   ·refine gcSgx0_ ?_;clear hs hm a;intros;rename_i a hm hs
    have hks:os[k]?=some z:=by rw[hyos];exact hk
    have hse:=hor.set (k*3+1) (.int .i64 off)
    rw[show(ops os).set (k*3+1) (.int .i64 off)=ops (os.set k ⟨z.f,off,z.w⟩)from flat_set OpD.cs 3 OpD.len os k 1 z (.int .i64 off) hks (by omega) ⟨z.f,off,z.w⟩ rfl]at hse
    have hft:OpD.fit ⟨z.f,off,z.w⟩ (ds.map CO.xs):=⟨fun e=>absurd e hz,fun _=>⟨j,d,hzf,by rw[hyds];exact hd,h1,h2⟩⟩
    exact gRetN tab hs rfl (.cons (.cells rfl rfl rfl rfl (hm.ro (k:=0) (n:=2) (g:=g6) mem_ (cutF_ok rfl))) (.cons (.tmp rfl) .nil)) (hfin (ocs.set (k*3+1) (.int .i64 off)) (os.set k ⟨z.f,off,z.w⟩) true _ (by rw[List.length_set];exact hse) (FD.set_os (x:=⟨ds.map CO.xs,os⟩) hyv k hft) (hm.sub sub_))
   ·refine gcSgx0_ ?_;clear hs hm a;intros;rename_i g w a hm hs
    exact gRetN tab hs rfl (.cons (.cells rfl rfl rfl rfl (hm.ro (k:=0) (n:=2) (g:=g6) mem_ (cutF_ok rfl))) (.cons (.tmp rfl) .nil)) (hfin ocs os false _ hor hyv (hm.sub sub_))
  ·refine gcSgx0_ ?_;clear hs hm a;intros;rename_i g w a hm hs
   exact gRetN tab hs rfl (.cons (.cells rfl rfl rfl rfl (hm.ro (k:=0) (n:=2) (g:=g6) mem_ (cutF_ok rfl))) (.cons (.tmp rfl) .nil)) (hfin ocs os false _ hor hyv (hm.sub sub_))
theorem dgSgy0_{G H:Prop}(k:H)(s:Bx H→G:=by intro k_;(repeat(first|(refine tTake t_ hs rfl (by kernel_rfl) gw_ rfl rfl (by intro w hm;replace hm:Mm _ _ _ w:=hm;(first|exact kvR_|exact r_loadO hs rfl rfl tab rfl rfl rfl hm (by repeat(first|exact mH|apply mT)) (by assumption))) (hm.sub sub_) ?_;(try clear t_ hs a);intro t_ a hs)|(refine tTakeN t_ hs rfl (by kernel_rfl) rfl rfl rfl rfl rfl rfl rfl (hm.sub sub_) ?_;(try clear t_ hs a);intro t_ a hs)|(refine tTakeU t_ hs rfl (by kernel_rfl) rfl rfl rfl rfl rfl rfl (hm.sub sub_) ?_;(try clear t_ hs a);intro t_ a hs)|(refine tE1 t_ ?_;(try clear t_);intro t_)|(refine nx_ t_ rfl ?_;have t_:=t_;first|(refine oDo hs rfl gw_ rfl rfl da_ ?_;(try clear hs hm a);rintro _ w_ ⟨g_,rfl,-,hm⟩ a hs;refine⟨(hm.sub sub_),?_⟩)|(refine oDoN hs rfl gw_ rfl ds_ ?_;(try clear hs hm a);rintro-w_ hm a hs;refine⟨(hm.sub sub_),?_⟩)|(refine oDoV hs rfl gw_ rfl rfl (by(first|exact klR_|exact r_loadO hs rfl rfl tab rfl rfl rfl hm (by repeat(first|exact mH|apply mT)) (by assumption))) ?_;(try clear hs a);intro a hs;refine⟨(hm.sub sub_),?_⟩))));have y_:=t_;clear t_;(first|(have m_:=hm;have s_:=hs;have z_:=y_;clear hs;(try clear hm);revert m_ s_ z_ a)|((first|refine rexd_ hs hm ?_|refine rexb_ hs hm ?_);intro a hm hs;have z_:=y_;revert hm hs z_ a));(try revert w_);(repeat revert g_);exact k_.h):G:=s ⟨k⟩
theorem OpD.fit_set{y:OpD}{ds:List (List CN)}{f:Nat}(h:y.fit ds)(h0:y.f=(f:Int)→y.o=0):y.fit (ds.set f []):=⟨h.free,fun e=>by
 obtain⟨k,d,h1,h2,h3,h4⟩:=h.at_ e
 by_cases hk:f=k
 ·subst hk
  exact⟨f,[],h1,List.getElem?_set_self (List.getElem?_eq_some_iff.1 h2).1,by rw[h0 h1];exact Int.le_refl _,by rw[h0 h1];exact Int.le_refl _⟩
 ·exact⟨k,d,h1,by rw[List.getElem?_set_ne hk];exact h2,h3,h4⟩⟩
theorem CO.rows_set{A:Option Nat}{c:Nat}{l:List CO}{cs:List Value}(h:Row A l.length c 1 (l.map CO.v) cs)(k:Nat)(y:CO):Row A l.length c 1 ((l.set k y).map CO.v) (cs.set k y.v):=by
 have:=h.set k y.v
 rwa[←List.map_set]at this
theorem CO.mm_set{S:Nat→Prop}{w0 w:World}{L:List Hp}{l:List CO}{k:Nat}{q r:CO}(hm:Mm S w0 (L++l.map CO.hp) w)(h:l[k]?=some q) (hr:r.hp=⟨none,95,[]⟩):Mm S w0 (L++(l.set k r).map CO.hp) w:=by
 refine Mm.backG CO.hp (List.getElem?_eq_some_iff.1 h).1 ?_
 rw[hr]
 exact(((Mm.frontG CO.hp hm h).sub (List.Sublist.cons _ (List.Sublist.refl _))).zero _)
theorem FD.cut{ds:List (List CN)}{os:List OpD}{f:Nat}(h:FD.val ⟨ds,os⟩)(os':List OpD)(h8:os'.length=8)(h1:∀y∈os',y.fit ds)(h0:∀y∈os',y.f=(f:Int)→y.o=0):FD.val ⟨ds.set f [],os'⟩:=⟨by show(ds.set f []).length≤4;rw[List.length_set];exact h.n,h8,fun d hd=>by
 rcases List.mem_or_eq_of_mem_set hd with hd|rfl
 ·exact h.d d hd
 ·exact⟨Nat.zero_le _,fun c hc=>by cases hc⟩,fun y hy=>OpD.fit_set (h1 y hy) (h0 y hy)⟩
theorem cMidE{P:Program}{Q:Exit→Act→World→Prop}{a:Act}{w:World}{c:Code}(e0:Exit)(I:Act→World→Prop)(h:c.wp P (fun e a w=>e=e0∧I a w) a w)(k:∀a w,I a w→Goes Q e0 a w):c.wp P Q a w:=
 wp_mono h fun e a w ⟨he,hi⟩=>by subst he;exact k a w hi
structure OnX where
 j:Nat
 os:List OpD
 ocs:List Value
theorem opn_c(x:FV)(f m:Int)(wB:World)(hx:x.ok wB)(hv:x.d'.val):Ret Tryz.prog 134 [x.v,.int .i64 f,.int .i64 m] wB (fun u w'=>∃(y:FV)(h:Int)(R:List Hp),u= .tuple #[y.v,.int .i64 h]∧-1≤h∧h≤7∧On R y.ok∧New wB w' R∧y.d'.val∧Pu wB w'):=by
 have hn:=hv.n
 rw[FV.len_]at hn
 have ho:x.os.length=8:=hv.o
 have k1:=fun w'' (hf:Pu wB w'')=>fcp_c x w'' (hx.pu hf) (by omega) (by omega) (fun q hq=>by have:=(hv.d _ (FV.mem_ hq)).1;omega)
 have hro:=hx.o
 obtain⟨b1,o1,hA,hb1,r1⟩:=hro.ro (by rw[ops_len];omega)
 unfold FV.v at k1 ⊢
 rw[hA]at k1 ⊢
 rw[ho]at k1 ⊢
 refine enterR Tryz.func134 rfl rfl rfl fun a hs hm=>?_
 refine gsce98_ ?_;clear hs hm a;intros;rename_i a hm hs
 obtain⟨g3,rfl⟩:=hs.pp 3
 obtain⟨g6,rfl⟩:=hs.pp 6
 refine st hs rfl rfl rfl (d_call hs rfl rfl rfl (pl 104 rfl) ((k1 _ hm.fr))) ?_;clear hs a;rintro _ w1 ⟨y,rfl,hyo,hyd,hyn,hN,hf⟩ a hs
 replace hm:=gainE hm hf hN
 clear hN hf k1
 have hyv:y.d'.val:=hyd▸hv
 have hyos:y.os=x.os:=congrArg FD.os hyd
 have hyds:y.ds.map CO.xs=x.d'.ds:=congrArg FD.ds hyd
 obtain⟨dA,dc,dcs,ds,oA,oc,ocs,os⟩:=y
 unfold FO.v at hs
 unfold FO.hps at hm
 have hos8:os.length=8:=hyv.o
 simp only[List.cons_append,List.nil_append]at hm
 dsimp only at hs hm hyn hyos hyds
 have hor:=hyo.o
 have hdr:=hyo.d
 dsimp only at hor hdr
 obtain⟨go,rfl⟩:=hor.some_ (by omega)
 rw[hos8]at hs
 have hfin:∀(dcs':List Value)(ds':List CO)(ocs':List Value)(os':List OpD)(h:Int)(w':World),-1≤h∧h≤7→ds'.length=ds.length→Row dA ds.length dc 1 (ds'.map CO.v) dcs'→(∀r∈ds',r.ok)→Row (some go) os'.length oc 3 (ops os') ocs'→FD.val ⟨ds'.map CO.xs,os'⟩→Mm (fun _=>False) wB (⟨dA,93,dcs'⟩::⟨some go,212,ocs'⟩::ds'.map CO.hp) w'→∃(y:FV)(h':Int)(R:List Hp),Value.tuple #[.agg #[slv dA ds.length dc,slv (some go) 8 oc],.int .i64 h]= .tuple #[y.v,.int .i64 h']∧-1≤h'∧h'≤7∧On R y.ok∧New wB w' R∧y.d'.val∧Pu wB w':=
  fun dcs' ds' ocs' os' h w' hh hl h0 h00 h1 h2 h3=>⟨FO.rd ⟨dA,dc,dcs',ds',some go,oc,ocs',os'⟩,h,_,by
   have h8:os'.length=8:=h2.o
   rw[FO.rd_v]
   unfold FO.v
   dsimp only
   rw[h8,hl],hh.1,hh.2,FO.on ⟨by dsimp only;rw[hl];exact h0,h1,h00⟩,h3.new (List.Sublist.refl _),by rw[FO.rd_d];exact h2,h3.fr⟩
 have hocl:=hor.len
 have hocle:=hor.le
 refine gsce98_ ?_;clear hs hm a;intros;rename_i a hm hs
 obtain⟨g8,rfl⟩:=hs.pp 8
 refine cMidE (.exit 0) (fun a w=>∃k:Nat,k≤8∧Sl Tryz.f134.ntmps [(1,.int .i64 f),(2,.int .i64 m),(3,pt g3),(6,pt g6),(8,pt g8),(9,.int .i64 (k:Int))] a∧Mm (fun _=>False) wB (⟨some g8,78,[slv dA ds.length dc,slv (some go) 8 oc]⟩::⟨some g6,78,[nS,nS]⟩::⟨some g3,78,[.slice x.dA x.ds.length x.dc,.slice (some ⟨b1,o1,none⟩) 8 x.oc]⟩::⟨dA,93,dcs⟩::⟨some go,212,ocs⟩::ds.map CO.hp) w) ?_ ?_
 ·refine cLoop (X:=Nat) (fun k a w=>k≤8∧Sl Tryz.f134.ntmps [(1,.int .i64 f),(2,.int .i64 m),(3,pt g3),(6,pt g6),(8,pt g8),(9,.int .i64 (k:Int))] a∧Mm (fun _=>False) wB (⟨some g8,78,[slv dA ds.length dc,slv (some go) 8 oc]⟩::⟨some g6,78,[nS,nS]⟩::⟨some g3,78,[.slice x.dA x.ds.length x.dc,.slice (some ⟨b1,o1,none⟩) 8 x.oc]⟩::⟨dA,93,dcs⟩::⟨some go,212,ocs⟩::ds.map CO.hp) w) (fun k=>8-k) 0 ⟨Nat.zero_le _,(sb_ hs),hm⟩ ?_
  clear hs hm a
  rintro k a w ⟨hk,hs,hm⟩
  by_cases hlt:k<8
  ·have r2:=r1.flat OpD.len (by omega:k<x.os.length)
   generalize(x.os[k]'(by omega))=q at r2
   obtain⟨qf,qo,qw⟩:=q
   unfold OpD.cs at r2
   dsimp only at r2
   by_cases hf:qf=-1
   ·subst hf
    refine gsce98_ ?_;clear hs hm a;intros;rename_i a hm hs
    exact And.intro rfl ⟨k,hk,(sb_ hs),hm⟩
   ·refine gsce98_ ?_;clear hs hm a;intros;rename_i a hm hs
    exact zb7e7_
  ·refine gsce98_ ?_;clear hs hm a;intros;rename_i a hm hs
   exact And.intro rfl ⟨k,hk,(sb_ hs),hm⟩
 clear hs hm a
 rintro a w ⟨k,hk,hs,hm⟩
 by_cases hA1:0≤f
 rotate_left
 ·refine gsce98_ ?_;clear hs hm a;intros;rename_i a hm hs
  exact z5095_
 by_cases hA2:f<(x.ds.length:Int)
 rotate_left
 ·refine gsce98_ ?_;clear hs hm a;intros;rename_i a hm hs
  exact z5095_
 by_cases hA3:0≤m
 rotate_left
 ·refine gsce98_ ?_;clear hs hm a;intros;rename_i a hm hs
  exact z5095_
 by_cases hA4:m≤2
 rotate_left
 ·refine gsce98_ ?_;clear hs hm a;intros;rename_i a hm hs
  exact z5095_
 by_cases hA5:k<8
 rotate_left
 ·obtain rfl:k=8:=by omega
  refine gsce98_ ?_;clear hs hm a;intros;rename_i a hm hs
  exact z5095_
 obtain⟨fk,rfl⟩:∃k:Nat,f=(k:Int):=⟨f.toNat,by omega⟩
 have hfd:fk<ds.length:=by omega
 obtain⟨gd,rfl⟩:=hdr.some_ (by omega)
 have hdcl:=hdr.len
 have hdcle:=hdr.le
 refine gsce98_ ?_;clear hs hm a;intros;rename_i a hm hs
 refine cMid (fun a w=>∃(dcs':List Value)(ds':List CO)(ocs':List Value)(os':List OpD),ds'.length=ds.length∧Row (some gd) ds.length dc 1 (ds'.map CO.v) dcs'∧(∀r∈ds',r.ok)∧Row (some go) os'.length oc 3 (ops os') ocs'∧FD.val ⟨ds'.map CO.xs,os'⟩∧Sl Tryz.f134.ntmps [(1,.int .i64 (fk:Int)),(2,.int .i64 m),(3,pt g3),(6,pt g6),(8,pt g8),(9,.int .i64 (k:Int))] a∧Mm (fun _=>False) wB (⟨some g8,78,[slv (some gd) ds.length dc,slv (some go) 8 oc]⟩::⟨some g6,78,[nS,nS]⟩::⟨some gd,93,dcs'⟩::⟨some go,212,ocs'⟩::ds'.map CO.hp) w) ?_ ?_
 ·with_reducible repeat(first|apply gThen|apply wp_seq)
  by_cases hm1:m=1
  rotate_left
  ·refine gsce98_ ?_;clear hs hm a;intros;rename_i a hm hs
   exact And.intro rfl ⟨dcs,ds,ocs,os,rfl,hdr,hyo.dd,hor,hyv,(sb_ hs),hm.sub sub_⟩
  subst hm1
  refine gsce98_ ?_;clear hs hm a;intros;rename_i a hm hs
  obtain⟨q0,hq0⟩:∃q,ds[fk]?=some q:=⟨_,List.getElem?_eq_getElem hfd⟩
  have hrs:=CO.rows_set hdr fk ⟨none,0,[],[]⟩
  replace hm:=CO.mm_set (r:=⟨none,0,[],[]⟩) (L:=[⟨some g8,78,[slv (some gd) ds.length dc,slv (some go) 8 oc]⟩,⟨some g6,78,[nS,nS]⟩,⟨some g3,78,[.slice x.dA x.ds.length x.dc,.slice (some ⟨b1,o1,none⟩) 8 x.oc]⟩,⟨some gd,93,dcs.set fk (nS)⟩,⟨some go,212,ocs⟩]) hm hq0 rfl
  simp only[List.cons_append,List.nil_append]at hm
  rw[hos8]at hor
  refine cLoop (X:=OnX) (fun X a w=>X.j≤8∧X.os.length=8∧Row (some go) 8 oc 3 (ops X.os) X.ocs∧(∀y∈X.os,y.fit (ds.map CO.xs))∧(∀i y,i<X.j→X.os[i]?=some y→y.f=(fk:Int)→y.o=0)∧Sl Tryz.f134.ntmps [(1,.int .i64 (fk:Int)),(2,.int .i64 1),(3,pt g3),(6,pt g6),(8,pt g8),(9,.int .i64 (k:Int)),(62,.int .i64 ((8:Nat):Int)),(63,.int .i64 (X.j:Int))] a∧Mm (fun _=>False) wB (⟨some g8,78,[slv (some gd) ds.length dc,slv (some go) 8 oc]⟩::⟨some g6,78,[nS,nS]⟩::⟨some gd,93,dcs.set fk (nS)⟩::⟨some go,212,X.ocs⟩::(ds.set fk ⟨none,0,[],[]⟩).map CO.hp) w) (fun X=>8-X.j) ⟨0,os,ocs⟩ ⟨Nat.zero_le _,hos8,hor,hyv.fit,(fun i y h=>absurd h (Nat.not_lt_zero _)),(sb_ hs),hm.sub sub_⟩ ?_
  clear hs hm a
  rintro⟨j,us,ucs⟩ a w ⟨hj,hul,hur,huf,hu0,hs,hm⟩
  dsimp only at hj hul hur huf hu0 hs hm
  have hucl:=hur.len
  have hucle:=hur.le
  by_cases hlt:j<8
  ·obtain⟨z,hz⟩:∃z,us[j]?=some z:=⟨_,List.getElem?_eq_getElem (by omega)⟩
   have hg:∀i v,i<3→z.cs[i]?=some v→ucs[j*3+i]?=some v:=fun i v hi hv=>hur.get (by rw[show ops us=us.flatMap OpD.cs from rfl,flat_get OpD.cs 3 OpD.len us j i (by omega) hi,(List.getElem?_eq_some_iff.1 hz).2];exact hv)
   have hg0:=hg 0 _ (by omega) rfl
   by_cases hf:z.f=(fk:Int)
   ·refine gsce98_ ?_;clear hs hm a;intros;rename_i a hm hs
    have hse:=hur.set (j*3+1) (.int .i64 0)
    rw[show(ops us).set (j*3+1) (.int .i64 0)=ops (us.set j ⟨z.f,0,z.w⟩)from flat_set OpD.cs 3 OpD.len us j 1 z (.int .i64 0) hz (by omega) ⟨z.f,0,z.w⟩ rfl]at hse
    have hzm:=huf z (List.mem_of_getElem? hz)
    refine⟨⟨j+1,us.set j ⟨z.f,0,z.w⟩,ucs.set (j*3+1) (.int .i64 0)⟩,by dsimp only;omega,by dsimp only;omega,by dsimp only;rw[List.length_set];exact hul,hse,fun y hy=>?_,fun i y hi hy hyf=>?_,(sb_ hs),hm⟩
    ·rcases List.mem_or_eq_of_mem_set hy with hy|rfl
     ·exact huf y hy
     ·exact⟨fun e=>⟨rfl,(hzm.free e).2⟩,fun e=>by
       obtain⟨k',d',e1,e2,e3,e4⟩:=hzm.at_ e
       exact⟨k',d',e1,e2,Int.le_refl _,by dsimp only;omega⟩⟩
    ·by_cases hij:i=j
     ·subst hij
      rw[List.getElem?_set_self (by omega)]at hy
      obtain rfl:=Option.some.inj hy
      rfl
     ·rw[List.getElem?_set_ne (fun h=>hij h.symm)]at hy
      exact hu0 i y (by dsimp only at hi;omega) hy hyf
   ·refine gsce98_ ?_;clear hs hm a;intros;rename_i a hm hs
    refine⟨⟨j+1,us,ucs⟩,by dsimp only;omega,by dsimp only;omega,hul,hur,huf,fun i y hi hy hyf=>?_,(sb_ hs),hm⟩
    by_cases hij:i=j
    ·subst hij
     rw[hz]at hy
     obtain rfl:=Option.some.inj hy
     exact absurd hyf hf
    ·exact hu0 i y (by dsimp only at hi;omega) hy hyf
  ·obtain rfl:j=8:=by omega
   refine gsce98_ ?_;clear hs hm a;intros;rename_i a hm hs
   refine And.intro rfl ⟨_,_,ucs,us,by rw[List.length_set],hrs,fun r hr=>?_,by rw[hul];exact hur,?_,(sb_ hs),hm⟩
   ·rcases List.mem_or_eq_of_mem_set hr with hr|rfl
    ·exact hyo.dd r hr
    ·exact Row.empty 4
   ·have:=FD.cut (f:=fk) hyv us hul huf (fun y hy hyf=>by
     obtain⟨i,hi,rfl⟩:=List.getElem_of_mem hy
     exact hu0 i _ (by omega) (List.getElem?_eq_getElem hi) hyf)
    rw[List.map_set]
    exact this
 clear hs hm a
 rintro a w ⟨dcs',ds',ocs',os',e1,e2,e3,e4,e5,hs,hm⟩
 have hocl:=e4.len
 have hocle:=e4.le
 have h8:os'.length=8:=e5.o
 have hcell:∀q,ds'[fk]?=some q→dcs'[fk]?=some (slv q.A q.xs.length q.c):=fun q hq=>e2.get (by rw[List.getElem?_map,hq];rfl)
 obtain⟨q,hq⟩:∃q,ds'[fk]?=some q:=⟨_,List.getElem?_eq_getElem (by omega)⟩
 replace hcell:=hcell q hq
 have hqd:(ds'.map CO.xs)[fk]?=some q.xs:=by rw[List.getElem?_map,hq];rfl
 have hm3:m=0∨m=1∨m=2:=by omega
 rcases hm3 with rfl|rfl|rfl
 ·skip
  refine gsce98_ ?_;clear hs hm a;intros;rename_i a hm hs
  refine stn hs rfl rfl (d_store hs rfl rfl rfl tab rfl rfl rfl rfl hm rep_ (putG (by show k*3+3≤_;omega))) ?_
  clear hs hm a
  rintro-w hm a hs
  refine gsce98_ ?_;clear hs hm a;intros;rename_i a hm hs
  have hft:OpD.fit ⟨(fk:Int),0,false⟩ (ds'.map CO.xs):=⟨fun e=>absurd e (by dsimp only;omega),fun _=>⟨fk,q.xs,rfl,hqd,by dsimp only;omega,by dsimp only;omega⟩⟩
  exact gRetN tab hs rfl (.cons (.cells rfl rfl rfl rfl (hm.ro (k:=0) (n:=2) (g:=g6) mem_ (cutF_ok rfl))) (.cons (.tmp rfl) .nil)) (hfin dcs' ds' (ocs'.take (k*3)++OpD.cs ⟨fk,0,false⟩++ocs'.drop (k*3+3)) (os'.set k ⟨fk,0,false⟩) k _ (by omega) e1 e2 e3 (by rw[List.length_set];exact ops_splice e4 (by omega) _) (FD.set_os (x:=⟨ds'.map CO.xs,os'⟩) e5 k hft) (hm.sub sub_))
 ·skip
  refine gsce98_ ?_;clear hs hm a;intros;rename_i a hm hs
  refine stn hs rfl rfl (d_store hs rfl rfl rfl tab rfl rfl rfl rfl hm rep_ (putG (by show k*3+3≤_;omega))) ?_
  clear hs hm a
  rintro-w hm a hs
  refine gsce98_ ?_;clear hs hm a;intros;rename_i a hm hs
  have hft:OpD.fit ⟨(fk:Int),0,true⟩ (ds'.map CO.xs):=⟨fun e=>absurd e (by dsimp only;omega),fun _=>⟨fk,q.xs,rfl,hqd,by dsimp only;omega,by dsimp only;omega⟩⟩
  exact gRetN tab hs rfl (.cons (.cells rfl rfl rfl rfl (hm.ro (k:=0) (n:=2) (g:=g6) mem_ (cutF_ok rfl))) (.cons (.tmp rfl) .nil)) (hfin dcs' ds' (ocs'.take (k*3)++OpD.cs ⟨fk,0,true⟩++ocs'.drop (k*3+3)) (os'.set k ⟨fk,0,true⟩) k _ (by omega) e1 e2 e3 (by rw[List.length_set];exact ops_splice e4 (by omega) _) (FD.set_os (x:=⟨ds'.map CO.xs,os'⟩) e5 k hft) (hm.sub sub_))
 ·skip
  refine gsce98_ ?_;clear hs hm a;intros;rename_i a hm hs
  refine stn hs rfl rfl (d_store hs rfl rfl rfl tab rfl rfl rfl rfl hm rep_ (putG (by show k*3+3≤_;omega))) ?_
  clear hs hm a
  rintro-w hm a hs
  have hrC:=ops_splice e4 (k:=k) (by omega) ⟨fk,0,true⟩
  obtain⟨C,hC⟩:∃C,C=ocs'.take (k*3)++OpD.cs ⟨fk,0,true⟩++ocs'.drop (k*3+3):=⟨_,rfl⟩
  rw[←hC]at hrC
  replace hm:Mm (fun _=>False) wB (⟨some g8,78,[slv (some gd) ds.length dc,slv (some go) 8 oc]⟩::⟨some g6,78,[nS,nS]⟩::⟨some gd,93,dcs'⟩::⟨some go,212,C⟩::ds'.map CO.hp) w:=by rw[hC];exact hm
  have hCl:=hrC.len
  refine gsce98_ ?_;clear hs hm a;intros;rename_i a hm hs
  refine cMid (fun a w=>Sl Tryz.f134.ntmps [(1,.int .i64 (fk:Int)),(2,.int .i64 2),(3,pt g3),(6,pt g6),(8,pt g8),(9,.int .i64 (k:Int))] a∧Mm (fun _=>False) wB (⟨some g8,78,[slv (some gd) ds.length dc,slv (some go) 8 oc]⟩::⟨some g6,78,[nS,nS]⟩::⟨some gd,93,dcs'⟩::⟨some go,212,C.set (k*3+1) (.int .i64 (q.xs.length:Int))⟩::ds'.map CO.hp) w) ?_ ?_
  ·with_reducible repeat(first|apply gThen|apply wp_seq)
   refine cDrawT (n:=12) (.s [0,1,2,3,4,5,6,7,8,9,10]<| .o 11<| .d) [⟨some g8,78,[slv (some gd) ds.length dc,slv (some go) 8 oc]⟩,⟨some gd,93,dcs'⟩] hm rfl rfl ?_
   clear hm;intro t_ w1_ hm
   repeat' (first|(refine dgSgy0_ ?_;clear t_ hs hm a;intros;rename_i a hm hs t_)|refine tE t_ ?_|refine tC ?_ ?_|exact tN|intro t_|(refine tD t_ ?_;(exact And.intro rfl ⟨(sb_ hs),hm⟩))|fail)
  clear hs hm a
  rintro a w ⟨hs,hm⟩
  refine gsce98_ ?_;clear hs hm a;intros;rename_i a hm hs
  have hft:OpD.fit ⟨(fk:Int),(q.xs.length:Int),true⟩ (ds'.map CO.xs):=⟨fun e=>absurd e (by dsimp only;omega),fun _=>⟨fk,q.xs,rfl,hqd,by dsimp only;omega,by dsimp only;omega⟩⟩
  have hse:=hrC.set (k*3+1) (.int .i64 (q.xs.length:Int))
  rw[show(ops (os'.set k ⟨fk,0,true⟩)).set (k*3+1) (.int .i64 (q.xs.length:Int))=ops ((os'.set k ⟨fk,0,true⟩).set k ⟨fk,q.xs.length,true⟩)from flat_set OpD.cs 3 OpD.len _ k 1 ⟨fk,0,true⟩ (.int .i64 (q.xs.length:Int)) (List.getElem?_set_self (by omega)) (by omega) ⟨fk,q.xs.length,true⟩ rfl,List.set_set]at hse
  exact gRetN tab hs rfl (.cons (.cells rfl rfl rfl rfl (hm.ro (k:=0) (n:=2) (g:=g6) mem_ (cutF_ok rfl))) (.cons (.tmp rfl) .nil)) (hfin dcs' ds' (C.set (k*3+1) (.int .i64 (q.xs.length:Int))) (os'.set k ⟨fk,q.xs.length,true⟩) k _ (by omega) e1 e2 e3 (by rw[List.length_set];exact hse) (FD.set_os (x:=⟨ds'.map CO.xs,os'⟩) e5 k hft) (hm.sub sub_))
theorem gcSgz0_{G H:Prop}(k:H)(s:Bx H→G:=by intro k_;(repeat(first|(refine oqa646_ ?_;(try clear hs a);intro a hs)|((with_reducible apply lCons);first|(refine dv hs gw_ rfl rfl da_ ?_;(try clear hs hm a);rintro _ w_ ⟨g_,rfl,-,hm⟩ a hs)|(refine stn hs rfl rfl ds_ ?_;(try clear hs hm a);rintro-w_ hm a hs))|((with_reducible apply qNil);(try clear hm);intro w_ hm)|refine cQ_ ?_|refine sc_ ?_|((with_reducible apply lCons);first|(refine dvc hs hm gw_ rfl rfl rfl rfl rfl (pl 141 rfl) (k2 _ hm.fr) ?_;(try clear hs hm a);intro w_ hm a hs))|((with_reducible apply qCons);first|(refine qwc hs gw_ rfl rfl rfl rfl rfl (pl 141 rfl) (fun w hm=>k2 _ hm.fr) ?_;(try clear hs a);intro a hs))));(first|(have m_:=hm;have s_:=hs;clear hs;(try clear hm);revert m_ s_ a)|((first|refine rexc_ hs hm ?_|refine rexl_ hs hm ?_|refine rexg_ hs hm ?_|refine rexq_ hs hm ?_);intro a hm hs;revert hm hs a));(try revert w_);(repeat revert g_);exact k_.h):G:=s ⟨k⟩
theorem dgSgz1_{G H:Prop}(k:H)(s:Bx H→G:=by intro k_;(repeat(first|(refine tTake t_ hs rfl (by kernel_rfl) gw_ rfl rfl (by intro w hm;replace hm:Mm _ _ _ w:=hm;(first|exact kvR_|exact r_min hs rfl rfl rfl|exact kb2_|exact ksl_|exact r_sliceGN hs rfl rfl rfl rfl tab rfl rfl rfl (by omega) (by omega)|exact r_loadO hs rfl rfl tab rfl rfl rfl hm (by repeat(first|exact mH|apply mT)) (by assumption))) (hm.sub sub_) ?_;(try clear t_ hs a);intro t_ a hs)|(refine tTakeN t_ hs rfl (by kernel_rfl) rfl rfl rfl rfl rfl rfl rfl (hm.sub sub_) ?_;(try clear t_ hs a);intro t_ a hs)|(refine tTakeU t_ hs rfl (by kernel_rfl) rfl rfl rfl rfl rfl rfl (hm.sub sub_) ?_;(try clear t_ hs a);intro t_ a hs)|(refine tE1 t_ ?_;(try clear t_);intro t_)|(refine nx_ t_ rfl ?_;have t_:=t_;first|(refine oDo hs rfl gw_ rfl rfl da_ ?_;(try clear hs hm a);rintro _ w_ ⟨g_,rfl,-,hm⟩ a hs;refine⟨(hm.sub sub_),?_⟩)|(refine oDoN hs rfl gw_ rfl ds_ ?_;(try clear hs hm a);rintro-w_ hm a hs;refine⟨(hm.sub sub_),?_⟩)|(refine oDoV hs rfl gw_ rfl rfl (by(first|exact klR_|exact r_loadO hs rfl rfl tab rfl rfl rfl hm (by repeat(first|exact mH|apply mT)) (by assumption))) ?_;(try clear hs a);intro a hs;refine⟨(hm.sub sub_),?_⟩))));have y_:=t_;clear t_;(first|(have m_:=hm;have s_:=hs;have z_:=y_;clear hs;(try clear hm);revert m_ s_ z_ a)|((first|refine rexd_ hs hm ?_|refine rexb_ hs hm ?_);intro a hm hs;have z_:=y_;revert hm hs z_ a));(try revert w_);(repeat revert g_);exact k_.h):G:=s ⟨k⟩
section
variable {P:Program} {T:List (Nat × TI)} {N:Nat} {L:List (Nat × Value)} {a:Act} {w:World} {o:Oper} {x y z:Operand} {t e:TypeId} {i j:TI} {A:Option Addr} {n c:Nat} {k k2:IntKind}
theorem r_sliceG{l h:Int}(hs:Sl N L a)(ho:o.op= .slice t x (some y) (some z) none)(hx:ev L x=some (.slice A n c))(hy:ev L y=some (.int k l))(hz:ev L z=some (.int k2 h))(hT:TabOk P T)(hc:tlk T t=some i)(hd:i.d= .sl e)(he:tlk T e=some j)(h0:0≤l)(h1:l≤h)(h2:h≤c):RunV P a o w (.slice (if c=l.toNat then A else A.map (·.add (l.toNat*j.sz))) (h.toNat-l.toNat) (c-l.toNat)):=by
 replace hx:=hs.ev hx;replace hy:=hs.ev hy;replace hz:=hs.ev hz
 have e2:0≤h:=by omega
 have e4:=run_sliceBound (P:=P) (w:=w) k l h.toNat BoundsCode.sliceB h0 (by omega)
 unfold RunV execOp
 simp[ho,hx,hy,hz,Instr.sliceAt,Instr.slice,run_und ((hT _ _ hc).sl hd),Instr.sliceBounds,run_sliceBound,h0,h2,e2,e4,run_sizeOf (hT _ _ he)]
theorem r_sliceGN{l h:Nat}(hs:Sl N L a)(ho:o.op= .slice t x (some y) (some z) none)(hx:ev L x=some (.slice A n c))(hy:ev L y=some (.int k (l:Int)))(hz:ev L z=some (.int k2 (h:Int)))(hT:TabOk P T)(hc:tlk T t=some i)(hd:i.d= .sl e)(he:tlk T e=some j)(h1:l≤h)(h2:h≤c):RunV P a o w (.slice (if c=l then A else A.map (·.add (l*j.sz))) (h-l) (c-l)):=
 r_sliceG hs ho hx hy hz hT hc hd he (Int.natCast_nonneg l) (by omega) (by omega)
end
theorem flat_cut{α:Type}{f:α→List Value}{s:Nat}(hs:∀a,(f a).length=s){xs:List α}{o k j:Nat}{v:Value}(hok:o≤xs.length)(h:(((xs.drop o).take k).flatMap f)[j]?=some v):(xs.flatMap f)[o*s+j]?=some v:=by
 have e:xs.flatMap f=(xs.take o).flatMap f++(((xs.drop o).take k).flatMap f++((xs.drop o).drop k).flatMap f):=by
  rw[←List.flatMap_append,List.take_append_drop,←List.flatMap_append,List.take_append_drop]
 have hl:((xs.take o).flatMap f).length=o*s:=by rw[flat_len f s hs,List.length_take,Nat.min_eq_left hok]
 have hj:=(List.getElem?_eq_some_iff.1 h).1
 rw[e,List.getElem?_append_right (by omega),hl,Nat.add_sub_cancel_left,List.getElem?_append_left hj]
 exact h
theorem rd_cut{α:Type}{f:α→List Value}{s:Nat}(hs:∀a,(f a).length=s){w:World}{B:Nat}{A:Option Addr}{xs:List α}(h:Rd w B A (xs.flatMap f)){o k c:Nat}(hok:o+k≤xs.length)(hc:xs.length≤c):Rd w B (if c=o then A else A.map (·.add (o*s))) (((xs.drop o).take k).flatMap f):=fun h0=>by
 have hk:0<k:=by
  rcases Nat.eq_zero_or_pos k with rfl|hk
  ·simp at h0
  ·exact hk
 have hl:0<(xs.flatMap f).length:=by
  have:=flat_cut (k:=k) hs (show o≤xs.length by omega) (List.getElem?_eq_getElem h0)
  exact Nat.lt_of_le_of_lt (Nat.zero_le _) (List.getElem?_eq_some_iff.1 this).1
 obtain⟨b,off,rfl,hb,hr⟩:=h.ro hl
 refine⟨b,off+o*s,?_,hb,fun j v hj=>?_⟩
 ·rw[if_neg (by omega)]
  simp[Addr.add]
 ·rw[Nat.add_assoc]
  exact hr _ v (flat_cut hs (by omega) hj)
theorem CO.mem_hp{l:List CO}{k:Nat}{q:CO}(h:l[k]?=some q):q.hp∈l.map CO.hp:=List.mem_map.2 ⟨q,List.mem_of_getElem? h,rfl⟩
theorem fread_c(x:FV)(h n:Int)(wB:World)(hx:x.ok wB)(hv:x.d'.val):Ret Tryz.prog 133 [x.v,.int .i64 h,.int .i64 n] wB (fun u w'=>∃(y:FV)(l:CnS)(b:Bool)(R:List Hp),u= .tuple #[y.v,l.v,.bool b]∧On R y.ok∧On R l.ok∧New wB w' R∧y.d'.val∧(∀c∈l.xs,c.val)∧l.xs.length≤64∧(l.xs.length:Int)≤max 0 n∧Pu wB w'):=by
 have hn:=hv.n
 rw[FV.len_]at hn
 have ho:x.os.length=8:=hv.o
 have k1:=fun w'' (hf:Pu wB w'')=>fcp_c x w'' (hx.pu hf) (by omega) (by omega) (fun q hq=>by have:=(hv.d _ (FV.mem_ hq)).1;omega)
 have k2:=fun w'' (hf:Pu wB w'')=>open_c x h w'' (hx.pu hf) (by omega)
 have hro:=hx.o
 obtain⟨b1,o1,hA,hb1,r1⟩:=hro.ro (by rw[ops_len];omega)
 unfold FV.v at k1 k2 ⊢
 rw[hA,ho]at k1 k2 ⊢
 refine enterR Tryz.func133 rfl rfl rfl fun a hs hm=>?_
 refine gs76db_ ?_;clear hs hm a;intros;rename_i a hm hs
 obtain⟨g3,rfl⟩:=hs.pp 3
 obtain⟨g6,rfl⟩:=hs.pp 6
 refine st hs rfl rfl rfl (d_call hs rfl rfl rfl (pl 104 rfl) ((k1 _ hm.fr))) ?_;clear hs a;rintro _ w1 ⟨y,rfl,hyo,hyd,hyn,hN,hf⟩ a hs
 replace hm:=gainE hm hf hN
 clear hN hf k1
 have hyv:y.d'.val:=hyd▸hv
 have hyos:y.os=x.os:=congrArg FD.os hyd
 have hyds:y.ds.map CO.xs=x.d'.ds:=congrArg FD.ds hyd
 obtain⟨dA,dc,dcs,ds,oA,oc,ocs,os⟩:=y
 unfold FO.v at hs
 unfold FO.hps at hm
 have hos8:os.length=8:=hyv.o
 simp only[List.cons_append,List.nil_append]at hm
 dsimp only at hs hm hyn hyos hyds
 have hor:=hyo.o
 have hdr:=hyo.d
 dsimp only at hor hdr
 obtain⟨go,rfl⟩:=hor.some_ (by omega)
 rw[hos8]at hs
 have hocl:=hor.len
 have hocle:=hor.le
 have hfin:∀(ocs':List Value)(os':List OpD)(lA:Option Nat)(lc:Nat)(lcs:List Value)(l:List CN)(b:Bool)(w':World),Row (some go) os'.length oc 3 (ops os') ocs'→FD.val ⟨ds.map CO.xs,os'⟩→Mm (fun _=>False) wB (⟨lA,95,lcs⟩::⟨dA,93,dcs⟩::⟨some go,212,ocs'⟩::ds.map CO.hp) w'→Row lA l.length lc 4 (cns l) lcs→(∀c∈l,c.val)→l.length≤64→(l.length:Int)≤max 0 n→∃(y:FV)(l':CnS)(b':Bool)(R:List Hp),Value.tuple #[.agg #[slv dA ds.length dc,slv (some go) 8 oc],slv lA l.length lc,.bool b]= .tuple #[y.v,l'.v,.bool b']∧On R y.ok∧On R l'.ok∧New wB w' R∧y.d'.val∧(∀c∈l'.xs,c.val)∧l'.xs.length≤64∧(l'.xs.length:Int)≤max 0 n∧Pu wB w':=
  fun ocs' os' lA lc lcs l b w' h1 h2 h3 h4 h5 h6 h7=>⟨FO.rd ⟨dA,dc,dcs,ds,some go,oc,ocs',os'⟩,CO.rd ⟨lA,lc,lcs,l⟩,b,⟨lA,95,lcs⟩::FO.hps ⟨dA,dc,dcs,ds,some go,oc,ocs',os'⟩,by
   have h8:os'.length=8:=h2.o
   rw[FO.rd_v]
   unfold FO.v
   dsimp only
   rw[h8]
   rfl,(FO.on (y:=⟨dA,dc,dcs,ds,some go,oc,ocs',os'⟩) ⟨hyo.d,h1,hyo.dd⟩).more (fun _ h=>List.mem_cons_of_mem _ h),(CO.on (r:=⟨lA,lc,lcs,l⟩) h4).more (fun _ h=>by rcases List.mem_singleton.1 h with rfl;exact List.mem_cons_self ..),h3.new (List.Sublist.refl _),by rw[FO.rd_d];exact h2,h5,h6,h7,h3.fr⟩
 cases hb:opnB x.os h
 ·rw[hb]at k2
  refine gcSgz0_ ?_;clear hs hm a;intros;rename_i a hm hs
  exact gRetN tab hs rfl (.cons (.cells rfl rfl rfl rfl (hm.ro (k:=0) (n:=2) (g:=g6) mem_ (cutF_ok rfl))) (.cons (.tmp rfl) (.cons (.tmp rfl) .nil))) (hfin ocs os none 0 [] [] false _ hor hyv ((hm.zero 95).sub sub_) (Row.empty 4) (fun c hc=>by cases hc) (Nat.zero_le _) (by show((0:Nat):Int)≤_;omega))
 rw[hb]at k2
 obtain⟨k,z,rfl,hk,hz⟩:=opnB_t hb
 have hkl:=(List.getElem?_eq_some_iff.1 hk).1
 have r2:=r1.flat OpD.len hkl
 rw[(List.getElem?_eq_some_iff.1 hk).2]at r2
 unfold OpD.cs at r2
 by_cases hn0:0≤n
 rotate_left
 ·refine gcSgz0_ ?_;clear hs hm a;intros;rename_i a hm hs
  exact gRetN tab hs rfl (.cons (.cells rfl rfl rfl rfl (hm.ro (k:=0) (n:=2) (g:=g6) mem_ (cutF_ok rfl))) (.cons (.tmp rfl) (.cons (.tmp rfl) .nil))) (hfin ocs os none 0 [] [] false _ hor hyv ((hm.zero 95).sub sub_) (Row.empty 4) (fun c hc=>by cases hc) (Nat.zero_le _) (by show((0:Nat):Int)≤_;omega))
 cases hw:z.w
 rotate_left
 ·rw[hw]at r2
  refine gcSgz0_ ?_;clear hs hm a;intros;rename_i a hm hs
  exact gRetN tab hs rfl (.cons (.cells rfl rfl rfl rfl (hm.ro (k:=0) (n:=2) (g:=g6) mem_ (cutF_ok rfl))) (.cons (.tmp rfl) (.cons (.tmp rfl) .nil))) (hfin ocs os none 0 [] [] false _ hor hyv ((hm.zero 95).sub sub_) (Row.empty 4) (fun c hc=>by cases hc) (Nat.zero_le _) (by show((0:Nat):Int)≤_;omega))
 rw[hw]at r2
 obtain⟨j,d,hzf,hd,f3,f4⟩:=(hv.fit z (List.mem_of_getElem? hk)).at_ hz
 rw[←hyds]at hd
 obtain⟨q,hq,hqd⟩:∃q,ds[j]?=some q∧q.xs=d:=by
  rw[List.getElem?_map]at hd
  cases hx:ds[j]? with
  |none=>rw[hx]at hd;cases hd
  |some q=>rw[hx]at hd;exact⟨q,rfl,Option.some.inj hd⟩
 subst hqd
 have hjl:=(List.getElem?_eq_some_iff.1 hq).1
 obtain⟨gd,rfl⟩:=hdr.some_ (by omega)
 have hks:os[k]?=some z:=by rw[hyos];exact hk
 have hg:∀i v,i<3→z.cs[i]?=some v→ocs[k*3+i]?=some v:=fun i v hi hv=>hor.get (by rw[show ops os=os.flatMap OpD.cs from rfl,flat_get OpD.cs 3 OpD.len os k i (by omega) hi,(List.getElem?_eq_some_iff.1 hks).2];exact hv)
 obtain⟨o,hzo⟩:∃o:Nat,z.o=(o:Int):=⟨z.o.toNat,by omega⟩
 have hg0:=hg 0 (.int .i64 (j:Int)) (by omega) (by rw[←hzf];rfl)
 have hg1:=hg 1 (.int .i64 (o:Int)) (by omega) (by rw[←hzo];rfl)
 have hdc:dcs[j]?=some (slv q.A q.xs.length q.c):=hdr.get (by rw[List.getElem?_map,hq];rfl)
 have hqok:=hyo.dd q (List.mem_of_getElem? hq)
 have hqle:q.xs.length≤q.c:=Row.le hqok
 rw[hzo]at f4
 obtain⟨hq64,hqval⟩:=hyv.d q.xs (List.mem_map.2 ⟨q,List.mem_of_getElem? hq,rfl⟩)
 obtain⟨kk,hkk⟩:∃kk:Nat,min n ((q.xs.length:Int)-(o:Int))=(kk:Int):=⟨(min n ((q.xs.length:Int)-(o:Int))).toNat,by omega⟩
 have haddr:(o:Int)+(kk:Int)=((o+kk:Nat):Int):=by omega
 have hqR:=CO.mem_hp hq
 generalize hR:ds.map CO.hp=R at hm hqR hfin
 refine gcSgz0_ ?_;clear hs hm a;intros;rename_i a hm hs
 obtain⟨g9,rfl⟩:=hs.pp 9
 rw[hkk]at hs
 refine cMid (fun a w=>∃(lA:Option Nat)(lc:Nat)(lcs:List Value),Row lA kk lc 4 (cns ((q.xs.drop o).take kk)) lcs∧Sl Tryz.f133.ntmps [(6,pt g6),(9,pt g9),(10,.pointer (some ⟨go,k*3,none⟩)),(12,.int .i64 (kk:Int)),(13,slv lA kk lc)] a∧Mm (fun _=>False) wB (⟨lA,95,lcs⟩::⟨some g9,78,[slv (some gd) ds.length dc,slv (some go) 8 oc]⟩::⟨some g6,78,[nS,nS]⟩::⟨some gd,93,dcs⟩::⟨some go,212,ocs⟩::R) w) ?_ ?_
 ·with_reducible repeat(first|apply gThen|apply wp_seq)
  refine cDrawT (n:=14) (.s [0,1,2,3,4,5,6,7,8,9,10,11]<| .o 12<| .x<| .t 13<| .d) [⟨some go,212,ocs⟩] hm rfl rfl ?_
  clear hm;intro t_ w1_ hm
  repeat' (first|(refine dgSgz1_ ?_;clear t_ hs hm a;intros;rename_i a hm hs t_)|refine tE t_ ?_|refine tC ?_ ?_|exact tN|intro t_|(refine oDo (i:=12) hs rfl (Wnt.none rfl) rfl rfl (by exact d_appendS (A:=none) (n:=0) (c:=0) (xs:=[]) (m:=o+kk-o) (news:=cns ((q.xs.drop o).take kk)) hs rfl rfl rfl rfl tab rfl rfl rfl rfl rfl (hm.zero 95) mem_ (Row.empty 4) (by rw[cns_len,List.length_take,List.length_drop];show _=_*4;omega) (rd_cut CN.cs_len (hm.rd_row (by repeat(first|exact hqR|apply List.mem_cons_of_mem)) hqok) (by omega) hqle) (cns_one _) (by show(0+(o+kk-o))*24≤_;omega) (by omega)) ?_;clear hs;rintro _ w1 ⟨rA,rc,rcs,rfl,hrr,hM⟩ a hs;(replace hm:=hM _ rep_);(clear hM);(rw[Nat.zero_add,Nat.add_sub_cancel_left,List.nil_append]at hrr);(rw[Nat.zero_add,Nat.add_sub_cancel_left]at hs);replace t_:=tX t_;refine⟨(hm.sub sub_),?_⟩)|(refine tD t_ ?_;(exact And.intro rfl ⟨rA,rc,rcs,hrr,(sb_ hs),hm.sub sub_⟩))|fail)
 clear hs hm a
 rintro a w ⟨lA,lc,lcs,hlr,hs,hm⟩
 refine gs76db_ ?_;clear hs hm a;intros;rename_i a hm hs
 have hse:=hor.set (k*3+1) (.int .i64 ((o+kk:Nat):Int))
 rw[show(ops os).set (k*3+1) (.int .i64 ((o+kk:Nat):Int))=ops (os.set k ⟨z.f,((o+kk:Nat):Int),z.w⟩)from flat_set OpD.cs 3 OpD.len os k 1 z (.int .i64 ((o+kk:Nat):Int)) hks (by omega) ⟨z.f,((o+kk:Nat):Int),z.w⟩ rfl]at hse
 have hft:OpD.fit ⟨z.f,((o+kk:Nat):Int),z.w⟩ (ds.map CO.xs):=⟨fun e=>absurd e hz,fun _=>⟨j,q.xs,hzf,hd,by dsimp only;omega,by dsimp only;omega⟩⟩
 have hll:((q.xs.drop o).take kk).length=kk:=by rw[List.length_take,List.length_drop];omega
 have hfin':=hfin (ocs.set (k*3+1) (.int .i64 ((o+kk:Nat):Int))) (os.set k ⟨z.f,((o+kk:Nat):Int),z.w⟩) lA lc lcs ((q.xs.drop o).take kk) true _ (by rw[List.length_set];exact hse) (FD.set_os (x:=⟨ds.map CO.xs,os⟩) hyv k hft) (hm.sub sub_) (by rw[hll];exact hlr) (fun c hc=>hqval c (List.mem_of_mem_drop (List.mem_of_mem_take hc))) (by rw[hll];omega) (by rw[hll];omega)
 rw[hll]at hfin'
 exact gRetN tab hs rfl (.cons (.cells rfl rfl rfl rfl (hm.ro (k:=0) (n:=2) (g:=g6) mem_ (cutF_ok rfl))) (.cons (.tmp rfl) (.cons (.tmp rfl) .nil))) hfin'
theorem gcSha0_{G H:Prop}(k:H)(s:Bx H→G:=by intro k_;(repeat(first|(refine oq227d_ ?_;(try clear hs a);intro a hs)|((with_reducible apply lCons);first|(refine dv hs gw_ rfl rfl da_ ?_;(try clear hs hm a);rintro _ w_ ⟨g_,rfl,-,hm⟩ a hs)|(refine stn hs rfl rfl ds_ ?_;(try clear hs hm a);rintro-w_ hm a hs))|((with_reducible apply qNil);(try clear hm);intro w_ hm)|refine cQ_ ?_|refine sc_ ?_|((with_reducible apply lCons);first|(refine dvc hs hm gw_ rfl rfl rfl rfl rfl (pl 141 rfl) (k2 _ hm.fr) ?_;(try clear hs hm a);intro w_ hm a hs))|((with_reducible apply qCons);first|(refine qwc hs gw_ rfl rfl rfl rfl rfl (pl 141 rfl) (fun w hm=>k2 _ hm.fr) ?_;(try clear hs a);intro a hs))));(first|(have m_:=hm;have s_:=hs;clear hs;(try clear hm);revert m_ s_ a)|((first|refine rexc_ hs hm ?_|refine rexl_ hs hm ?_|refine rexg_ hs hm ?_|refine rexq_ hs hm ?_);intro a hm hs;revert hm hs a));(try revert w_);(repeat revert g_);exact k_.h):G:=s ⟨k⟩
theorem gpSha1_{G H:Prop}(k:H)(s:Bx H→G:=by intro k_;(repeat(first|(refine oq227d_ ?_;(try clear hs a);intro a hs)|((with_reducible apply lCons);first|(refine dv hs gw_ rfl rfl da_ ?_;(try clear hs hm a);rintro _ w_ ⟨g_,rfl,-,hm⟩ a hs)|(refine stn hs rfl rfl ds_ ?_;(try clear hs hm a);rintro-w_ hm a hs))|((with_reducible apply qNil);(try clear hm);intro w_ hm)|refine cQ_ ?_|refine sc_ ?_));have m_:=hm;have s_:=hs;clear hs;(try clear hm);revert m_ s_ a;(try revert w_);(repeat revert g_);exact k_.h):G:=s ⟨k⟩
theorem dgSha2_{G H:Prop}(k:H)(s:Bx H→G:=by intro k_;(repeat(first|(refine tTake t_ hs rfl (by kernel_rfl) gw_ rfl rfl (by intro w hm;replace hm:Mm _ _ _ w:=hm;(first|exact kvR_|exact r_min hs rfl rfl rfl|exact r_loadO hs rfl rfl tab rfl rfl rfl hm (by repeat(first|exact mH|apply mT)) (by assumption))) (hm.sub sub_) ?_;(try clear t_ hs a);intro t_ a hs)|(refine tTakeN t_ hs rfl (by kernel_rfl) rfl rfl rfl rfl rfl rfl rfl (hm.sub sub_) ?_;(try clear t_ hs a);intro t_ a hs)|(refine tTakeU t_ hs rfl (by kernel_rfl) rfl rfl rfl rfl rfl rfl (hm.sub sub_) ?_;(try clear t_ hs a);intro t_ a hs)|(refine tE1 t_ ?_;(try clear t_);intro t_)|(refine nx_ t_ rfl ?_;have t_:=t_;first|(refine oDo hs rfl gw_ rfl rfl da_ ?_;(try clear hs hm a);rintro _ w_ ⟨g_,rfl,-,hm⟩ a hs;refine⟨(hm.sub sub_),?_⟩)|(refine oDoN hs rfl gw_ rfl ds_ ?_;(try clear hs hm a);rintro-w_ hm a hs;refine⟨(hm.sub sub_),?_⟩)|(refine oDoV hs rfl gw_ rfl rfl (by(first|exact klR_|exact r_loadO hs rfl rfl tab rfl rfl rfl hm (by repeat(first|exact mH|apply mT)) (by assumption))) ?_;(try clear hs a);intro a hs;refine⟨(hm.sub sub_),?_⟩))));have y_:=t_;clear t_;(first|(have m_:=hm;have s_:=hs;have z_:=y_;clear hs;(try clear hm);revert m_ s_ z_ a)|((first|refine rexd_ hs hm ?_|refine rexb_ hs hm ?_);intro a hm hs;have z_:=y_;revert hm hs z_ a));(try revert w_);(repeat revert g_);exact k_.h):G:=s ⟨k⟩
structure FwX where
 i:Nat
 A:Option Nat
 c:Nat
 cs:List Value
 xs:List CN
theorem CO.val_set{ds:List CO}{j:Nat}{q r:CO}{os:List OpD}(h:FD.val ⟨ds.map CO.xs,os⟩)(hq:ds[j]?=some q) (hl:q.xs.length≤r.xs.length) (h64:r.xs.length≤64) (hv:∀c∈r.xs,c.val):FD.val ⟨(ds.set j r).map CO.xs,os⟩:=⟨by have:=h.n;dsimp only at this ⊢;rw[List.length_map]at this ⊢;rw[List.length_set];exact this,h.o,fun d hd=>by
 obtain⟨y,hy,rfl⟩:=List.mem_map.1 hd
 rcases List.mem_or_eq_of_mem_set hy with hy|rfl
 ·exact h.d _ (List.mem_map.2 ⟨y,hy,rfl⟩)
 ·exact⟨h64,hv⟩,fun y hy=>⟨(h.fit y hy).free,fun e=>by
  obtain⟨k,d,h1,h2,h3,h4⟩:=(h.fit y hy).at_ e
  dsimp only at h2 ⊢
  rw[List.getElem?_map]at h2
  by_cases hk:j=k
  ·subst hk
   rw[hq]at h2
   obtain rfl:=Option.some.inj h2
   exact⟨j,r.xs,h1,by rw[List.getElem?_map,List.getElem?_set_self (List.getElem?_eq_some_iff.1 hq).1];rfl,h3,by omega⟩
  ·exact⟨k,d,h1,by rw[List.getElem?_map,List.getElem?_set_ne hk];exact h2,h3,h4⟩⟩⟩
theorem fwrt_c(x:FV)(h:Int)(l:CnS)(wB:World)(hx:x.ok wB)(hv:x.d'.val)(hl:l.ok wB)(hlv:∀c∈l.xs,c.val)(hln:l.xs.length≤1000):Ret Tryz.prog 132 [x.v,.int .i64 h,l.v] wB (fun u w'=>∃(y:FV)(n:Int)(b:Bool)(R:List Hp),u= .tuple #[y.v,.int .i64 n,.bool b]∧On R y.ok∧New wB w' R∧y.d'.val∧0≤n∧n≤1000∧Pu wB w'):=by
 have hn:=hv.n
 rw[FV.len_]at hn
 have ho:x.os.length=8:=hv.o
 have k1:=fun w'' (hf:Pu wB w'')=>fcp_c x w'' (hx.pu hf) (by omega) (by omega) (fun q hq=>by have:=(hv.d _ (FV.mem_ hq)).1;omega)
 have k3:=fun w'' (hf:Pu wB w'')=>ccls_c l (l.xs.length:Int) w'' (hl.pu hf) hlv (by omega) (by omega)
 have k2:=fun w'' (hf:Pu wB w'')=>open_c x h w'' (hx.pu hf) (by omega)
 have hro:=hx.o
 obtain⟨b1,o1,hA,hb1,r1⟩:=hro.ro (by rw[ops_len];omega)
 unfold FV.v at k1 k2 ⊢
 unfold CnS.v at k3 ⊢
 rw[hA,ho]at k1 k2 ⊢
 refine enterR Tryz.func132 rfl rfl rfl fun a hs hm=>?_
 refine gs575d_ ?_;clear hs hm a;intros;rename_i a hm hs
 obtain⟨g3,rfl⟩:=hs.pp 3
 obtain⟨g6,rfl⟩:=hs.pp 6
 refine st hs rfl rfl rfl (d_call hs rfl rfl rfl (pl 104 rfl) ((k1 _ hm.fr))) ?_;clear hs a;rintro _ w1 ⟨y,rfl,hyo,hyd,hyn,hN,hf⟩ a hs
 replace hm:=gainE hm hf hN
 clear hN hf k1
 have hyv:y.d'.val:=hyd▸hv
 have hyos:y.os=x.os:=congrArg FD.os hyd
 have hyds:y.ds.map CO.xs=x.d'.ds:=congrArg FD.ds hyd
 obtain⟨dA,dc,dcs,ds,oA,oc,ocs,os⟩:=y
 unfold FO.v at hs
 unfold FO.hps at hm
 have hos8:os.length=8:=hyv.o
 simp only[List.cons_append,List.nil_append]at hm
 dsimp only at hs hm hyn hyos hyds
 have hor:=hyo.o
 have hdr:=hyo.d
 dsimp only at hor hdr
 obtain⟨go,rfl⟩:=hor.some_ (by omega)
 rw[hos8]at hs
 have hocl:=hor.len
 have hocle:=hor.le
 have hfin:∀(dcs':List Value)(ds':List CO)(ocs':List Value)(os':List OpD)(n:Int)(b:Bool)(w':World),ds'.length=ds.length→Row dA ds.length dc 1 (ds'.map CO.v) dcs'→(∀r∈ds',r.ok)→Row (some go) os'.length oc 3 (ops os') ocs'→FD.val ⟨ds'.map CO.xs,os'⟩→Mm (fun _=>False) wB (⟨dA,93,dcs'⟩::⟨some go,212,ocs'⟩::ds'.map CO.hp) w'→0≤n∧n≤1000→∃(y:FV)(n':Int)(b':Bool)(R:List Hp),Value.tuple #[.agg #[slv dA ds.length dc,slv (some go) 8 oc],.int .i64 n,.bool b]= .tuple #[y.v,.int .i64 n',.bool b']∧On R y.ok∧New wB w' R∧y.d'.val∧0≤n'∧n'≤1000∧Pu wB w':=
  fun dcs' ds' ocs' os' n b w' hl' h0 h00 h1 h2 h3 hn=>⟨FO.rd ⟨dA,dc,dcs',ds',some go,oc,ocs',os'⟩,n,b,_,by
   have h8:os'.length=8:=h2.o
   rw[FO.rd_v]
   unfold FO.v
   dsimp only
   rw[h8,hl'],FO.on ⟨by dsimp only;rw[hl'];exact h0,h1,h00⟩,h3.new (List.Sublist.refl _),by rw[FO.rd_d];exact h2,hn.1,hn.2,h3.fr⟩
 cases hb:opnB x.os h
 ·rw[hb]at k2
  refine gcSha0_ ?_;clear hs hm a;intros;rename_i a hm hs
  exact gRetN tab hs rfl (.cons (.cells rfl rfl rfl rfl (hm.ro (k:=0) (n:=2) (g:=g6) mem_ (cutF_ok rfl))) (.cons (.tmp rfl) (.cons (.tmp rfl) .nil))) (hfin dcs ds ocs os 0 false _ rfl hdr hyo.dd hor hyv (hm.sub sub_) (by omega))
 rw[hb]at k2
 obtain⟨k,z,rfl,hk,hz⟩:=opnB_t hb
 have hkl:=(List.getElem?_eq_some_iff.1 hk).1
 have r2:=r1.flat OpD.len hkl
 rw[(List.getElem?_eq_some_iff.1 hk).2]at r2
 unfold OpD.cs at r2
 cases hw:z.w
 ·rw[hw]at r2
  refine gcSha0_ ?_;clear hs hm a;intros;rename_i a hm hs
  exact gRetN tab hs rfl (.cons (.cells rfl rfl rfl rfl (hm.ro (k:=0) (n:=2) (g:=g6) mem_ (cutF_ok rfl))) (.cons (.tmp rfl) (.cons (.tmp rfl) .nil))) (hfin dcs ds ocs os 0 false _ rfl hdr hyo.dd hor hyv (hm.sub sub_) (by omega))
 rw[hw]at r2
 obtain⟨j,d,hzf,hd,f3,f4⟩:=(hv.fit z (List.mem_of_getElem? hk)).at_ hz
 rw[←hyds]at hd
 obtain⟨q,hq,hqd⟩:∃q,ds[j]?=some q∧q.xs=d:=by
  rw[List.getElem?_map]at hd
  cases hx:ds[j]? with
  |none=>rw[hx]at hd;cases hd
  |some q=>rw[hx]at hd;exact⟨q,rfl,Option.some.inj hd⟩
 subst hqd
 have hjl:=(List.getElem?_eq_some_iff.1 hq).1
 obtain⟨gd,rfl⟩:=hdr.some_ (by omega)
 have hks:os[k]?=some z:=by rw[hyos];exact hk
 have hg:∀i v,i<3→z.cs[i]?=some v→ocs[k*3+i]?=some v:=fun i v hi hv=>hor.get (by rw[show ops os=os.flatMap OpD.cs from rfl,flat_get OpD.cs 3 OpD.len os k i (by omega) hi,(List.getElem?_eq_some_iff.1 hks).2];exact hv)
 obtain⟨o,hzo⟩:∃o:Nat,z.o=(o:Int):=⟨z.o.toNat,by omega⟩
 have hg0:=hg 0 (.int .i64 (j:Int)) (by omega) (by rw[←hzf];rfl)
 have hg1:=hg 1 (.int .i64 (o:Int)) (by omega) (by rw[←hzo];rfl)
 have hdc:dcs[j]?=some (slv q.A q.xs.length q.c):=hdr.get (by rw[List.getElem?_map,hq];rfl)
 have hqok:=hyo.dd q (List.mem_of_getElem? hq)
 have hqle:q.xs.length≤q.c:=Row.le hqok
 rw[hzo]at f4
 obtain⟨hq64,hqval⟩:=hyv.d q.xs (List.mem_map.2 ⟨q,List.mem_of_getElem? hq,rfl⟩)
 obtain⟨kk,hkk⟩:∃kk:Nat,min (l.xs.length:Int) (64-(o:Int))=(kk:Int):=⟨(min (l.xs.length:Int) (64-(o:Int))).toNat,by omega⟩
 have hkaddr:(o:Int)+(kk:Int)=((o+kk:Nat):Int):=by omega
 repeat(first|(refine gpSha1_ ?_;clear hs hm a;intros;rename_i a hm hs)|refine sc_ ?_|((with_reducible apply lCons);first|(refine dvc hs hm gw_ rfl rfl rfl rfl rfl (pl 141 rfl) (k2 _ hm.fr) ?_;clear hs hm a;intro w hm a hs)|(refine dvc hs hm gw_ rfl rfl rfl rfl rfl (pl 96 rfl) (k3 _ hm.fr) ?_;clear hs hm a;intro w hm a hs))|((with_reducible apply qCons);first|(refine qwc hs gw_ rfl rfl rfl rfl rfl (pl 141 rfl) (fun w hm=>k2 _ hm.fr) ?_;clear hs a;intro a hs)|(refine qwc hs gw_ rfl rfl rfl rfl rfl (pl 96 rfl) (fun w hm=>k3 _ hm.fr) ?_;clear hs a;intro a hs)))
 obtain⟨g9,rfl⟩:=hs.pp 9
 rw[hkk]at hs
 replace hm:=Mm.frontG CO.hp (L:=[⟨some g9,78,[slv (some gd) ds.length dc,slv (some go) 8 oc]⟩,⟨some g6,78,[nS,nS]⟩,⟨some gd,93,dcs⟩,⟨some go,212,ocs⟩]) (l:=ds) (hm.sub sub_) hq
 simp only[List.cons_append,List.nil_append]at hm
 generalize hE:(ds.eraseIdx j).map CO.hp=E at hm
 refine cLoop (X:=FwX) (fun X a w=>X.i≤kk∧Row X.A X.xs.length X.c 4 (cns X.xs) X.cs∧q.xs.length≤X.xs.length∧o+X.i≤X.xs.length∧X.xs.length≤64∧(∀c∈X.xs,c.val)∧Sl Tryz.f132.ntmps [(2,.slice l.A l.xs.length l.c),(6,pt g6),(9,pt g9),(10,.pointer (some ⟨go,k*3,none⟩)),(11,.int .i64 (kk:Int)),(12,slv X.A X.xs.length X.c),(57,.int .i64 (kk:Int)),(58,.int .i64 (X.i:Int))] a∧Mm (fun _=>False) wB (⟨X.A,95,X.cs⟩::⟨some g9,78,[slv (some gd) ds.length dc,slv (some go) 8 oc]⟩::⟨some g6,78,[nS,nS]⟩::⟨some gd,93,dcs⟩::⟨some go,212,ocs⟩::E) w) (fun X=>kk-X.i) ⟨0,q.A,q.c,q.cs,q.xs⟩ ⟨Nat.zero_le _,hqok,Nat.le_refl _,by dsimp only;omega,hq64,hqval,(sb_ hs),hm⟩ ?_
 clear hs hm a
 rintro⟨i,A,c,cs,xs⟩ a w ⟨j1,j2,j3,j4,j5,j6,hs,hm⟩
 dsimp only at j1 j2 j3 j4 j5 j6 hs hm
 by_cases hlt:i<kk
 ·have hil:i<l.xs.length:=by omega
  obtain⟨bl,ol,hlA,hlb,rl⟩:=Rd.ro hl (by rw[cns_len];omega)
  have r3:=rl.flat CN.cs_len hil
  have hcv:=hlv _ (List.getElem_mem hil)
  generalize l.xs[i]=z0 at r3 hcv
  unfold CN.cs at r3
  have hai:(o:Int)+(i:Int)=((o+i:Nat):Int):=by omega
  rw[hlA]at hs
  have hrl:=j2.len
  have hrle:=j2.le
  by_cases hin:o+i<xs.length
  ·obtain⟨ga,rfl⟩:=j2.some_ (by omega)
   refine gs575d_ ?_;clear hs hm a;intros;rename_i a hm hs
   refine cMid (fun a w=>Sl Tryz.f132.ntmps [(2,.slice l.A l.xs.length l.c),(6,pt g6),(9,pt g9),(10,.pointer (some ⟨go,k*3,none⟩)),(11,.int .i64 (kk:Int)),(12,slv (some ga) xs.length c),(57,.int .i64 (kk:Int)),(58,.int .i64 (i:Int))] a∧Mm (fun _=>False) wB (⟨some ga,95,cs.take ((o+i)*4)++z0.cs++cs.drop ((o+i)*4+4)⟩::⟨some g9,78,[slv (some gd) ds.length dc,slv (some go) 8 oc]⟩::⟨some g6,78,[nS,nS]⟩::⟨some gd,93,dcs⟩::⟨some go,212,ocs⟩::E) w) ?_ ?_
   ·with_reducible repeat(first|apply gThen|apply wp_seq)
    refine cDrawT (n:=13) (.s [0,1,2,3,4,5,6,7,8,9,10,11]<| .o 12<| .x<| .d) [⟨some go,212,ocs⟩] hm rfl rfl ?_
    clear hm;intro t_ w1_ hm
    repeat' (first|(refine dgSha2_ ?_;clear t_ hs hm a;intros;rename_i a hm hs t_)|refine tE t_ ?_|refine tC ?_ ?_|exact tN|intro t_|(refine oDoN (i:=12) hs rfl (Wnt.none rfl) rfl (by exact d_store hs rfl rfl rfl tab rfl rfl rfl rfl hm rep_ (putG (by show(o+i)*4+4≤_;omega))) ?_;clear hs;rintro-w1 hm a hs;replace t_:=tX t_;refine⟨(hm.sub sub_),?_⟩)|(refine tD t_ ?_;(rw[←hlA]at hs);(exact And.intro rfl ⟨(sb_ hs),hm⟩))|fail)
   clear hs hm a
   rintro a w ⟨hs,hm⟩
   refine gs575d_ ?_;clear hs hm a;intros;rename_i a hm hs
   have hsp:=j2.splice (o:=(o+i)*4) (ys:=z0.cs) (by rw[CN.cs_len];omega)
   rw[CN.cs_len,show(cns xs).take ((o+i)*4)++z0.cs++(cns xs).drop ((o+i)*4+4)=cns (xs.set (o+i) z0)from flat_splice CN.cs 4 CN.cs_len xs (o+i) z0 hin]at hsp
   refine⟨⟨i+1,some ga,c,cs.take ((o+i)*4)++z0.cs++cs.drop ((o+i)*4+4),xs.set (o+i) z0⟩,by dsimp only;omega,by dsimp only;omega,by dsimp only;rw[List.length_set];exact hsp,by dsimp only;rw[List.length_set];omega,by dsimp only;rw[List.length_set];omega,by dsimp only;rw[List.length_set];omega,fun y hy=>?_,by dsimp only;rw[List.length_set];exact(sb_ hs),hm⟩
   rcases List.mem_or_eq_of_mem_set hy with hy|rfl
   ·exact j6 y hy
   ·exact hcv
  ·have hie:o+i=xs.length:=by omega
   refine gs575d_ ?_;clear hs hm a;intros;rename_i a hm hs
   refine dv hs (Wnt.none rfl) rfl rfl (d_append (A:=A) (n:=xs.length) (c:=c) (news:=z0.cs) hs rfl rfl rfl rfl rfl tab rfl rfl rfl rfl rfl hm mem_ j2 rfl (hm.ro (n:=4) mem_ (cutF_ok rfl)) rfl (by show(xs.length+1)*24≤_;omega) (by omega)) ?_
   clear hs
   rintro _ w4 ⟨A',c',cs',rfl,hr',hM⟩ a hs
   replace hm:=hM _ rep_
   clear hM
   rw[show cns xs++z0.cs=cns (xs++[z0]) by unfold cns;rw[List.flatMap_append,List.flatMap_singleton]]at hr'
   refine gs575d_ ?_;clear hs hm a;intros;rename_i a hm hs
   rw[←hlA]at hs
   refine⟨⟨i+1,A',c',cs',xs++[z0]⟩,by dsimp only;omega,by dsimp only;omega,by dsimp only;rw[List.length_append,List.length_singleton];exact hr',by dsimp only;rw[List.length_append,List.length_singleton];omega,by dsimp only;rw[List.length_append,List.length_singleton];omega,by dsimp only;rw[List.length_append,List.length_singleton];omega,List.forall_mem_append.2 ⟨j6,List.forall_mem_singleton.2 hcv⟩,by dsimp only;rw[List.length_append,List.length_singleton];exact(sb_ hs),hm.sub sub_⟩
 ·obtain rfl:i=kk:=by omega
  have hdl:=hdr.len
  have hdle:=hdr.le
  refine gs575d_ ?_;clear hs hm a;intros;rename_i a hm hs
  refine cMid (fun a w=>Sl Tryz.f132.ntmps [(6,pt g6),(9,pt g9),(10,.pointer (some ⟨go,k*3,none⟩)),(11,.int .i64 (i:Int))] a∧Mm (fun _=>False) wB (⟨A,95,cs⟩::⟨some g9,78,[slv (some gd) ds.length dc,slv (some go) 8 oc]⟩::⟨some g6,78,[nS,nS]⟩::⟨some gd,93,dcs.set j (slv A xs.length c)⟩::⟨some go,212,ocs⟩::E) w) ?_ ?_
  ·with_reducible repeat(first|apply gThen|apply wp_seq)
   refine cDrawT (n:=9) (.s [0,1,2,3,4,5,6,7]<| .o 8<| .d) [⟨some g9,78,[slv (some gd) ds.length dc,slv (some go) 8 oc]⟩,⟨some go,212,ocs⟩] hm rfl rfl ?_
   clear hm;intro t_ w1_ hm
   repeat' (first|(refine dgSha2_ ?_;clear t_ hs hm a;intros;rename_i a hm hs t_)|refine tE t_ ?_|refine tC ?_ ?_|exact tN|intro t_|(refine tD t_ ?_;(exact And.intro rfl ⟨(sb_ hs),hm⟩))|fail)
  clear hs hm a
  rintro a w ⟨hs,hm⟩
  refine gs575d_ ?_;clear hs hm a;intros;rename_i a hm hs
  have hse:=hor.set (k*3+1) (.int .i64 ((o+i:Nat):Int))
  rw[show(ops os).set (k*3+1) (.int .i64 ((o+i:Nat):Int))=ops (os.set k ⟨z.f,((o+i:Nat):Int),z.w⟩)from flat_set OpD.cs 3 OpD.len os k 1 z (.int .i64 ((o+i:Nat):Int)) hks (by omega) ⟨z.f,((o+i:Nat):Int),z.w⟩ rfl]at hse
  have hvs:=CO.val_set (r:=⟨A,c,cs,xs⟩) hyv hq j3 j5 j6
  have hft:OpD.fit ⟨z.f,((o+i:Nat):Int),z.w⟩ ((ds.set j ⟨A,c,cs,xs⟩).map CO.xs):=⟨fun e=>absurd e hz,fun _=>⟨j,xs,hzf,by rw[List.getElem?_map,List.getElem?_set_self hjl];rfl,by dsimp only;omega,by dsimp only;omega⟩⟩
  rw[←hE]at hm
  have hmB:=Mm.backG CO.hp (q:=⟨A,c,cs,xs⟩) (L:=[⟨some gd,93,dcs.set j (slv A xs.length c)⟩,⟨some go,212,ocs.set (k*3+1) (.int .i64 ((o+i:Nat):Int))⟩]) hjl (hm.sub sub_)
  exact gRetN tab hs rfl (.cons (.cells rfl rfl rfl rfl (hm.ro (k:=0) (n:=2) (g:=g6) mem_ (cutF_ok rfl))) (.cons (.tmp rfl) (.cons (.tmp rfl) .nil))) (hfin _ _ (ocs.set (k*3+1) (.int .i64 ((o+i:Nat):Int))) (os.set k ⟨z.f,((o+i:Nat):Int),z.w⟩) i true _ (by rw[List.length_set]) (CO.rows_set hdr j ⟨A,c,cs,xs⟩) (fun r hr=>by
   rcases List.mem_or_eq_of_mem_set hr with hr|rfl
   ·exact hyo.dd r hr
   ·exact j2) (by rw[List.length_set];exact hse) (FD.set_os (x:=⟨(ds.set j ⟨A,c,cs,xs⟩).map CO.xs,os⟩) hvs k hft) hmB (by omega))
def numC(v:Int):CN:=⟨0,v,0,0⟩
def numsC(q:List Int):List CN:=q.map numC
theorem zrep_ops(n:Nat):zrep n [.int .i64 0,.int .i64 0,.bool false]=ops (List.replicate n ⟨0,0,false⟩):=zrep_map n OpD.cs ⟨0,0,false⟩
structure FnX where
 k:Nat
 os:List OpD
 ocs:List Value
structure FmX where
 al:List CN
 A:Option Nat
 c:Nat
 cs:List Value
theorem fnew_c(A:Option Addr)(c:Nat)(qs:List WV)(wB:World)(hx:Rd wB wB.heap.size A (qs.map WV.v))(hqs:∀q∈qs,q.ok wB)(hq1:qs.length≤4)(hsm:∀q∈qs,q.xs.length≤64)(hbd:∀q∈qs,∀v∈q.xs,0≤v∧v≤65535):Ret Tryz.prog 106 [.slice A qs.length c] wB (fun u w'=>∃(y:FV)(R:List Hp),u= .tuple #[y.v,.int .i64 0]∧On R y.ok∧New wB w' R∧y.d'.val∧y.d'.ds=qs.map (fun q=>numsC q.xs)∧Pu wB w'):=by
 refine enterR Tryz.func106 rfl rfl rfl fun a hs hm=>?_
 refine gsdfd4_ ?_;clear hs hm a;intros;rename_i a hm hs
 obtain⟨g2,rfl⟩:=hs.pp 2
 refine dv hs (Wnt.none rfl) rfl rfl (d_makeSlice (n:=8) hs rfl rfl rfl tab rfl rfl rfl rfl rfl (by omega) rfl hm) ?_
 clear hs hm a
 rintro _ w2 ⟨go,rfl,-,hm⟩ a hs
 refine gsdfd4_ ?_;clear hs hm a;intros;rename_i a hm hs
 obtain⟨g4,rfl⟩:=hs.pp 4
 replace hm:=(hm.zero 93).sel (M':=[⟨some g4,78,[nS,slv (some go) 8 8]⟩,⟨none,93,[]⟩,⟨some go,212,zrep 8 [.int .i64 0,.int .i64 0,.bool false]⟩,⟨some g2,78,[nS,nS]⟩]) [1,0,2,3] (by decide) rfl
 rw[zrep_ops]at hm
 refine cMidE (.exit 0) (fun a w=>∃(os:List OpD)(ocs:List Value),os.length=8∧Row (some go) 8 8 3 (ops os) ocs∧(∀y∈os,y.f=-1∧y.o=0∧y.w=false)∧Sl Tryz.f106.ntmps [(0,.slice A qs.length c),(2,pt g2),(4,pt g4)] a∧Mm (fun _=>False) wB (⟨some g4,78,[nS,slv (some go) 8 8]⟩::⟨none,93,[]⟩::⟨some go,212,ocs⟩::⟨some g2,78,[nS,nS]⟩::[]) w) ?_ ?_
 ·refine cLoop (X:=FnX) (fun X a w=>X.k≤8∧X.os.length=8∧Row (some go) 8 8 3 (ops X.os) X.ocs∧(∀y∈X.os,y.o=0∧y.w=false)∧(∀i y,i<X.k→X.os[i]?=some y→y.f=-1)∧Sl Tryz.f106.ntmps [(0,.slice A qs.length c),(2,pt g2),(4,pt g4),(15,.int .i64 ((8:Nat):Int)),(16,.int .i64 (X.k:Int))] a∧Mm (fun _=>False) wB (⟨some g4,78,[nS,slv (some go) 8 8]⟩::⟨none,93,[]⟩::⟨some go,212,X.ocs⟩::⟨some g2,78,[nS,nS]⟩::[]) w) (fun X=>8-X.k) ⟨0,List.replicate 8 ⟨0,0,false⟩,ops (List.replicate 8 ⟨0,0,false⟩)⟩ ⟨Nat.zero_le _,rfl,row_full (by simp) rfl (by decide),(fun y hy=>by obtain⟨-,rfl⟩:=List.mem_replicate.1 hy;exact⟨rfl,rfl⟩),(fun i y h=>absurd h (Nat.not_lt_zero _)),(sb_ hs),hm⟩ ?_
  clear hs hm a
  rintro⟨k,os,ocs⟩ a w ⟨i1,i2,i3,i4,i5,hs,hm⟩
  dsimp only at i1 i2 i3 i4 i5 hs hm
  have hl:=i3.len
  by_cases hlt:k<8
  ·obtain⟨z,hz⟩:∃z,os[k]?=some z:=⟨_,List.getElem?_eq_getElem (by omega)⟩
   refine gsdfd4_ ?_;clear hs hm a;intros;rename_i a hm hs
   have hse:=i3.set (k*3+0) (.int .i64 (-1))
   rw[show(ops os).set (k*3+0) (.int .i64 (-1))=ops (os.set k ⟨-1,z.o,z.w⟩)from flat_set OpD.cs 3 OpD.len os k 0 z (.int .i64 (-1)) hz (by omega) ⟨-1,z.o,z.w⟩ rfl]at hse
   refine⟨⟨k+1,os.set k ⟨-1,z.o,z.w⟩,ocs.set (k*3+0) (.int .i64 (-1))⟩,by dsimp only;omega,by dsimp only;omega,by dsimp only;rw[List.length_set];exact i2,hse,fun y hy=>?_,fun i y hi hy=>?_,(sb_ hs),hm⟩
   ·rcases List.mem_or_eq_of_mem_set hy with hy|rfl
    ·exact i4 y hy
    ·exact i4 z (List.mem_of_getElem? hz)
   ·by_cases hij:i=k
    ·subst hij
     rw[List.getElem?_set_self (by omega)]at hy
     obtain rfl:=Option.some.inj hy
     rfl
    ·rw[List.getElem?_set_ne (fun h=>hij h.symm)]at hy
     exact i5 i y (by dsimp only at hi;omega) hy
  ·obtain rfl:k=8:=by omega
   refine gsdfd4_ ?_;clear hs hm a;intros;rename_i a hm hs
   exact And.intro rfl ⟨os,ocs,i2,i3,fun y hy=>⟨by
    obtain⟨i,hi,rfl⟩:=List.getElem_of_mem hy
    exact i5 i _ (by omega) (List.getElem?_eq_getElem hi),i4 y hy⟩,(sb_ hs),hm⟩
 clear hs hm a
 rintro a w ⟨os,ocs,hos8,hor,hof,hs,hm⟩
 have hofit:∀(ds:List (List CN)),∀y∈os,y.fit ds:=fun ds y hy=>by
  obtain⟨h1,h2,h3⟩:=hof y hy
  exact⟨fun _=>⟨h2,h3⟩,fun e=>absurd h1 e⟩
 refine gsdfd4_ ?_;clear hs hm a;intros;rename_i a hm hs
 refine cLoop (X:=FcX) (fun X a w=>X.rs.length≤qs.length∧Row X.qA X.rs.length X.qc 1 (X.rs.map CO.v) X.qcs∧X.rs.map CO.xs=(qs.take X.rs.length).map (fun q=>numsC q.xs)∧(∀r∈X.rs,r.ok)∧Sl Tryz.f106.ntmps [(2,pt g2),(4,pt g4),(25,.slice A qs.length c),(26,.int .i64 (qs.length:Int)),(27,.int .i64 (X.rs.length:Int))] a∧Mm (fun _=>False) wB ([⟨some g4,78,[slv X.qA X.rs.length X.qc,slv (some go) 8 8]⟩,⟨X.qA,93,X.qcs⟩,⟨some go,212,ocs⟩,⟨some g2,78,[nS,nS]⟩]++X.rs.map CO.hp) w) (fun X=>qs.length-X.rs.length) ⟨[],none,0,[]⟩ ⟨Nat.zero_le _,Row.empty 1,rfl,(fun r hr=>by cases hr),(sb_ hs),hm⟩ ?_
 clear hs hm a
 rintro⟨rs,qA,qc,qcs⟩ a w ⟨hlen,hqr,hab,hok,hs,hm⟩
 dsimp only at hlen hqr hab hok hs hm
 by_cases hlt:rs.length<qs.length
 ·obtain⟨b1,o1,hA,hb1,r1⟩:=hx.ro (by rw[List.length_map];omega)
  obtain⟨q,hq⟩:∃q,q=qs[rs.length]:=⟨_,rfl⟩
  have hqm:q∈qs:=by rw[hq];exact List.getElem_mem hlt
  have hcell:(qs.map WV.v)[rs.length]?=some (.slice q.A q.xs.length q.c):=by rw[List.getElem?_map,List.getElem?_eq_getElem hlt,hq];rfl
  have hqo:Rd wB wB.heap.size q.A (wds q.xs):=hqs q hqm
  have hqn:=hsm q hqm
  rw[hA]at hs
  refine gsdfd4_ ?_;clear hs hm a;intros;rename_i a hm hs
  replace hm:=hm.zero 95
  refine cMidE (.exit 4) (fun a w=>∃r:CO,r.ok∧r.xs=numsC q.xs∧Sl Tryz.f106.ntmps [(2,pt g2),(4,pt g4),(8,slv r.A q.xs.length r.c),(25,.slice (some ⟨b1,o1,none⟩) qs.length c),(26,.int .i64 (qs.length:Int)),(27,.int .i64 (rs.length:Int))] a∧Mm (fun _=>False) wB (r.hp::([⟨some g4,78,[slv qA rs.length qc,slv (some go) 8 8]⟩,⟨qA,93,qcs⟩,⟨some go,212,ocs⟩,⟨some g2,78,[nS,nS]⟩]++rs.map CO.hp)) w) ?_ ?_
  ·refine cLoop (X:=FmX) (fun X a w=>X.al.length≤q.xs.length∧X.al=numsC (q.xs.take X.al.length)∧Row X.A X.al.length X.c 4 (cns X.al) X.cs∧Sl Tryz.f106.ntmps [(2,pt g2),(4,pt g4),(8,slv X.A X.al.length X.c),(25,.slice (some ⟨b1,o1,none⟩) qs.length c),(26,.int .i64 (qs.length:Int)),(27,.int .i64 (rs.length:Int)),(31,.slice q.A q.xs.length q.c),(32,.int .i64 (q.xs.length:Int)),(33,.int .i64 (X.al.length:Int))] a∧Mm (fun _=>False) wB (⟨X.A,95,X.cs⟩::([⟨some g4,78,[slv qA rs.length qc,slv (some go) 8 8]⟩,⟨qA,93,qcs⟩,⟨some go,212,ocs⟩,⟨some g2,78,[nS,nS]⟩]++rs.map CO.hp)) w) (fun X=>q.xs.length-X.al.length) ⟨[],none,0,[]⟩ ⟨Nat.zero_le _,rfl,Row.empty 4,(sb_ hs),hm⟩ ?_
   clear hs hm a
   rintro⟨al,lA,lc,lcs⟩ a w ⟨i1,i2,i3,hs,hm⟩
   dsimp only at i1 i2 i3 hs hm
   by_cases hl2:al.length<q.xs.length
   ·obtain⟨b2,o2,hA2,hb2,r2⟩:=hqo.ro (by rw[wds_len2];omega)
    have hcw:(wds q.xs)[al.length]?=some (.int .u16 q.xs[al.length]):=by unfold wds;rw[List.getElem?_map,List.getElem?_eq_getElem hl2];rfl
    have hsn:al++[numC q.xs[al.length]]=numsC (q.xs.take (al.length+1)):=by
     rw[List.take_succ_eq_append_getElem hl2]
     unfold numsC at i2 ⊢
     rw[List.map_append,←i2]
     rfl
    generalize q.xs[al.length]=v at hcw hsn
    rw[hA2]at hs
    refine gsdfd4_ ?_;clear hs hm a;intros;rename_i a hm hs
    refine dv hs (Wnt.none rfl) rfl rfl (d_append (A:=lA) (n:=al.length) (c:=lc) (news:=(numC v).cs) hs rfl rfl rfl rfl rfl tab rfl rfl rfl rfl rfl hm mem_ i3 rfl (hm.ro (n:=4) mem_ (cutF_ok rfl)) rfl (by show(al.length+1)*24≤_;omega) (by omega)) ?_
    clear hs
    rintro _ w4 ⟨A',c',cs',rfl,hr',hM⟩ a hs
    replace hm:=hM _ rep_
    clear hM
    rw[show cns al++(numC v).cs=cns (al++[numC v]) by unfold cns;rw[List.flatMap_append,List.flatMap_singleton]]at hr'
    refine gsdfd4_ ?_;clear hs hm a;intros;rename_i a hm hs
    rw[←hA2]at hs
    refine⟨⟨al++[numC v],A',c',cs'⟩,by dsimp only;rw[List.length_append,List.length_singleton];omega,?_⟩
    dsimp only
    rw[List.length_append,List.length_singleton]
    exact⟨hl2,hsn,hr',(sb_ hs),hm.sub (List.Sublist.cons _ (List.Sublist.refl _))⟩
   ·have hle:al.length=q.xs.length:=by omega
    refine gsdfd4_ ?_;clear hs hm a;intros;rename_i a hm hs
    rw[hle]at hs
    rw[hle,List.take_length]at i2
    exact And.intro rfl ⟨⟨lA,lc,lcs,al⟩,i3,i2,(sb_ hs),hm⟩
  clear hs hm a
  rintro a w ⟨r,hro,hrx,hs,hm⟩
  have hrl:r.xs.length=q.xs.length:=by rw[hrx];unfold numsC;rw[List.length_map]
  rw[←hrl]at hs
  refine gsdfd4_ ?_;clear hs hm a;intros;rename_i a hm hs
  refine dv hs (Wnt.none rfl) rfl rfl (d_append (A:=qA) (n:=rs.length) (c:=qc) (news:=[r.v]) hs rfl rfl rfl rfl rfl tab rfl rfl rfl rfl rfl hm mem_ hqr rfl (hm.ro (n:=1) mem_ (cutF_ok rfl)) rfl (by show(rs.length+1)*24≤_;omega) (by omega)) ?_
  clear hs
  rintro _ w4 ⟨qA',qc',qcs',rfl,hqr',hM⟩ a hs
  replace hm:=hM _ rep_
  clear hM
  rw[CO.snoc]at hqr'
  refine gsdfd4_ ?_;clear hs hm a;intros;rename_i a hm hs
  rw[←hA]at hs
  refine⟨⟨rs++[r],qA',qc',qcs'⟩,by dsimp only;rw[List.length_append,List.length_singleton];omega,by dsimp only;rw[List.length_append,List.length_singleton];omega,by dsimp only;rw[List.length_append,List.length_singleton];exact hqr',?_,List.forall_mem_append.2 ⟨hok,List.forall_mem_singleton.2 hro⟩,by dsimp only;rw[List.length_append,List.length_singleton];exact(sb_ hs),?_⟩
  ·dsimp only
   rw[List.length_append,List.length_singleton,List.map_append,hab,List.take_succ_eq_append_getElem hlt,List.map_append,←hq]
   rw[List.map_singleton,List.map_singleton,hrx]
  ·dsimp only
   rw[List.length_append,List.length_singleton]
   exact CO.perm (hm.sub (List.Sublist.cons _ (List.Sublist.refl _)))
 ·have hln:rs.length=qs.length:=by omega
  rw[hln,List.take_length]at hab
  have hok':FO.ok ⟨qA,qc,qcs,rs,some go,8,ocs,os⟩:=⟨hqr,by rw[hos8];exact hor,hok⟩
  have hval:FD.val ⟨rs.map CO.xs,os⟩:=⟨by dsimp only;rw[List.length_map];omega,hos8,fun d hd=>by
   dsimp only at hd
   rw[hab]at hd
   obtain⟨q,hq,rfl⟩:=List.mem_map.1 hd
   refine⟨by unfold numsC;rw[List.length_map];exact hsm q hq,fun c hc=>?_⟩
   obtain⟨v,hv,rfl⟩:=List.mem_map.1 hc
   exact CN.num_val (hbd q hq v hv),hofit _⟩
  have hrd:∀{S:Nat→Prop}{w:World},Mm S wB (⟨qA,93,qcs⟩::⟨some go,212,ocs⟩::rs.map CO.hp) w→FV.ok (FO.rd ⟨qA,qc,qcs,rs,some go,8,ocs,os⟩) w:=fun h=>FO.out h hok'
  have kv:∀w'',FV.ok (FO.rd ⟨qA,qc,qcs,rs,some go,8,ocs,os⟩) w''→Ret Tryz.prog 101 [.agg #[slv qA rs.length qc,slv (some go) 8 8]] w'' (fun u w'=>u= .bool true∧Pu w'' w'):=fun w'' h=>by
   have:=fval_c _ w'' h (by rw[FO.rd_d];exact hval)
   rw[FO.rd_v]at this
   unfold FO.v at this
   dsimp only at this
   rwa[hos8]at this
  simp only[List.cons_append,List.nil_append]at hm
  refine gsdfd4_ ?_;clear hs hm a;intros;rename_i a hm hs
  refine st hs rfl rfl rfl (d_call hs rfl rfl rfl (pl 101 rfl) ((kv _ (hrd (hm.sub sub_))))) ?_;clear hs a;rintro _ w1 ⟨rfl,hf⟩ a hs
  replace hm:=hm.pu hf
  clear hf
  refine gsdfd4_ ?_;clear hs hm a;intros;rename_i a hm hs
  exact gRetN tab hs rfl (.cons (.cells rfl rfl rfl rfl (hm.ro (k:=0) (n:=2) (g:=g2) mem_ (cutF_ok rfl))) (.cons (.tmp rfl) .nil)) ⟨FO.rd ⟨qA,qc,qcs,rs,some go,8,ocs,os⟩,_,by rw[FO.rd_v];unfold FO.v;dsimp only;rw[hos8];rfl,FO.on hok',hm.new sub_,by rw[FO.rd_d];exact hval,by rw[FO.rd_d];exact hab,hm.fr⟩
structure OuL where
 A:Option Addr
 c:Nat
 us:List OuV
def OuL.v(x:OuL):Value:= .slice x.A x.us.length x.c
structure OuL.ok(x:OuL)(w:World):Prop where
 u:Rd w w.heap.size x.A (x.us.flatMap OuV.v)
 d:∀y∈x.us,y.d.ok w
theorem OuL.ok.pu{x:OuL}{w w':World}(h:x.ok w)(hf:Pu w w'):x.ok w':=⟨hf.rd' h.u,fun y hy=>(h.d y hy).pu hf⟩
def OuL.l(x:OuL):List OuD:=x.us.map OuV.d'
structure OuS(l:List OuD):Prop where
 n:l.length≤200
 q:∀(i:Nat)(x:OuD),l[i]?=some x→x.seq=(i:Int)∧0≤x.so∧x.so<2∧x.xs.length≤16∧∀c∈x.xs,c.val
theorem OuL.at_{x:OuL}(h:OuS x.l){k:Nat}{y:OuV}(hk:x.us[k]?=some y):y.seq=(k:Int)∧0≤y.so∧y.so<2∧y.d.xs.length≤16∧∀c∈y.d.xs,c.val:=h.q k y.d' (by unfold OuL.l;rw[List.getElem?_map,hk];rfl)
theorem OuL.mem_{x:OuL}(h:OuS x.l){y:OuV}(hy:y∈x.us):y.d.xs.length≤16∧∀c∈y.d.xs,c.val:=by
 obtain⟨k,hk,rfl⟩:=List.getElem_of_mem hy
 exact(OuL.at_ h (List.getElem?_eq_getElem hk)).2.2.2
theorem OuL.len_{x:OuL}(h:OuS x.l):x.us.length≤200:=by have:=h.n;unfold OuL.l at this;rwa[List.length_map]at this
theorem OuL.of{S:Nat→Prop}{w0 w:World}{M:List Hp}{A:Option Nat}{c:Nat}{cs:List Value}{us:List OuO}(hm:Mm S w0 M w)(hM:∀h∈(⟨A,192,cs⟩:Hp)::us.map OuO.hp,h∈M)(hr:Row A us.length c 3 (us.flatMap OuO.v) cs)(ho:∀r∈us,r.d.ok):OuL.ok ⟨ad A,c,us.map OuO.rd⟩ w:=⟨by dsimp only;rw[OuO.rds_v];exact hm.rd_row (hM _ (List.mem_cons_self ..)) hr,fun y hy=>by
 obtain⟨z,hz,rfl⟩:=List.mem_map.1 hy
 exact CO.rd_ok hm (hM _ (List.mem_cons_of_mem _ (List.mem_map.2 ⟨z,hz,rfl⟩))) (ho z hz)⟩
theorem OuL.on{A:Option Nat}{c:Nat}{cs:List Value}{us:List OuO}(hr:Row A us.length c 3 (us.flatMap OuO.v) cs)(ho:∀r∈us,r.d.ok):On (⟨A,192,cs⟩::us.map OuO.hp) (OuL.ok ⟨ad A,c,us.map OuO.rd⟩):=fun _ _ _ _ hm hM=>OuL.of hm hM hr ho
theorem ord_c(x:OuL)(wB:World)(hx:x.ok wB)(h:OuS x.l):Ret Tryz.prog 102 [x.v] wB (fun u w'=>u= .bool true∧Pu wB w'):=by
 have hn:=OuL.len_ h
 have hro:=hx.u
 unfold OuL.v
 refine enterR Tryz.func102 rfl rfl rfl fun a hs hm=>?_
 refine gsce98_ ?_;clear hs hm a;intros;rename_i a hm hs
 refine cLoop (X:=Nat) (fun k a w'=>k≤x.us.length∧Sl Tryz.f102.ntmps [(5,.slice x.A x.us.length x.c),(6,.int .i64 (x.us.length:Int)),(7,.int .i64 (k:Int))] a∧Mm (fun _=>False) wB [] w') (fun k=>x.us.length-k) 0 ⟨Nat.zero_le _,(sb_ hs),hm⟩ ?_
 clear hs hm a
 rintro k a w' ⟨hk,hs,hm⟩
 by_cases hlt:k<x.us.length
 ·obtain⟨b1,o1,hA,hb1,r1⟩:=hro.ro (by rw[flat_len OuV.v 3 OuV.len];omega)
  have r2:=r1.flat OuV.len hlt
  obtain⟨h1,h2,h3,h4,-⟩:=OuL.at_ h (List.getElem?_eq_getElem hlt)
  generalize x.us[k]=q at r2 h1 h2 h3 h4
  unfold OuV.v at r2
  rw[h1]at r2
  rw[hA]at hs
  refine gsce98_ ?_;clear hs hm a;intros;rename_i a hm hs
  rw[←hA]at hs
  exact⟨k+1,by omega,by omega,(sb_ hs),hm.sub (List.nil_sublist _)⟩
 ·obtain rfl:k=x.us.length:=by omega
  refine gsce98_ ?_;clear hs hm a;intros;rename_i a hm hs
  exact gRet1 hs rfl rfl ⟨rfl,hm.fr⟩
theorem OuS.snoc{l:List OuD}{y:OuD}(h:OuS l)(hn:l.length<200)(hy:y.seq=(l.length:Int)∧0≤y.so∧y.so<2∧y.xs.length≤16∧∀c∈y.xs,c.val):OuS (l++[y]):=⟨by rw[List.length_append,List.length_singleton];omega,fun i x hi=>by
 by_cases hil:i<l.length
 ·rw[List.getElem?_append_left hil]at hi
  exact h.q i x hi
 ·rw[List.getElem?_append_right (by omega)]at hi
  obtain⟨hi',e⟩:=List.getElem?_eq_some_iff.1 hi
  rw[List.length_singleton]at hi'
  obtain rfl:i=l.length:=by omega
  rw[Nat.sub_self]at hi
  obtain rfl:=Option.some.inj hi
  exact hy⟩
theorem send_c(x:OuL)(so:Int)(l:CnS)(wB:World)(hx:x.ok wB)(h:OuS x.l)(hl:l.ok wB)(hlv:∀c∈l.xs,c.val)(hln:l.xs.length≤1000):Ret Tryz.prog 137 [x.v,.int .i64 so,l.v] wB (fun u w'=>∃(y:OuL)(n:Int)(b:Bool)(R:List Hp),u= .tuple #[y.v,.int .i64 n,.bool b]∧On R y.ok∧New wB w' R∧OuS y.l∧0≤n∧n≤1000∧Pu wB w'):=by
 have hn:=OuL.len_ h
 have k1:=fun w'' (hf:Pu wB w'')=>ocp_c x.A x.c x.us w'' (hx.pu hf).u (hx.pu hf).d (by omega) (fun q hq=>by have:=(OuL.mem_ h hq).1;omega)
 unfold OuL.v CnS.v
 refine enterR Tryz.func137 rfl rfl rfl fun a hs hm=>?_
 refine gsc5af_ ?_;clear hs hm a;intros;rename_i a hm hs
 refine st hs rfl rfl rfl (d_call hs rfl rfl rfl (pl 105 rfl) ((k1 _ hm.fr))) ?_;clear hs a;rintro _ w1 ⟨qA,qc,qcs,rs,rfl,hqr,hok,hab,hrl,hN,hf⟩ a hs
 replace hm:=gainE hm hf hN
 clear hN hf k1
 rw[hrl]at hs hqr
 have hfin:∀(A:Option Nat)(c:Nat)(cs:List Value)(us:List OuO)(n:Int)(b:Bool)(w':World),Row A us.length c 3 (us.flatMap OuO.v) cs→(∀r∈us,r.d.ok)→OuS (us.map OuO.d')→Mm (fun _=>False) wB (⟨A,192,cs⟩::us.map OuO.hp) w'→0≤n∧n≤1000→∃(y:OuL)(n':Int)(b':Bool)(R:List Hp),Value.tuple #[slv A us.length c,.int .i64 n,.bool b]= .tuple #[y.v,.int .i64 n',.bool b']∧On R y.ok∧New wB w' R∧OuS y.l∧0≤n'∧n'≤1000∧Pu wB w':=
  fun A c cs us n b w' h1 h2 h3 h4 h5=>⟨⟨ad A,c,us.map OuO.rd⟩,n,b,_,by unfold OuL.v;dsimp only;rw[List.length_map];rfl,OuL.on h1 h2,h4.new (List.Sublist.refl _),by unfold OuL.l;dsimp only;rw[OuO.rds_d];exact h3,h5.1,h5.2,h4.fr⟩
 have hrv:OuS (rs.map OuO.d'):=by rw[hab];exact h
 have hno:∀(w':World),Mm (fun _=>False) wB (⟨qA,192,qcs⟩::rs.map OuO.hp) w'→∃(y:OuL)(n':Int)(b':Bool)(R:List Hp),Value.tuple #[slv qA x.us.length qc,.int .i64 0,.bool false]= .tuple #[y.v,.int .i64 n',.bool b']∧On R y.ok∧New wB w' R∧OuS y.l∧0≤n'∧n'≤1000∧Pu wB w':=fun w' hM=>by
  have:=hfin qA qc qcs rs 0 false w' (by rw[hrl];exact hqr) hok hrv hM (by omega)
  rwa[hrl]at this
 simp only[List.nil_append]at hm
 by_cases h1:0≤so
 rotate_left
 ·refine gsc5af_ ?_;clear hs hm a;intros;rename_i a hm hs
  exact z27a2_
 by_cases h2:so<2
 rotate_left
 ·refine gsc5af_ ?_;clear hs hm a;intros;rename_i a hm hs
  exact z27a2_
 by_cases h3:x.us.length<200
 rotate_left
 ·refine gsc5af_ ?_;clear hs hm a;intros;rename_i a hm hs
  exact z27a2_
 by_cases h4:l.xs.length≤16
 rotate_left
 ·refine gsc5af_ ?_;clear hs hm a;intros;rename_i a hm hs
  exact z27a2_
 have hlr:Rd wB wB.heap.size l.A (cns l.xs):=hl
 refine gsc5af_ ?_;clear hs hm a;intros;rename_i a hm hs
 refine dv hs (Wnt.none rfl) rfl rfl (d_appendS (A:=none) (n:=0) (c:=0) (xs:=[]) (news:=cns l.xs) hs rfl rfl rfl rfl tab rfl rfl rfl rfl rfl (hm.zero 95) mem_ (Row.empty 4) (cns_len _) (hm.fr.rd' hlr) (cns_one _) (by show(0+l.xs.length)*24≤_;omega) (by omega)) ?_
 clear hs
 rintro _ w3 ⟨rA,rc,rcs,rfl,hrr,hM⟩ a hs
 replace hm:=hM _ rep_
 clear hM
 rw[Nat.zero_add,List.nil_append]at hrr
 rw[Nat.zero_add]at hs
 refine gsc5af_ ?_;clear hs hm a;intros;rename_i a hm hs
 refine dv hs (Wnt.none rfl) rfl rfl (d_append (A:=qA) (n:=x.us.length) (c:=qc) (news:=[.int .i64 (x.us.length:Int),.int .i64 so,slv rA l.xs.length rc]) hs rfl rfl rfl rfl rfl tab rfl rfl rfl rfl rfl hm mem_ hqr rfl (hm.ro (n:=3) mem_ (cutF_ok rfl)) rfl (by show(x.us.length+1)*40≤_;omega) (by omega)) ?_
 clear hs
 rintro _ w4 ⟨qA',qc',qcs',rfl,hqr',hM⟩ a hs
 replace hm:=hM _ rep_
 clear hM
 refine gsc5af_ ?_;clear hs hm a;intros;rename_i a hm hs
 have hsn:=OuO.snoc rs ⟨x.us.length,so,⟨rA,rc,rcs,l.xs⟩⟩
 rw[show[.int .i64 (x.us.length:Int),.int .i64 so,slv rA l.xs.length rc]=OuO.v ⟨x.us.length,so,⟨rA,rc,rcs,l.xs⟩⟩from rfl,hsn]at hqr'
 have hll:(rs++[(⟨x.us.length,so,⟨rA,rc,rcs,l.xs⟩⟩:OuO)]).length=x.us.length+1:=by rw[List.length_append,List.length_singleton,hrl]
 have hfin':=hfin qA' qc' qcs' (rs++[(⟨x.us.length,so,⟨rA,rc,rcs,l.xs⟩⟩:OuO)]) (l.xs.length:Int) true _ (by rw[hll];exact hqr') (fun r hr=>by
  rcases List.mem_append.1 hr with hr|hr
  ·exact hok r hr
  ·rcases List.mem_singleton.1 hr with rfl;exact hrr) (by
  rw[List.map_append]
  refine hrv.snoc (by rw[List.length_map];omega) ⟨by rw[List.length_map,hrl];rfl,h1,h2,h4,hlv⟩) (OuO.perm (r:=⟨x.us.length,so,⟨rA,rc,rcs,l.xs⟩⟩) (L:=[⟨qA',192,qcs'⟩]) (hm.sub (List.Sublist.cons _ (List.Sublist.refl _)))) (by omega)
 rw[hll]at hfin'
 exact gRetN tab hs rfl (.cons (.tmp rfl) (.cons (.tmp rfl) (.cons (.tmp rfl) .nil))) hfin'
section
variable {P:Program} {T:List (Nat × TI)} {N:Nat} {L:List (Nat × Value)} {a:Act} {w:World} {o:Oper} {x y z:Operand} {t e:TypeId} {i j:TI} {A:Option Addr} {n c:Nat} {k k2:IntKind}
theorem r_cutFG{l:Nat}(hs:Sl N L a)(ho:o.op= .slice t x (some y) none none)(hx:ev L x=some (.slice A n c))(hy:ev L y=some (.int k (l:Int)))(hT:TabOk P T)(hc:tlk T t=some i)(hd:i.d= .sl e)(he:tlk T e=some j)(h1:l≤n):RunV P a o w (.slice (if c=l then A else A.map (·.add (l*j.sz))) (n-l) (c-l)):=
 r_sliceFrom hs ho hx hy hT hc hd he (Int.natCast_nonneg l) (by omega)
theorem r_cutTG{l:Nat}(hs:Sl N L a)(ho:o.op= .slice t x none (some y) none)(hx:ev L x=some (.slice A n c))(hy:ev L y=some (.int k (l:Int)))(hT:TabOk P T)(hc:tlk T t=some i)(hd:i.d= .sl e)(he:tlk T e=some j)(h1:l≤c):RunV P a o w (.slice A l c):=
 r_sliceTo hs ho hx hy hT hc hd he (Int.natCast_nonneg l) (by omega)
end
structure InL where
 A:Option Addr
 c:Nat
 qs:List WV
def InL.v(x:InL):Value:= .slice x.A x.qs.length x.c
structure InL.ok(x:InL)(w:World):Prop where
 q:Rd w w.heap.size x.A (x.qs.map WV.v)
 d:∀y∈x.qs,y.ok w
theorem InL.ok.pu{x:InL}{w w':World}(h:x.ok w)(hf:Pu w w'):x.ok w':=⟨hf.rd' h.q,fun y hy=>(h.d y hy).pu hf⟩
structure InL.val(x:InL):Prop where
 n:x.qs.length≤2
 l:∀q∈x.qs,q.xs.length≤q.c∧q.xs.length≤64∧∀v∈q.xs,0≤v∧v≤65535
theorem InL.of{S:Nat→Prop}{w0 w:World}{M:List Hp}{qA:Option Nat}{qc:Nat}{qcs:List Value}{rs:List WS}(hm:Mm S w0 M w)(hM:∀h∈(⟨qA,74,qcs⟩:Hp)::rs.map WS.hp,h∈M)(hr:Row qA rs.length qc 1 (rs.map WS.v) qcs)(ho:∀r∈rs,r.ok):InL.ok ⟨ad qA,qc,rs.map WS.rd⟩ w:=⟨by dsimp only;rw[WS.rds_v];exact hm.rd_row (hM _ (List.mem_cons_self ..)) hr,fun y hy=>by
 obtain⟨z,hz,rfl⟩:=List.mem_map.1 hy
 exact WS.rd_ok hm (hM _ (List.mem_cons_of_mem _ (List.mem_map.2 ⟨z,hz,rfl⟩))) (ho z hz)⟩
theorem InL.of_val{x:InL}{qA:Option Nat}{qc:Nat}{rs:List WS}(h:x.val)(he:rs.map WS.xs=x.qs.map WV.xs)(ho:∀r∈rs,r.ok):InL.val ⟨ad qA,qc,rs.map WS.rd⟩:=⟨by
 have:=congrArg List.length he
 rw[List.length_map,List.length_map]at this
 dsimp only
 rw[List.length_map,this]
 exact h.n,fun y hy=>by
 obtain⟨z,hz,rfl⟩:=List.mem_map.1 hy
 have hzx:z.xs∈x.qs.map WV.xs:=he▸List.mem_map.2 ⟨z,hz,rfl⟩
 obtain⟨q,hq,e⟩:=List.mem_map.1 hzx
 have:=h.l q hq
 rw[e]at this
 exact⟨Row.le (ho z hz),this.2.1,this.2.2⟩⟩
theorem InL.on{qA:Option Nat}{qc:Nat}{qcs:List Value}{rs:List WS}(hr:Row qA rs.length qc 1 (rs.map WS.v) qcs)(ho:∀r∈rs,r.ok):On (⟨qA,74,qcs⟩::rs.map WS.hp) (InL.ok ⟨ad qA,qc,rs.map WS.rd⟩):=fun _ _ _ _ hm hM=>InL.of hm hM hr ho
theorem wds_cut{w:World}{B:Nat}{A:Option Addr}{xs:List Int}(h:Rd w B A (wds xs)){o c:Nat}(hok:o≤xs.length)(hc:xs.length≤c):Rd w B (if c=o then A else A.map (·.add (o*1))) (wds (xs.drop o)):=by
 have e:∀l:List Int,wds l=l.flatMap (fun v=>[Value.int .u16 v]):=fun l=>by
  unfold wds
  induction l with
  |nil=>rfl
  |cons a t ih=>rw[List.map_cons,List.flatMap_cons,←ih];rfl
 rw[e]at h
 have:=rd_cut (s:=1) (fun _=>rfl) h (o:=o) (k:=xs.length-o) (c:=c) (by omega) hc
 rw[List.take_of_length_le (by rw[List.length_drop];omega),←e]at this
 exact this
theorem WS.mem_hp{l:List WS}{k:Nat}{q:WS}(h:l[k]?=some q):q.hp∈l.map WS.hp:=List.mem_map.2 ⟨q,List.mem_of_getElem? h,rfl⟩
theorem recv_c(x:InL)(so n:Int)(wB:World)(hx:x.ok wB)(h:x.val):Ret Tryz.prog 138 [x.v,.int .i64 so,.int .i64 n] wB (fun u w'=>∃(y:InL)(l:CnS)(b:Bool)(R:List Hp),u= .tuple #[y.v,l.v,.bool b]∧On R y.ok∧On R l.ok∧New wB w' R∧y.val∧(∀c∈l.xs,c.val)∧l.xs.length≤64∧(l.xs.length:Int)≤max 0 n∧Pu wB w'):=by
 have hn:=h.n
 have k1:=fun w'' (hf:Pu wB w'')=>cpin_c x.A x.c x.qs w'' (hx.pu hf).q (hx.pu hf).d (by omega) (fun q hq=>by have:=(h.l q hq).2.1;omega)
 unfold InL.v
 refine enterR Tryz.func138 rfl rfl rfl fun a hs hm=>?_
 refine gs5c3d_ ?_;clear hs hm a;intros;rename_i a hm hs
 refine st hs rfl rfl rfl (d_call hs rfl rfl rfl (pl 103 rfl) ((k1 _ hm.fr))) ?_;clear hs a;rintro _ w1 ⟨qA,qc,qcs,rs,rfl,hqr,hok,hab,hrl,hN,hf⟩ a hs
 replace hm:=gainE hm hf hN
 clear hN hf k1
 simp only[List.nil_append]at hm
 have hlen:∀(j:Nat)(r:WS),rs[j]?=some r→∃q,x.qs[j]?=some q∧r.xs=q.xs:=fun j r hj=>by
  have:=congrArg (fun l=>l[j]?) hab
  simp only[List.getElem?_map,hj,Option.map_some]at this
  cases hq:x.qs[j]? with
  |none=>rw[hq]at this;cases this
  |some q=>rw[hq]at this;exact⟨q,rfl,Option.some.inj this⟩
 have hrv:∀r∈rs,r.xs.length≤r.c∧r.xs.length≤64∧∀v∈r.xs,0≤v∧v≤65535:=fun r hr=>by
  obtain⟨j,hj,rfl⟩:=List.getElem_of_mem hr
  obtain⟨q,hq,e⟩:=hlen j _ (List.getElem?_eq_getElem hj)
  have:=h.l q (List.mem_of_getElem? hq)
  exact⟨Row.le (hok _ (List.getElem_mem hj)),by rw[e];exact this.2.1,by rw[e];exact this.2.2⟩
 have hno:∀(w':World),Mm (fun _=>False) wB (⟨qA,74,qcs⟩::rs.map WS.hp) w'→∃(y:InL)(l:CnS)(b:Bool)(R:List Hp),Value.tuple #[slv qA rs.length qc,nS,.bool false]= .tuple #[y.v,l.v,.bool b]∧On R y.ok∧On R l.ok∧New wB w' R∧y.val∧(∀c∈l.xs,c.val)∧l.xs.length≤64∧(l.xs.length:Int)≤max 0 n∧Pu wB w':=fun w' hM=>by
  refine⟨⟨ad qA,qc,rs.map WS.rd⟩,⟨none,0,[]⟩,false,_,by unfold InL.v;dsimp only;rw[List.length_map];rfl,InL.on hqr hok,(fun _ _ _ _ _ _=>nilC_ok 0 _),hM.new (List.Sublist.refl _),⟨by dsimp only;rw[List.length_map];omega,fun y hy=>?_⟩,(fun c hc=>by cases hc),Nat.zero_le _,(by show((0:Nat):Int)≤_;omega),hM.fr⟩
  obtain⟨z,hz,rfl⟩:=List.mem_map.1 hy
  exact hrv z hz
 by_cases h1:0≤so
 rotate_left
 ·refine gs5c3d_ ?_;clear hs hm a;intros;rename_i a hm hs
  exact z27a2_
 by_cases h2:so<(x.qs.length:Int)
 rotate_left
 ·refine gs5c3d_ ?_;clear hs hm a;intros;rename_i a hm hs
  exact z27a2_
 by_cases h3:0≤n
 rotate_left
 ·refine gs5c3d_ ?_;clear hs hm a;intros;rename_i a hm hs
  exact z27a2_
 obtain⟨k,rfl⟩:∃k:Nat,so=(k:Int):=⟨so.toNat,by omega⟩
 have hk:k<x.qs.length:=by omega
 obtain⟨b1,o1,hA,hb1,r1⟩:=hx.q.ro (by rw[List.length_map];omega)
 obtain⟨q,hq⟩:∃q,x.qs[k]?=some q:=⟨_,List.getElem?_eq_getElem hk⟩
 have hqm:=List.mem_of_getElem? hq
 have hcell:(x.qs.map WV.v)[k]?=some (.slice q.A q.xs.length q.c):=by rw[List.getElem?_map,hq];rfl
 have hqo:Rd wB wB.heap.size q.A (wds q.xs):=hx.d q hqm
 obtain⟨hqc,hqn,hqv⟩:=h.l q hqm
 obtain⟨kk,hkk⟩:∃kk:Nat,min n (q.xs.length:Int)=(kk:Int):=⟨(min n (q.xs.length:Int)).toNat,by omega⟩
 obtain⟨r,hr⟩:∃r,rs[k]?=some r:=⟨_,List.getElem?_eq_getElem (by omega)⟩
 obtain⟨q',hq',hrq⟩:=hlen k r hr
 rw[hq]at hq'
 obtain rfl:=Option.some.inj hq'
 have hrk:=hok r (List.mem_of_getElem? hr)
 have hqle:r.xs.length≤r.c:=Row.le hrk
 have hqcs:qcs[k]?=some (slv r.A r.xs.length r.c):=hqr.get (by rw[List.getElem?_map,hr];rfl)
 obtain⟨gq,rfl⟩:=hqr.some_ (by omega)
 have hql:=hqr.len
 have hqle2:=hqr.le
 rw[hrq]at hqcs hqle
 rw[hA]at hs
 refine gs5c3d_ ?_;clear hs hm a;intros;rename_i a hm hs
 rw[hkk]at hs
 refine gs5c3d_ ?_;clear hs hm a;intros;rename_i a hm hs
 replace hm:=hm.zero 95
 refine cMidE (.exit 0) (fun a w=>∃r:CO,r.ok∧r.xs=numsC (q.xs.take kk)∧Sl Tryz.f138.ntmps [(1,.int .i64 (k:Int)),(9,slv (some gq) rs.length qc),(10,.int .i64 (kk:Int)),(11,slv r.A kk r.c)] a∧Mm (fun _=>False) wB (r.hp::⟨some gq,74,qcs⟩::rs.map WS.hp) w) ?_ ?_
 ·refine cLoop (X:=FmX) (fun X a w=>X.al.length≤kk∧X.al=numsC (q.xs.take X.al.length)∧Row X.A X.al.length X.c 4 (cns X.al) X.cs∧Sl Tryz.f138.ntmps [(1,.int .i64 (k:Int)),(9,slv (some gq) rs.length qc),(10,.int .i64 (kk:Int)),(11,slv X.A X.al.length X.c),(41,.slice q.A kk q.c),(42,.int .i64 (kk:Int)),(43,.int .i64 (X.al.length:Int))] a∧Mm (fun _=>False) wB (⟨X.A,95,X.cs⟩::⟨some gq,74,qcs⟩::rs.map WS.hp) w) (fun X=>kk-X.al.length) ⟨[],none,0,[]⟩ ⟨Nat.zero_le _,rfl,Row.empty 4,(sb_ hs),hm⟩ ?_
  clear hs hm a
  rintro⟨al,lA,lc,lcs⟩ a w ⟨i1,i2,i3,hs,hm⟩
  dsimp only at i1 i2 i3 hs hm
  by_cases hl2:al.length<kk
  ·have hl3:al.length<q.xs.length:=by omega
   obtain⟨b2,o2,hA2,hb2,r2⟩:=hqo.ro (by rw[wds_len2];omega)
   have hcw:(wds q.xs)[al.length]?=some (.int .u16 q.xs[al.length]):=by unfold wds;rw[List.getElem?_map,List.getElem?_eq_getElem hl3];rfl
   have hsn:al++[numC q.xs[al.length]]=numsC (q.xs.take (al.length+1)):=by
    rw[List.take_succ_eq_append_getElem hl3]
    unfold numsC at i2 ⊢
    rw[List.map_append,←i2]
    rfl
   generalize q.xs[al.length]=v at hcw hsn
   rw[hA2]at hs
   refine gs5c3d_ ?_;clear hs hm a;intros;rename_i a hm hs
   refine dv hs (Wnt.none rfl) rfl rfl (d_append (A:=lA) (n:=al.length) (c:=lc) (news:=(numC v).cs) hs rfl rfl rfl rfl rfl tab rfl rfl rfl rfl rfl hm mem_ i3 rfl (hm.ro (n:=4) mem_ (cutF_ok rfl)) rfl (by show(al.length+1)*24≤_;omega) (by omega)) ?_
   clear hs
   rintro _ w4 ⟨A',c',cs',rfl,hr',hM⟩ a hs
   replace hm:=hM _ rep_
   clear hM
   rw[show cns al++(numC v).cs=cns (al++[numC v]) by unfold cns;rw[List.flatMap_append,List.flatMap_singleton]]at hr'
   refine gs5c3d_ ?_;clear hs hm a;intros;rename_i a hm hs
   rw[←hA2]at hs
   refine⟨⟨al++[numC v],A',c',cs'⟩,by dsimp only;rw[List.length_append,List.length_singleton];omega,?_⟩
   dsimp only
   rw[List.length_append,List.length_singleton]
   exact⟨hl2,hsn,hr',(sb_ hs),hm.sub (List.Sublist.cons _ (List.Sublist.refl _))⟩
  ·have hle:al.length=kk:=by omega
   refine gs5c3d_ ?_;clear hs hm a;intros;rename_i a hm hs
   rw[hle]at hs
   rw[hle]at i2
   have hll:al.length=kk:=hle
   exact And.intro rfl ⟨⟨lA,lc,lcs,al⟩,i3,i2,by dsimp only;exact(sb_ hs),hm⟩
 clear hs hm a
 rintro a w ⟨l,hlo,hlx,hs,hm⟩
 have hll:l.xs.length=kk:=by rw[hlx];unfold numsC;rw[List.length_map,List.length_take];omega
 refine gs5c3d_ ?_;clear hs hm a;intros;rename_i a hm hs
 have hqr':=hqr.set k (.slice (if r.c=kk then ad r.A else(ad r.A).map (·.add (kk*1))) (q.xs.length-kk) (r.c-kk))
 have hrr:∀{S:Nat→Prop}{w0 w:World}{M:List Hp},Mm S w0 M w→(∀h∈rs.map WS.hp,h∈M)→Rd w w.heap.size (ad r.A) (wds q.xs):=fun hm hM=>by
  have:=WS.rd_ok hm (hM _ (WS.mem_hp hr)) hrk
  unfold WV.ok WS.rd at this
  dsimp only at this
  rwa[hrq]at this
 refine gRetN tab hs rfl (.cons (.tmp rfl) (.cons (.tmp rfl) (.cons (.tmp rfl) .nil))) ⟨⟨some ⟨gq,0,none⟩,qc,(rs.map WS.rd).set k ⟨if r.c=kk then ad r.A else(ad r.A).map (·.add (kk*1)),r.c-kk,q.xs.drop kk⟩⟩,l.rd,true,_,by dsimp only;rw[List.length_set,List.length_map,CO.rd_v];unfold CO.v;rw[hll];rfl,fun _ _ _ _ hm hM=>⟨?_,fun y hy=>?_⟩,(CO.on hlo).more (fun x hx=>?_),hm.new (List.Sublist.refl _),⟨by dsimp only;rw[List.length_set,List.length_map];omega,fun y hy=>?_⟩,fun c hc=>?_,by show l.xs.length≤64;omega,by show(l.xs.length:Int)≤_;omega,hm.fr⟩
 ·dsimp only
  rw[List.map_set,WS.rds_v,show WV.v ⟨if r.c=kk then ad r.A else(ad r.A).map (·.add (kk*1)),r.c-kk,q.xs.drop kk⟩= .slice (if r.c=kk then ad r.A else(ad r.A).map (·.add (kk*1))) (q.xs.length-kk) (r.c-kk) by unfold WV.v;dsimp only;rw[List.length_drop]]
  exact hm.rd_row (hM _ (List.mem_cons_of_mem _ (List.mem_cons_self ..))) hqr'
 ·dsimp only at hy
  rcases List.mem_or_eq_of_mem_set hy with hy|rfl
  ·obtain⟨z,hz,rfl⟩:=List.mem_map.1 hy
   exact WS.rd_ok hm (hM _ (List.mem_cons_of_mem _ (List.mem_cons_of_mem _ (List.mem_map.2 ⟨z,hz,rfl⟩)))) (hok z hz)
  ·exact wds_cut (hrr hm fun h hh=>hM _ (List.mem_cons_of_mem _ (List.mem_cons_of_mem _ hh))) (by omega) (by omega)
 ·rcases List.mem_singleton.1 hx with rfl
  exact List.mem_cons_self ..
 ·dsimp only at hy
  rcases List.mem_or_eq_of_mem_set hy with hy|rfl
  ·obtain⟨z,hz,rfl⟩:=List.mem_map.1 hy
   exact hrv z hz
  ·exact⟨by dsimp only;rw[List.length_drop];omega,by dsimp only;rw[List.length_drop];omega,fun v hv=>hqv v (List.mem_of_mem_drop hv)⟩
 ·rw[show l.rd.xs=l.xs from rfl,hlx]at hc
  obtain⟨v,hv,rfl⟩:=List.mem_map.1 hc
  exact CN.num_val (hqv v (List.mem_of_mem_take hv))
theorem gpShd0_{G H:Prop}(k:H)(s:Bx H→G:=by intro k_;(repeat(first|(refine ovR_ ?_;(try clear hs a);intro a hs)|((with_reducible apply lCons);first|(refine dv hs gw_ rfl rfl da_ ?_;(try clear hs hm a);rintro _ w_ ⟨g_,rfl,-,hm⟩ a hs)|(refine stn hs rfl rfl ds_ ?_;(try clear hs hm a);rintro-w_ hm a hs))|refine sc_ ?_));have m_:=hm;have s_:=hs;clear hs;(try clear hm);revert m_ s_ a;(try revert w_);(repeat revert g_);exact k_.h):G:=s ⟨k⟩
structure OV where
 ck:WV
 rn:WV
 ins:InL
 f:FV
 us:OuL
abbrev OV.cl(x:OV)(t:List Value):List Value:= .slice x.ck.A x.ck.xs.length x.ck.c:: .slice x.rn.A x.rn.xs.length x.rn.c:: .slice x.ins.A x.ins.qs.length x.ins.c::t
def OV.vs(x:OV):List Value:=[.slice x.ck.A x.ck.xs.length x.ck.c,.slice x.rn.A x.rn.xs.length x.rn.c,.slice x.ins.A x.ins.qs.length x.ins.c,.slice x.f.dA x.f.ds.length x.f.dc,.slice x.f.oA x.f.os.length x.f.oc,.slice x.us.A x.us.us.length x.us.c]
def OV.v(x:OV):Value:= .agg #[.slice x.ck.A x.ck.xs.length x.ck.c,.slice x.rn.A x.rn.xs.length x.rn.c,.slice x.ins.A x.ins.qs.length x.ins.c,.slice x.f.dA x.f.ds.length x.f.dc,.slice x.f.oA x.f.os.length x.f.oc,.slice x.us.A x.us.us.length x.us.c]
structure OV.ok(x:OV)(w:World):Prop where
 ck:x.ck.ok w
 rn:x.rn.ok w
 ins:x.ins.ok w
 f:x.f.ok w
 us:x.us.ok w
theorem OV.ok.pu{x:OV}{w w':World}(h:x.ok w)(hf:Pu w w'):x.ok w':=⟨h.ck.pu hf,h.rn.pu hf,h.ins.pu hf,h.f.pu hf,h.us.pu hf⟩
def WV.fit(q:WV):Prop:=q.xs.length≤q.c∧q.xs.length≤64∧∀v∈q.xs,0≤v∧v≤65535
structure OV.val(x:OV):Prop where
 ck:x.ck.fit
 rn:x.rn.fit
 ins:x.ins.val
 f:x.f.d'.val
 us:OuS x.us.l
theorem oval_c(x:OV)(wB:World)(hx:x.ok wB)(h:x.val):Ret Tryz.prog 83 [x.v] wB (fun u w'=>u= .bool true∧Pu wB w'):=by
 have hin:=h.ins.n
 have hun:=OuL.len_ h.us
 have hc1:=h.ck.2.1
 have hr1:=h.rn.2.1
 have kf:=fun w'' (hf:Pu wB w'')=>fval_c x.f w'' (hx.pu hf).f h.f
 have ko:=fun w'' (hf:Pu wB w'')=>ord_c x.us w'' (hx.pu hf).us h.us
 unfold FV.v at kf
 unfold OuL.v at ko
 unfold OV.v
 refine enterR Tryz.func83 rfl rfl rfl fun a hs hm=>?_
 refine gsce98_ ?_;clear hs hm a;intros;rename_i a hm hs
 obtain⟨g1,rfl⟩:=hs.pp 1
 refine cLoop (X:=Nat) (fun k a w'=>k≤x.ins.qs.length∧Sl Tryz.f83.ntmps [(1,.pointer (some ⟨g1,0,none⟩)),(8,.slice x.ins.A x.ins.qs.length x.ins.c),(9,.int .i64 (x.ins.qs.length:Int)),(10,.int .i64 (k:Int))] a∧Mm (fun _=>False) wB [⟨some g1,81,x.vs⟩] w') (fun k=>x.ins.qs.length-k) 0 ⟨Nat.zero_le _,(sb_ hs),hm⟩ ?_
 clear hs hm a
 rintro k a w' ⟨hk,hs,hm⟩
 unfold OV.vs at hm
 by_cases hlt:k<x.ins.qs.length
 ·obtain⟨b1,o1,hA,hb1,r1⟩:=hx.ins.q.ro (by rw[List.length_map];omega)
  have hcell:(x.ins.qs.map WV.v)[k]?=some (.slice (x.ins.qs[k]).A (x.ins.qs[k]).xs.length (x.ins.qs[k]).c):=by rw[List.getElem?_map,List.getElem?_eq_getElem hlt];rfl
  have hq:=(h.ins.l _ (List.getElem_mem hlt)).2.1
  generalize x.ins.qs[k]=q at hcell hq
  rw[hA]at hs hm
  refine gsce98_ ?_;clear hs hm a;intros;rename_i a hm hs
  rw[←hA]at hs hm
  exact zb7e7_
 ·obtain rfl:k=x.ins.qs.length:=by omega
  refine gsce98_ ?_;clear hs hm a;intros;rename_i a hm hs
  refine cLoop (X:=Nat) (fun k a w'=>k≤x.us.us.length∧Sl Tryz.f83.ntmps [(1,.pointer (some ⟨g1,0,none⟩)),(19,.slice x.us.A x.us.us.length x.us.c),(20,.int .i64 (x.us.us.length:Int)),(21,.int .i64 (k:Int))] a∧Mm (fun _=>False) wB [⟨some g1,81,x.vs⟩] w') (fun k=>x.us.us.length-k) 0 ⟨Nat.zero_le _,(sb_ hs),hm⟩ ?_
  clear hs hm a
  rintro k a w' ⟨hk,hs,hm⟩
  unfold OV.vs at hm
  by_cases hlt:k<x.us.us.length
  ·obtain⟨b1,o1,hA,hb1,r1⟩:=hx.us.u.ro (by rw[flat_len OuV.v 3 OuV.len];omega)
   have r2:=r1.flat OuV.len hlt
   have hqm:=List.getElem_mem hlt
   obtain⟨h1,h2⟩:=OuL.mem_ h.us hqm
   have hqo:=hx.us.d _ hqm
   generalize x.us.us[k]=q at r2 h1 h2 hqo
   unfold OuV.v at r2
   have kc:=fun w'' (hf:Pu wB w'')=>ccls_c q.d 16 w'' (hqo.pu hf) h2 (by omega) (by omega)
   unfold CnS.v at kc
   rw[hA]at hs hm
   repeat(first|(refine gpShd0_ ?_;clear hs hm a;intros;rename_i a hm hs)|refine sc_ ?_|((with_reducible apply lCons);first|(refine dvc hs hm gw_ rfl rfl rfl rfl rfl (pl 96 rfl) (kc _ hm.fr) ?_;clear hs hm a;intro w hm a hs)))
   rw[←hA]at hs hm
   exact zfe81_
  ·obtain rfl:k=x.us.us.length:=by omega
   repeat(first|(refine gpShd0_ ?_;clear hs hm a;intros;rename_i a hm hs)|refine sc_ ?_|((with_reducible apply lCons);first|(refine dvc hs hm gw_ rfl rfl rfl rfl rfl (pl 101 rfl) (kf _ hm.fr) ?_;clear hs hm a;intro w hm a hs)|(refine dvc hs hm gw_ rfl rfl rfl rfl rfl (pl 102 rfl) (ko _ hm.fr) ?_;clear hs hm a;intro w hm a hs)))
   exact gRet1 hs rfl rfl ⟨rfl,hm.fr⟩
theorem ocpy_c(x:OV)(wB:World)(hx:x.ok wB)(h:x.val):Ret Tryz.prog 85 [x.v] wB (fun u w'=>∃(y:OV)(R:List Hp),u=y.v∧On R y.ok∧New wB w' R∧y.val∧y.ck.xs=x.ck.xs∧y.rn.xs=x.rn.xs∧Pu wB w'):=by
 have hin:=h.ins.n
 have hun:=OuL.len_ h.us
 have hc1:=h.ck.2.1
 have hr1:=h.rn.2.1
 have hfn:=h.f.n
 rw[FV.len_]at hfn
 have hfo:x.f.os.length=8:=h.f.o
 have hck:Rd wB wB.heap.size x.ck.A (wds x.ck.xs):=hx.ck
 have hrn:Rd wB wB.heap.size x.rn.A (wds x.rn.xs):=hx.rn
 have ki:=fun w'' (hf:Pu wB w'')=>cpin_c x.ins.A x.ins.c x.ins.qs w'' (hx.pu hf).ins.q (hx.pu hf).ins.d (by omega) (fun q hq=>by have:=(h.ins.l q hq).2.1;omega)
 have kf:=fun w'' (hf:Pu wB w'')=>fcp_c x.f w'' (hx.pu hf).f (by omega) (by omega) (fun q hq=>by have:=(h.f.d _ (FV.mem_ hq)).1;omega)
 have ko:=fun w'' (hf:Pu wB w'')=>ocp_c x.us.A x.us.c x.us.us w'' (hx.pu hf).us.u (hx.pu hf).us.d (by omega) (fun q hq=>by have:=(OuL.mem_ h.us hq).1;omega)
 unfold FV.v at kf
 unfold OV.v
 refine enterR Tryz.func85 rfl rfl rfl fun a hs hm=>?_
 refine gsc5af_ ?_;clear hs hm a;intros;rename_i a hm hs
 obtain⟨g1,rfl⟩:=hs.pp 1
 obtain⟨g2,rfl⟩:=hs.pp 2
 refine cMid (fun a w=>∃(y:OV)(R:List Hp),On R y.ok∧y.val∧y.ck.xs=x.ck.xs∧y.rn.xs=x.rn.xs∧Sl Tryz.f85.ntmps [(2,.pointer (some ⟨g2,0,none⟩))] a∧Mm (fun _=>False) wB (⟨some g2,81,y.vs⟩::R) w) ?_ ?_
 ·with_reducible repeat(first|apply gThen|apply wp_seq)
  refine cDrawT (n:=17) (.s [0,1,3,4,6,7,9,10,12,13]<| .o 2<| .x<| .o 5<| .x<| .o 8<| .x<| .o 11<| .x<| .o 14<| .x<| .t 15<| .o 16<| .d) [⟨some g1,81,[.slice x.ck.A x.ck.xs.length x.ck.c,.slice x.rn.A x.rn.xs.length x.rn.c,.slice x.ins.A x.ins.qs.length x.ins.c,.slice x.f.dA x.f.ds.length x.f.dc,.slice x.f.oA x.f.os.length x.f.oc,.slice x.us.A x.us.us.length x.us.c]⟩] hm rfl rfl ?_
  clear hm;intro t_ w1_ hm
  repeat' (first|(refine dg149e_ ?_;clear t_ hs hm a;intros;rename_i a hm hs t_)|refine tE t_ ?_|refine tC ?_ ?_|exact tN|intro t_|(refine oDo (i:=2) hs rfl (Wnt.none rfl) rfl rfl (by exact d_appendS (A:=none) (n:=0) (c:=0) (xs:=[]) (news:=wds x.ck.xs) hs rfl rfl rfl rfl tab rfl rfl rfl rfl rfl (hm.zero 23) mem_ (Row.empty 1) (wds_len2 _) (hm.fr.rd' hck) (wds_one2 _) (by show(0+x.ck.xs.length)*2≤_;omega) (by omega)) ?_;clear hs;rintro _ w1 ⟨cA,cc,ccs,rfl,hcr,hM⟩ a hs;(replace hm:=hM _ rep_);(clear hM);(rw[Nat.zero_add,List.nil_append]at hcr);(rw[Nat.zero_add]at hs);replace t_:=tX t_;refine⟨(hm.sub sub_),?_⟩)|(refine oDo (i:=5) hs rfl (Wnt.none rfl) rfl rfl (by exact d_appendS (A:=none) (n:=0) (c:=0) (xs:=[]) (news:=wds x.rn.xs) hs rfl rfl rfl rfl tab rfl rfl rfl rfl rfl (hm.zero 23) mem_ (Row.empty 1) (wds_len2 _) (hm.fr.rd' hrn) (wds_one2 _) (by show(0+x.rn.xs.length)*2≤_;omega) (by omega)) ?_;clear hs;rintro _ w1 ⟨rA,rc,rcs,rfl,hrr,hM⟩ a hs;(replace hm:=hM _ rep_);(clear hM);(rw[Nat.zero_add,List.nil_append]at hrr);(rw[Nat.zero_add]at hs);replace t_:=tX t_;refine⟨(hm.sub sub_),?_⟩)|(refine oDo (i:=8) hs rfl (Wnt.none rfl) rfl rfl (by exact d_call hs rfl rfl rfl (pl 103 rfl) ((ki _ hm.fr))) ?_;clear hs;rintro _ w1 ⟨qA,qc,qcs,rs,rfl,hqr,hqo,hqe,hql,hN,hf⟩ a hs;(replace hm:=gainE hm hf hN);(clear hf hN);(try simp only[List.cons_append,List.nil_append,List.append_assoc]at hm);replace t_:=tX t_;refine⟨(hm.sub sub_),?_⟩)|(refine oDo (i:=11) hs rfl (Wnt.none rfl) rfl rfl (by exact d_call hs rfl rfl rfl (pl 104 rfl) ((kf _ hm.fr))) ?_;clear hs;rintro _ w1 ⟨fy,rfl,hfy,hfd,hfl,hN,hf⟩ a hs;(replace hm:=gainE hm hf hN);(clear hf hN);(try simp only[List.cons_append,List.nil_append,List.append_assoc]at hm);replace t_:=tX t_;refine⟨(hm.sub sub_),?_⟩)|(refine oDo (i:=14) hs rfl (Wnt.none rfl) rfl rfl (by exact d_call hs rfl rfl rfl (pl 105 rfl) ((ko _ hm.fr))) ?_;clear hs;rintro _ w1 ⟨uA,uc,ucs,us,rfl,hur,huo,hue,hul,hN,hf⟩ a hs;(replace hm:=gainE hm hf hN);(clear hf hN);(try simp only[List.cons_append,List.nil_append,List.append_assoc]at hm);replace t_:=tX t_;refine⟨(hm.sub sub_),?_⟩)|(refine tD t_ ?_;(have hvs:OV.vs ⟨⟨ad cA,cc,x.ck.xs⟩,⟨ad rA,rc,x.rn.xs⟩,⟨ad qA,qc,rs.map WS.rd⟩,fy.rd,⟨ad uA,uc,us.map OuO.rd⟩⟩=[slv cA x.ck.xs.length cc,slv rA x.rn.xs.length rc,slv qA rs.length qc,slv fy.dA fy.ds.length fy.dc,slv fy.oA fy.os.length fy.oc,slv uA us.length uc]:=by unfold OV.vs FO.rd;dsimp only;rw[List.length_map,List.length_map,List.length_map];rfl);(have hin':=InL.on hqr hqo);(have hu':=OuL.on hur huo);(refine And.intro rfl ⟨⟨⟨ad cA,cc,x.ck.xs⟩,⟨ad rA,rc,x.rn.xs⟩,⟨ad qA,qc,rs.map WS.rd⟩,fy.rd,⟨ad uA,uc,us.map OuO.rd⟩⟩,⟨rA,23,rcs⟩::⟨cA,23,ccs⟩::⟨qA,74,qcs⟩::(rs.map WS.hp++(fy.hps++⟨uA,192,ucs⟩::us.map OuO.hp)),fun S w0 w M hm hM=>⟨hm.rd_row (hM _ (List.mem_cons_of_mem _ (List.mem_cons_self ..))) hcr,hm.rd_row (hM _ (List.mem_cons_self ..)) hrr,hin'.now hm fun z hz=>hM z (by simp only[List.mem_cons,List.mem_append]at hz ⊢;(first|(rcases hz with hz|hz<;>simp[hz])|simp[hz])),(FO.on hfy).now hm fun z hz=>hM z (by simp only[List.mem_cons,List.mem_append]at hz ⊢;(first|(rcases hz with hz|hz<;>simp[hz])|simp[hz])),hu'.now hm fun z hz=>hM z (by simp only[List.mem_cons,List.mem_append]at hz ⊢;(first|(rcases hz with hz|hz<;>simp[hz])|simp[hz]))⟩,⟨⟨Row.le hcr,h.ck.2⟩,⟨Row.le hrr,h.rn.2⟩,InL.of_val h.ins hqe hqo,by rw[FO.rd_d,hfd];exact h.f,by unfold OuL.l;dsimp only;rw[OuO.rds_d,hue];exact h.us⟩,rfl,rfl,(sb_ hs),?_⟩);(rw[hvs]);(exact(hm.sub (M':=⟨rA,23,rcs⟩::⟨cA,23,ccs⟩::⟨some g2,81,[slv cA x.ck.xs.length cc,slv rA x.rn.xs.length rc,slv qA rs.length qc,slv fy.dA fy.ds.length fy.dc,slv fy.oA fy.os.length fy.oc,slv uA us.length uc]⟩::⟨qA,74,qcs⟩::(rs.map WS.hp++(fy.hps++⟨uA,192,ucs⟩::us.map OuO.hp))) sub_).perm (List.perm_middle (l₁:=[_,_])).symm))|fail)
 clear hs hm a
 rintro a w ⟨y,R,ho,hv,hc1,hc2,hs,hm⟩
 refine gsc5af_ ?_;clear hs hm a;intros;rename_i a hm hs
 exact gRetN tab hs rfl (.cons (.cells rfl rfl rfl rfl (hm.ro (k:=0) (n:=6) (g:=g2) mem_ (cutF_ok rfl))) .nil) ⟨y,R,rfl,ho,hm.new (List.Sublist.cons _ (List.Sublist.refl _)),hv,hc1,hc2,hm.fr⟩
theorem obeg_c(A:Option Addr)(c:Nat)(qs:List WV)(x:InL)(ck rn:WV)(wB:World)(hx:Rd wB wB.heap.size A (qs.map WV.v))(hqs:∀q∈qs,q.ok wB)(hq1:qs.length≤4)(hqf:∀q∈qs,q.fit)(hi:x.ok wB)(hiv:x.val)(hck:ck.ok wB)(hckf:ck.fit)(hrn:rn.ok wB)(hrnf:rn.fit):Ret Tryz.prog 88 [.slice A qs.length c,x.v,ck.v,rn.v] wB (fun u w'=>∃(y:OV)(R:List Hp),u= .tuple #[y.v,.int .i64 0]∧On R y.ok∧New wB w' R∧y.val∧y.f.d'.ds=qs.map (fun q=>numsC q.xs)∧Pu wB w'):=by
 have hin:=hiv.n
 have hc1:=hckf.2.1
 have hr1:=hrnf.2.1
 have hck':Rd wB wB.heap.size ck.A (wds ck.xs):=hck
 have hrn':Rd wB wB.heap.size rn.A (wds rn.xs):=hrn
 have kn:=fun w'' (hf:Pu wB w'')=>fnew_c A c qs w'' (hf.rd' hx) (fun q hq=>(hqs q hq).pu hf) hq1 (fun q hq=>(hqf q hq).2.1) (fun q hq=>(hqf q hq).2.2)
 have ki:=fun w'' (hf:Pu wB w'')=>cpin_c x.A x.c x.qs w'' (hi.pu hf).q (hi.pu hf).d (by omega) (fun q hq=>by have:=(hiv.l q hq).2.1;omega)
 unfold InL.v WV.v
 refine enterR Tryz.func88 rfl rfl rfl fun a hs hm=>?_
 refine gsc5af_ ?_;clear hs hm a;intros;rename_i a hm hs
 obtain⟨g8,rfl⟩:=hs.pp 8
 refine st hs rfl rfl rfl (d_call hs rfl rfl rfl (pl 106 rfl) ((kn _ hm.fr))) ?_;clear hs a;rintro _ w1 ⟨fy,FR,rfl,hfo,hN,hfv,hfd,hf⟩ a hs
 replace hm:=gainE hm hf hN
 clear hf hN kn
 simp only[List.cons_append,List.nil_append]at hm
 unfold FV.v at hs
 refine gsc5af_ ?_;clear hs hm a;intros;rename_i a hm hs
 obtain⟨g10,rfl⟩:=hs.pp 10
 refine cMid (fun a w=>∃(y:OV)(R:List Hp)(g12:Nat)(h1 h2:Hp),On (h1::h2::R) y.ok∧y.val∧y.f.d'=fy.d'∧Sl Tryz.f88.ntmps [(8,.pointer (some ⟨g8,0,none⟩)),(12,.pointer (some ⟨g12,0,none⟩))] a∧Mm (fun _=>False) wB (⟨some g12,81,y.vs⟩::h1::h2::⟨some g8,81,[.slice none 0 0,.slice none 0 0,.slice none 0 0,.slice none 0 0,.slice none 0 0,.slice none 0 0]⟩::R) w) ?_ ?_
 ·with_reducible repeat(first|apply gThen|apply wp_seq)
  refine cDrawT (n:=10) (.s [0,2,4,6]<| .e [(1,.x<| .e [(3,.x<| .e [(5,.x<| .t 7<| .o 8<| .o 9<| .d),(8,.o 5<| .x<| .t 7<| .o 9<| .d)]),(8,.o 3<| .x<| .o 5<| .x<| .t 7<| .o 9<| .d)]),(8,.o 1<| .x<| .o 3<| .x<| .o 5<| .x<| .t 7<| .o 9<| .d)]) [⟨some g10,78,[.slice fy.dA fy.ds.length fy.dc,.slice fy.oA fy.os.length fy.oc]⟩] hm rfl rfl ?_
  clear hm;intro t_ w1_ hm
  repeat' (first|(refine dg149e_ ?_;clear t_ hs hm a;intros;rename_i a hm hs t_)|refine tE t_ ?_|refine tC ?_ ?_|exact tN|intro t_|(refine oDo (i:=1) hs rfl (Wnt.none rfl) rfl rfl (by exact d_appendS (A:=none) (n:=0) (c:=0) (xs:=[]) (news:=wds ck.xs) hs rfl rfl rfl rfl tab rfl rfl rfl rfl rfl (hm.zero 23) mem_ (Row.empty 1) (wds_len2 _) (hm.fr.rd' hck') (wds_one2 _) (by show(0+ck.xs.length)*2≤_;omega) (by omega)) ?_;clear hs;rintro _ w1 ⟨cA,cc,ccs,rfl,hcr,hM⟩ a hs;(replace hm:=hM _ rep_);(clear hM);(rw[Nat.zero_add,List.nil_append]at hcr);(rw[Nat.zero_add]at hs);replace t_:=tX t_;refine⟨(hm.sub sub_),?_⟩)|(refine oDo (i:=3) hs rfl (Wnt.none rfl) rfl rfl (by exact d_appendS (A:=none) (n:=0) (c:=0) (xs:=[]) (news:=wds rn.xs) hs rfl rfl rfl rfl tab rfl rfl rfl rfl rfl (hm.zero 23) mem_ (Row.empty 1) (wds_len2 _) (hm.fr.rd' hrn') (wds_one2 _) (by show(0+rn.xs.length)*2≤_;omega) (by omega)) ?_;clear hs;rintro _ w1 ⟨rA,rc,rcs,rfl,hrr,hM⟩ a hs;(replace hm:=hM _ rep_);(clear hM);(rw[Nat.zero_add,List.nil_append]at hrr);(rw[Nat.zero_add]at hs);replace t_:=tX t_;refine⟨(hm.sub sub_),?_⟩)|(refine oDo (i:=5) hs rfl (Wnt.none rfl) rfl rfl (by exact d_call hs rfl rfl rfl (pl 103 rfl) ((ki _ hm.fr))) ?_;clear hs;rintro _ w1 ⟨qA,qc,qcs,rs,rfl,hqr,hqo,hqe,hql,hN,hf⟩ a hs;(replace hm:=gainE hm hf hN);(clear hf hN);(try simp only[List.cons_append,List.nil_append,List.append_assoc]at hm);replace t_:=tX t_;refine⟨(hm.sub sub_),?_⟩)|(refine tD t_ ?_;(obtain⟨g12,rfl⟩:=hs.pp 12);(have hvs:OV.vs ⟨⟨ad cA,cc,ck.xs⟩,⟨ad rA,rc,rn.xs⟩,⟨ad qA,qc,rs.map WS.rd⟩,fy,⟨none,0,[]⟩⟩=[slv cA ck.xs.length cc,slv rA rn.xs.length rc,slv qA rs.length qc,.slice fy.dA fy.ds.length fy.dc,.slice fy.oA fy.os.length fy.oc,.slice none 0 0]:=by unfold OV.vs;dsimp only;rw[List.length_map];rfl);(have hin':=InL.on hqr hqo);(refine And.intro rfl ⟨⟨⟨ad cA,cc,ck.xs⟩,⟨ad rA,rc,rn.xs⟩,⟨ad qA,qc,rs.map WS.rd⟩,fy,⟨none,0,[]⟩⟩,FR++(⟨qA,74,qcs⟩::rs.map WS.hp),g12,⟨rA,23,rcs⟩,⟨cA,23,ccs⟩,fun S w0 w M hm hM=>⟨hm.rd_row (hM _ (List.mem_cons_of_mem _ (List.mem_cons_self ..))) hcr,hm.rd_row (hM _ (List.mem_cons_self ..)) hrr,hin'.now hm fun z hz=>hM z (by simp only[List.mem_cons,List.mem_append]at hz ⊢;(first|(rcases hz with hz|hz<;>simp[hz])|simp[hz])),hfo.now hm fun z hz=>hM z (by simp only[List.mem_cons,List.mem_append]at hz ⊢;(first|(rcases hz with hz|hz<;>simp[hz])|simp[hz])),⟨(fun h=>by cases h),(fun y hy=>by cases hy)⟩⟩,⟨⟨Row.le hcr,hckf.2⟩,⟨Row.le hrr,hrnf.2⟩,InL.of_val hiv hqe hqo,hfv,⟨Nat.zero_le _,(fun i x h=>by cases h)⟩⟩,rfl,(sb_ hs),?_⟩);(rw[hvs]);(first|exact hm.sub (List.Sublist.cons_cons _ (List.Sublist.cons_cons _ (List.Sublist.cons_cons _ (List.Sublist.cons _ (List.Sublist.refl _)))))|exact(hm.sub (List.Sublist.cons_cons _ (List.Sublist.cons_cons _ (List.Sublist.cons_cons _ (List.Sublist.cons _ (List.Sublist.refl _)))))).perm (List.Perm.swap _ _ _)|exact(hm.sub (List.Sublist.cons_cons _ (List.Sublist.cons_cons _ (List.Sublist.cons_cons _ (List.Sublist.cons _ (List.Sublist.refl _)))))).perm (List.perm_middle (l₁:=[_,_])).symm))|fail)
 clear hs hm a
 rintro a w ⟨y,R,g12,h1,h2,ho,hv,hfe,hs,hm⟩
 have kv:=fun w'' (hf:y.ok w'')=>oval_c y w'' hf hv
 unfold OV.v at kv
 unfold OV.vs at hm
 refine gsc5af_ ?_;clear hs hm a;intros;rename_i a hm hs
 refine st hs rfl rfl rfl (d_call hs rfl rfl rfl (pl 83 rfl) ((kv _ (ho.now hm (fun z hz=>by simp only[List.mem_cons]at hz ⊢;rcases hz with rfl|rfl|hz<;>simp[*]))))) ?_;clear hs a;rintro _ w1 ⟨rfl,hf⟩ a hs
 replace hm:=hm.pu hf
 clear hf
 refine gsc5af_ ?_;clear hs hm a;intros;rename_i a hm hs
 exact gRetN tab hs rfl (.cons (.cells rfl rfl rfl rfl (hm.ro (k:=0) (n:=6) (g:=g8) mem_ (cutF_ok rfl))) (.cons (.tmp rfl) .nil)) ⟨y,h1::h2::R,rfl,ho,hm.new (List.Sublist.cons _ (List.Sublist.cons_cons _ (List.Sublist.cons_cons _ (List.Sublist.cons _ (List.Sublist.refl _))))),hv,by rw[hfe];exact hfd,hm.fr⟩
theorem gpShe0_{G H:Prop}(k:H)(s:Bx H→G:=by intro k_;(repeat(first|(refine ov79a8_ ?_;(try clear hs a);intro a hs)|((with_reducible apply lCons);first|(refine dv hs gw_ rfl rfl da_ ?_;(try clear hs hm a);rintro _ w_ ⟨g_,rfl,-,hm⟩ a hs)|(refine stn hs rfl rfl ds_ ?_;(try clear hs hm a);rintro-w_ hm a hs))|refine sc_ ?_));have m_:=hm;have s_:=hs;clear hs;(try clear hm);revert m_ s_ a;(try revert w_);(repeat revert g_);exact k_.h):G:=s ⟨k⟩
theorem gpShe1_{G H:Prop}(k:H)(s:Bx H→G:=by intro k_;(repeat(first|(refine oqa85c_ ?_;(try clear hs a);intro a hs)|((with_reducible apply lCons);first|(refine dv hs gw_ rfl rfl da_ ?_;(try clear hs hm a);rintro _ w_ ⟨g_,rfl,-,hm⟩ a hs)|(refine stn hs rfl rfl ds_ ?_;(try clear hs hm a);rintro-w_ hm a hs))|((with_reducible apply qNil);(try clear hm);intro w_ hm)|refine cQ_ ?_|refine sc_ ?_));have m_:=hm;have s_:=hs;clear hs;(try clear hm);revert m_ s_ a;(try revert w_);(repeat revert g_);exact k_.h):G:=s ⟨k⟩
def actsF(c:Int):Prop:=(1≤c∧c≤7)∨c=13∨c=14
theorem acts_c(c:Int)(wB:World)(h:actsF c):Ret Tryz.prog 130 [.int .i64 c] wB (fun u w'=>u= .bool true∧Pu wB w'):=by
 rcases h with h|rfl|rfl
 ·obtain⟨h1,h2⟩:=h
  refine enterR Tryz.func130 rfl rfl rfl fun a hs hm=>?_
  refine gs87a7_ ?_;clear hs hm a;intros;rename_i a hm hs
  exact gRet1 hs rfl rfl ⟨rfl,hm.fr⟩
 ·refine enterR Tryz.func130 rfl rfl rfl fun a hs hm=>?_
  refine gs87a7_ ?_;clear hs hm a;intros;rename_i a hm hs
  exact gRet1 hs rfl rfl ⟨rfl,hm.fr⟩
 ·refine enterR Tryz.func130 rfl rfl rfl fun a hs hm=>?_
  refine gs87a7_ ?_;clear hs hm a;intros;rename_i a hm hs
  exact gRet1 hs rfl rfl ⟨rfl,hm.fr⟩
theorem rkin_c [HB](x:RqV)(wB:World)(hx:x.ok wB)(h:x.kin):Ret Tryz.prog 131 [x.v] wB (fun u w'=>u= .bool true∧Pu wB w'):=by
 have hn:=h.n
 have kk:=fun w''=>knd_c x.call w''
 have hro:Rd wB wB.heap.size x.a.A (cns x.a.xs):=hx.a
 have hl3:=kndF_len x.call
 unfold RqV.v
 refine enterR Tryz.func131 rfl rfl rfl fun a hs hm=>?_
 have hsz:((({data:=(kndF x.call).toArray}:ByteArray).size:Nat):Int)=(x.a.xs.length:Int):=by
  show(((kndF x.call).toArray.size:Nat):Int)=_
  rw[List.size_toArray,hn]
 repeat(first|(refine gpShe0_ ?_;clear hs hm a;intros;rename_i a hm hs)|refine sc_ ?_|((with_reducible apply lCons);first|(refine dvc hs hm gw_ rfl rfl rfl rfl rfl (pl 118 rfl) (kk _) ?_;clear hs hm a;intro w hm a hs)))
 obtain⟨g1,rfl⟩:=hs.pp 1
 refine cLoop (X:=Nat) (fun k a w'=>k≤x.a.xs.length∧Sl Tryz.f131.ntmps [(1,pt g1),(3,txv (kndF x.call)),(16,.slice x.a.A x.a.xs.length x.a.c),(17,.int .i64 (x.a.xs.length:Int)),(18,.int .i64 (k:Int))] a∧Mm (fun _=>False) wB [] w') (fun k=>x.a.xs.length-k) 0 ⟨Nat.zero_le _,(sb_ hs),hm.sub (List.nil_sublist _)⟩ ?_
 clear hs hm a
 rintro k a w' ⟨hk,hs,hm⟩
 by_cases hlt:k<x.a.xs.length
 ·obtain⟨b1,o1,hA,hb1,r1⟩:=hro.ro (by rw[cns_len];omega)
  have r2:=r1.flat CN.cs_len hlt
  have hf:=h.k k hlt (by omega)
  have hkx:(kndF x.call)[k]?=some ((kndF x.call)[k]'(by omega)):=List.getElem?_eq_getElem _
  generalize x.a.xs[k]=q at r2 hf
  generalize(kndF x.call)[k]'(by omega)=e at hf hkx
  have kf:=fun w''=>fit_c e q.t w''
  rw[hf]at kf
  unfold CN.cs at r2
  rw[hA]at hs
  repeat(first|(refine gpShe1_ ?_;clear hs hm a;intros;rename_i a hm hs)|refine sc_ ?_|((with_reducible apply lCons);first|(refine dvc hs hm gw_ rfl rfl rfl rfl rfl (pl 119 rfl) (kf _) ?_;clear hs hm a;intro w hm a hs))|((with_reducible apply qCons);first|(refine qwc hs gw_ rfl rfl rfl rfl rfl (pl 119 rfl) (fun w hm=>kf _) ?_;clear hs a;intro a hs)))
  rw[←hA]at hs
  exact⟨k+1,by omega,by omega,(sb_ hs),hm.sub (List.nil_sublist _)⟩
 ·obtain rfl:k=x.a.xs.length:=by omega
  refine gs9a29_ ?_;clear hs hm a;intros;rename_i a hm hs
  exact gRet1 hs rfl rfl ⟨rfl,hm.fr⟩
theorem gcShj0_{G H:Prop}(k:H)(s:Bx H→G:=by intro k_;(repeat(first|(refine ove28a_ ?_;(try clear hs a);intro a hs)|((with_reducible apply lCons);first|(refine dv hs gw_ rfl rfl da_ ?_;(try clear hs hm a);rintro _ w_ ⟨g_,rfl,-,hm⟩ a hs)|(refine stn hs rfl rfl ds_ ?_;(try clear hs hm a);rintro-w_ hm a hs))|refine sc_ ?_|((with_reducible apply lCons);first|(refine dvc hs hm gw_ rfl rfl rfl rfl rfl (pl 83 rfl) (kv _ hm.fr) ?_;(try clear hs hm a);intro w_ hm a hs)|(refine dvc hs hm gw_ rfl rfl rfl rfl rfl (pl 126 rfl) (kq _ hm.fr) ?_;(try clear hs hm a);intro w_ hm a hs)|(refine dvc hs hm gw_ rfl rfl rfl rfl rfl (pl 130 rfl) (ka _) ?_;(try clear hs hm a);intro w_ hm a hs)|(refine dvc hs hm gw_ rfl rfl rfl rfl rfl (pl 131 rfl) (kk _ hm.fr) ?_;(try clear hs hm a);intro w_ hm a hs)|(refine dvc hs hm gw_ rfl rfl rfl rfl rfl (pl 111 rfl) (kb _) ?_;(try clear hs hm a);intro w_ hm a hs))));(first|(have m_:=hm;have s_:=hs;clear hs;(try clear hm);revert m_ s_ a)|((first|refine rexc_ hs hm ?_|refine rexl_ hs hm ?_|refine rexg_ hs hm ?_|refine rexq_ hs hm ?_);intro a hm hs;revert hm hs a));(try revert w_);(repeat revert g_);exact k_.h):G:=s ⟨k⟩
theorem gcShj1_{G H:Prop}(k:H)(s:Bx H→G:=by intro k_;(repeat(first|(refine ove28a_ ?_;(try clear hs a);intro a hs)|((with_reducible apply lCons);first|(refine dv hs gw_ rfl rfl da_ ?_;(try clear hs hm a);rintro _ w_ ⟨g_,rfl,-,hm⟩ a hs)|(refine stn hs rfl rfl ds_ ?_;(try clear hs hm a);rintro-w_ hm a hs))|refine sc_ ?_|((with_reducible apply lCons);first|(refine dvc hs hm gw_ rfl rfl rfl rfl rfl (pl 123 rfl) (kvl _ _ _) ?_;(try clear hs hm a);intro w_ hm a hs))));(first|(have m_:=hm;have s_:=hs;clear hs;(try clear hm);revert m_ s_ a)|((first|refine rexc_ hs hm ?_|refine rexl_ hs hm ?_|refine rexg_ hs hm ?_|refine rexq_ hs hm ?_);intro a hm hs;revert hm hs a));(try revert w_);(repeat revert g_);exact k_.h):G:=s ⟨k⟩
structure DoX where
 k:Nat
 l:List Int
theorem On.set_f{y:OV}{f:FV}{R R':List Hp}(h:On R y.ok)(h':On R' f.ok):On (R++R') (OV.ok {y with f:=f}):=fun S w0 w M hm hM=>by
 have h1:=h.now hm fun z hz=>hM z (List.mem_append_left _ hz)
 exact⟨h1.ck,h1.rn,h1.ins,h'.now hm fun z hz=>hM z (List.mem_append_right _ hz),h1.us⟩
theorem On.set_us{y:OV}{u:OuL}{R R':List Hp}(h:On R y.ok)(h':On R' u.ok):On (R++R') (OV.ok {y with us:=u}):=fun S w0 w M hm hM=>by
 have h1:=h.now hm fun z hz=>hM z (List.mem_append_left _ hz)
 exact⟨h1.ck,h1.rn,h1.ins,h1.f,h'.now hm fun z hz=>hM z (List.mem_append_right _ hz)⟩
theorem On.set_ins{y:OV}{u:InL}{R R':List Hp}(h:On R y.ok)(h':On R' u.ok):On (R++R') (OV.ok {y with ins:=u}):=fun S w0 w M hm hM=>by
 have h1:=h.now hm fun z hz=>hM z (List.mem_append_left _ hz)
 exact⟨h1.ck,h1.rn,h'.now hm fun z hz=>hM z (List.mem_append_right _ hz),h1.f,h1.us⟩
theorem OV.val.set_f{y:OV}{f:FV}(h:y.val)(hf:f.d'.val):OV.val {y with f:=f}:=⟨h.ck,h.rn,h.ins,hf,h.us⟩
theorem OV.val.set_us{y:OV}{u:OuL}(h:y.val)(hf:OuS u.l):OV.val {y with us:=u}:=⟨h.ck,h.rn,h.ins,h.f,hf⟩
theorem OV.val.set_ins{y:OV}{u:InL}(h:y.val)(hf:u.val):OV.val {y with ins:=u}:=⟨h.ck,h.rn,hf,h.f,h.us⟩
theorem valR_on(n:Int)(ok:Bool)(R:List Hp):On R (valR n ok).ok:=fun _ _ _ _ _ _=>valR_ok n ok _
theorem three{l:List Int}(h:l.length=3):∃a b c,l=[a,b,c]:=by
 match l,h with
 |[a,b,c],_=>exact⟨a,b,c,rfl⟩
theorem do_g0 [HB](x:OV)(r:RqV)(wB:World)(hx:x.ok wB)(h:x.val)(hr:r.ok wB)(hrv:r.val)(hrk:r.kin)(hst:r.stop=1)(ha:r.call=3∨r.call=4∨r.call=5∨r.call=6∨r.call=7):Ret Tryz.prog 125 [x.v,r.v] wB (fun u w'=>∃(y:OV)(z:RsV)(R:List Hp),u= .tuple #[y.v,z.v,.int .i64 0]∧On R y.ok∧On R z.ok∧New wB w' R∧y.val∧z.fit∧z.spawn=-1∧z.wait=false∧Pu wB w'):=by
 have kv:=fun w'' (hf:Pu wB w'')=>oval_c x w'' (hx.pu hf) h
 have kq:=fun w'' (hf:Pu wB w'')=>rqval_c r w'' (hr.pu hf) hrv
 have kk:=fun w'' (hf:Pu wB w'')=>rkin_c r w'' (hr.pu hf) hrk
 have kc:=fun w'' (hf:Pu wB w'')=>ocpy_c x w'' (hx.pu hf) h
 obtain⟨th,stop,trap,cnt,pc,call,ra,rd⟩:=r
 dsimp only at hst ha
 subst hst
 have ka:=fun w''=>acts_c call w'' (by unfold actsF;omega)
 have kb:=fun w''=>buf_c call w'' (by omega)
 have hbf:bufF call=0:=by rcases ha with rfl|rfl|rfl|rfl|rfl<;>rfl
 rw[hbf]at kb
 have kvl:∀(n:Int)(b:Bool)(w'':World),Ret Tryz.prog 123 [.int .i64 n,.bool b] w'' (fun u w'=>u= .agg #[.int .u8 0,.int .u16 (IntKind.u16.wrap (failF n b)),.int .i64 0,.int .i64 0,.slice none 0 0,.int .i64 (-1),.bool false]∧Pu w'' w'):=fun n b w''=>vlu_c n b w''
 have hra:Rd wB wB.heap.size ra.A (cns ra.xs):=hr.a
 have hrdo:rd.ok wB:=hr.d
 have hrdn:rd.xs.length≤16:=hrv.d
 have hrdv:∀c∈rd.xs,c.val:=hrv.dv
 have hav:∀c∈ra.xs,c.val:=hrv.av
 have hal:ra.xs.length≤3:=hrv.a
 unfold RqV.v at kq kk ⊢
 unfold OV.v at kv kc ⊢
 dsimp only at kq kk ⊢
 refine enterR Tryz.func125 rfl rfl rfl fun a hs hm=>?_
 refine gcShj0_ ?_;clear hs hm a;intros;rename_i a hm hs
 obtain⟨g2,rfl⟩:=hs.pp 2
 obtain⟨g3,rfl⟩:=hs.pp 3
 obtain⟨g4,rfl⟩:=hs.pp 4
 obtain⟨g5,rfl⟩:=hs.pp 5
 refine st hs rfl rfl rfl (d_call hs rfl rfl rfl (pl 85 rfl) ((kc _ hm.fr))) ?_;clear hs a;rintro _ w1 ⟨y,R,rfl,hyo,hN,hyv,hyc,hyr,hf⟩ a hs
 replace hm:=gainE hm hf hN
 clear hN hf kc kv kq kk
 simp only[List.cons_append,List.nil_append]at hm
 refine gsab4d_ ?_;clear hs hm a;intros;rename_i a hm hs
 obtain⟨g7,rfl⟩:=hs.pp 7
 obtain⟨ga,rfl⟩:=hs.qq 8
 refine cMidE (.exit 0) (fun a w=>∃a0 a1 a2:Int,(∀(i:Nat) c,ra.xs[i]?=some c→[a0,a1,a2][i]?=some c.v)∧(∀v∈ [a0,a1,a2],0≤v∧v≤65535)∧Sl Tryz.f125.ntmps [(2,.pointer (some ⟨g2,0,none⟩)),(3,.pointer (some ⟨g3,0,none⟩)),(4,.pointer (some ⟨g4,0,none⟩)),(5,.pointer (some ⟨g5,0,none⟩)),(7,.pointer (some ⟨g7,0,none⟩)),(8,.slice (some ⟨ga,0,none⟩) 3 3)] a∧Mm (fun _=>False) wB (⟨some ga,3,[.int .i64 a0,.int .i64 a1,.int .i64 a2]⟩::⟨some g7,81,[.slice y.ck.A y.ck.xs.length y.ck.c,.slice y.rn.A y.rn.xs.length y.rn.c,.slice y.ins.A y.ins.qs.length y.ins.c,.slice y.f.dA y.f.ds.length y.f.dc,.slice y.f.oA y.f.os.length y.f.oc,.slice y.us.A y.us.us.length y.us.c]⟩::⟨some g5,175,[.int .u8 0,.int .u16 0,.int .i64 0,.int .i64 0,.slice none 0 0,.int .i64 0,.bool false]⟩::⟨some g4,81,[.slice none 0 0,.slice none 0 0,.slice none 0 0,.slice none 0 0,.slice none 0 0,.slice none 0 0]⟩::⟨some g3,173,[.int .i64 th,.int .i64 1,.int .i64 trap,.int .i64 cnt,.int .i64 pc,.int .i64 call,.slice ra.A ra.xs.length ra.c,.slice rd.A rd.xs.length rd.c]⟩::⟨some g2,81,[.slice x.ck.A x.ck.xs.length x.ck.c,.slice x.rn.A x.rn.xs.length x.rn.c,.slice x.ins.A x.ins.qs.length x.ins.c,.slice x.f.dA x.f.ds.length x.f.dc,.slice x.f.oA x.f.os.length x.f.oc,.slice x.us.A x.us.us.length x.us.c]⟩::R) w) ?_ ?_
 ·refine cLoop (X:=DoX) (fun X a w=>X.k≤ra.xs.length∧X.l.length=3∧(∀(i:Nat) c,i<X.k→ra.xs[i]?=some c→X.l[i]?=some c.v)∧(∀v∈X.l,0≤v∧v≤65535)∧Sl Tryz.f125.ntmps [(2,.pointer (some ⟨g2,0,none⟩)),(3,.pointer (some ⟨g3,0,none⟩)),(4,.pointer (some ⟨g4,0,none⟩)),(5,.pointer (some ⟨g5,0,none⟩)),(7,.pointer (some ⟨g7,0,none⟩)),(8,.slice (some ⟨ga,0,none⟩) 3 3),(74,.slice ra.A ra.xs.length ra.c),(75,.int .i64 (ra.xs.length:Int)),(76,.int .i64 (X.k:Int))] a∧Mm (fun _=>False) wB (⟨some ga,3,ints X.l⟩::⟨some g7,81,[.slice y.ck.A y.ck.xs.length y.ck.c,.slice y.rn.A y.rn.xs.length y.rn.c,.slice y.ins.A y.ins.qs.length y.ins.c,.slice y.f.dA y.f.ds.length y.f.dc,.slice y.f.oA y.f.os.length y.f.oc,.slice y.us.A y.us.us.length y.us.c]⟩::⟨some g5,175,[.int .u8 0,.int .u16 0,.int .i64 0,.int .i64 0,.slice none 0 0,.int .i64 0,.bool false]⟩::⟨some g4,81,[.slice none 0 0,.slice none 0 0,.slice none 0 0,.slice none 0 0,.slice none 0 0,.slice none 0 0]⟩::⟨some g3,173,[.int .i64 th,.int .i64 1,.int .i64 trap,.int .i64 cnt,.int .i64 pc,.int .i64 call,.slice ra.A ra.xs.length ra.c,.slice rd.A rd.xs.length rd.c]⟩::⟨some g2,81,[.slice x.ck.A x.ck.xs.length x.ck.c,.slice x.rn.A x.rn.xs.length x.rn.c,.slice x.ins.A x.ins.qs.length x.ins.c,.slice x.f.dA x.f.ds.length x.f.dc,.slice x.f.oA x.f.os.length x.f.oc,.slice x.us.A x.us.us.length x.us.c]⟩::R) w) (fun X=>ra.xs.length-X.k) ⟨0,[0,0,0]⟩ ⟨Nat.zero_le _,rfl,(fun i c hi=>absurd hi (Nat.not_lt_zero _)),(fun v hv=>by simp at hv;omega),(sb_ hs),hm⟩ ?_
  clear hs hm a
  rintro⟨k,l⟩ a w ⟨hk,hl3,hl,hlv,hs,hm⟩
  dsimp only at hk hl3 hl hlv hs hm
  by_cases hlt:k<ra.xs.length
  ·obtain⟨b4,o4,hA4,hb4,r4⟩:=hra.ro (by rw[cns_len];omega)
   have r3:=r4.flat CN.cs_len hlt
   have hcv:=hav _ (List.getElem_mem hlt)
   have hcx:ra.xs[k]?=some ra.xs[k]:=List.getElem?_eq_getElem hlt
   generalize ra.xs[k]=q at r3 hcv hcx
   unfold CN.cs at r3
   have hw:IntKind.i64.wrap q.v=q.v:=wrap_idP (by have:=hcv.v;omega)
   have hll:(ints l).length=3:=by rw[ints_len,hl3]
   rw[hA4]at hs hm
   refine gsab4d_ ?_;clear hs hm a;intros;rename_i a hm hs
   rw[hw]at hm
   rw[←hA4]at hs hm
   refine⟨⟨k+1,l.set k q.v⟩,by dsimp only;omega,by dsimp only;omega,by dsimp only;rw[List.length_set];exact hl3,fun i c hi hc=>?_,fun v hv=>?_,(sb_ hs),?_⟩
   ·dsimp only at hi ⊢
    by_cases hik:i=k
    ·subst hik
     rw[hcx]at hc
     obtain rfl:=Option.some.inj hc
     exact List.getElem?_set_self (by omega)
    ·rw[List.getElem?_set_ne (fun e=>hik e.symm)]
     exact hl i c (by omega) hc
   ·dsimp only at hv
    rcases List.mem_or_eq_of_mem_set hv with hv|rfl
    ·exact hlv v hv
    ·exact hcv.v
   ·dsimp only
    rw[show ints (l.set k q.v)=(ints l).set k (.int .i64 q.v)from List.map_set]
    exact hm.sub sub_
  ·obtain rfl:k=ra.xs.length:=by omega
   obtain⟨a0,a1,a2,rfl⟩:=three hl3
   refine gsab4d_ ?_;clear hs hm a;intros;rename_i a hm hs
   exact And.intro rfl ⟨a0,a1,a2,fun i c hc=>hl i c (List.getElem?_eq_some_iff.1 hc).1 hc,hlv,(sb_ hs),hm⟩
 clear hs hm a
 rintro a w ⟨a0,a1,a2,hargs,hargv,hs,hm⟩
 have hb0:=hargv a0 (by simp)
 have hb1':=hargv a1 (by simp)
 have hb2':=hargv a2 (by simp)
 refine gcShj1_ ?_;clear hs hm a;intros;rename_i a hm hs
 obtain⟨g11,rfl⟩:=hs.pp 11
 replace hm:=hm.sub (M':=⟨some g11,175,[.int .u8 0,.int .u16 (IntKind.u16.wrap (failF 0 false)),.int .i64 0,.int .i64 0,.slice none 0 0,.int .i64 (-1),.bool false]⟩::⟨some ga,3,[.int .i64 a0,.int .i64 a1,.int .i64 a2]⟩::⟨some g7,81,[.slice y.ck.A y.ck.xs.length y.ck.c,.slice y.rn.A y.rn.xs.length y.rn.c,.slice y.ins.A y.ins.qs.length y.ins.c,.slice y.f.dA y.f.ds.length y.f.dc,.slice y.f.oA y.f.os.length y.f.oc,.slice y.us.A y.us.us.length y.us.c]⟩::⟨some g5,175,[.int .u8 0,.int .u16 0,.int .i64 0,.int .i64 0,.slice none 0 0,.int .i64 0,.bool false]⟩::⟨some g4,81,[.slice none 0 0,.slice none 0 0,.slice none 0 0,.slice none 0 0,.slice none 0 0,.slice none 0 0]⟩::⟨some g3,173,[.int .i64 th,.int .i64 1,.int .i64 trap,.int .i64 cnt,.int .i64 pc,.int .i64 call,.slice ra.A ra.xs.length ra.c,.slice rd.A rd.xs.length rd.c]⟩::⟨some g2,81,[.slice x.ck.A x.ck.xs.length x.ck.c,.slice x.rn.A x.rn.xs.length x.rn.c,.slice x.ins.A x.ins.qs.length x.ins.c,.slice x.f.dA x.f.ds.length x.f.dc,.slice x.f.oA x.f.os.length x.f.oc,.slice x.us.A x.us.us.length x.us.c]⟩::R) sub_
 rcases ha with rfl|rfl|rfl|rfl|rfl
 ·refine gsab4d_ ?_;clear hs hm a;intros;rename_i a hm hs
  have kf:=fun w'' (hf:Pu wB w'')=>opn_c x.f a0 a1 w'' (hx.pu hf).f h.f
  unfold FV.v at kf
  refine cMid (fun a w=>∃(f:FV)(R':List Hp)(gf:Nat)(hd:Int),On R' f.ok∧f.d'.val∧-1≤hd∧hd≤7∧Sl Tryz.f125.ntmps [(2,.pointer (some ⟨g2,0,none⟩)),(3,.pointer (some ⟨g3,0,none⟩)),(4,.pointer (some ⟨g4,0,none⟩)),(5,.pointer (some ⟨g5,0,none⟩)),(7,.pointer (some ⟨g7,0,none⟩)),(8,.slice (some ⟨ga,0,none⟩) 3 3),(11,.pointer (some ⟨g11,0,none⟩)),(18,.pointer (some ⟨gf,0,none⟩)),(19,.int .i64 hd)] a∧Mm (fun _=>False) wB (⟨some gf,78,[.slice f.dA f.ds.length f.dc,.slice f.oA f.os.length f.oc]⟩::⟨some g11,175,[.int .u8 0,.int .u16 (IntKind.u16.wrap (failF 0 false)),.int .i64 0,.int .i64 0,.slice none 0 0,.int .i64 (-1),.bool false]⟩::⟨some ga,3,[.int .i64 a0,.int .i64 a1,.int .i64 a2]⟩::⟨some g7,81,[.slice y.ck.A y.ck.xs.length y.ck.c,.slice y.rn.A y.rn.xs.length y.rn.c,.slice y.ins.A y.ins.qs.length y.ins.c,.slice y.f.dA y.f.ds.length y.f.dc,.slice y.f.oA y.f.os.length y.f.oc,.slice y.us.A y.us.us.length y.us.c]⟩::⟨some g5,175,[.int .u8 0,.int .u16 0,.int .i64 0,.int .i64 0,.slice none 0 0,.int .i64 0,.bool false]⟩::⟨some g4,81,[.slice none 0 0,.slice none 0 0,.slice none 0 0,.slice none 0 0,.slice none 0 0,.slice none 0 0]⟩::⟨some g3,173,[.int .i64 th,.int .i64 1,.int .i64 trap,.int .i64 cnt,.int .i64 pc,.int .i64 3,.slice ra.A ra.xs.length ra.c,.slice rd.A rd.xs.length rd.c]⟩::⟨some g2,81,[.slice x.ck.A x.ck.xs.length x.ck.c,.slice x.rn.A x.rn.xs.length x.rn.c,.slice x.ins.A x.ins.qs.length x.ins.c,.slice x.f.dA x.f.ds.length x.f.dc,.slice x.f.oA x.f.os.length x.f.oc,.slice x.us.A x.us.us.length x.us.c]⟩::(R++R')) w) ?_ ?_
  ·with_reducible repeat(first|apply gThen|apply wp_seq)
   refine cDrawT (n:=15) (.s [0,1,2,3,4,5,6,7]<| .e [(8,.x<| .s [9,10,11]<| .o 12<| .o 13<| .t 14<| .d),(12,.o 8<| .x<| .s [9,10,11]<| .o 13<| .t 14<| .d)]) [⟨some ga,3,[.int .i64 a0,.int .i64 a1,.int .i64 a2]⟩,⟨some g3,173,[.int .i64 th,.int .i64 1,.int .i64 trap,.int .i64 cnt,.int .i64 pc,.int .i64 3,.slice ra.A ra.xs.length ra.c,.slice rd.A rd.xs.length rd.c]⟩,⟨some g2,81,[.slice x.ck.A x.ck.xs.length x.ck.c,.slice x.rn.A x.rn.xs.length x.rn.c,.slice x.ins.A x.ins.qs.length x.ins.c,.slice x.f.dA x.f.ds.length x.f.dc,.slice x.f.oA x.f.os.length x.f.oc,.slice x.us.A x.us.us.length x.us.c]⟩] hm rfl rfl ?_
   clear hm;intro t_ w1_ hm
   repeat' (first|(refine dg7dd6_ ?_;clear t_ hs hm a;intros;rename_i a hm hs t_)|refine tE t_ ?_|refine tC ?_ ?_|exact tN|intro t_|(refine oDo (i:=8) hs rfl (Wnt.none rfl) rfl rfl (by exact d_call hs rfl rfl rfl (pl 134 rfl) ((kf _ hm.fr))) ?_;clear hs;rintro _ w1 ⟨f,hd,R',rfl,hd1,hd2,hfo,hN,hfv,hf⟩ a hs;(replace hm:=gainE hm hf hN);(clear hf hN);(try simp only[List.cons_append,List.nil_append,List.append_assoc]at hm);replace t_:=tX t_;refine⟨(hm.sub sub_),?_⟩)|(refine tD t_ ?_;(obtain⟨gf,rfl⟩:=hs.pp 18);(exact And.intro rfl ⟨f,R',gf,hd,hfo,hfv,hd1,hd2,(sb_ hs),hm⟩))|fail)
  clear hs hm a
  rintro a w ⟨f,R',gf,hd,hfo,hfv,hd1,hd2,hs,hm⟩
  by_cases hh:0≤hd
  ·refine gsab4d_ ?_;clear hs hm a;intros;rename_i a hm hs
   refine cDrawT (n:=5) (.s [0,1]<| .o 2<| .o 3<| .t 4<| .d) [⟨some g11,175,[.int .u8 2,.int .u16 (IntKind.u16.wrap hd),.int .i64 0,.int .i64 0,.slice none 0 0,.int .i64 (-1),.bool false]⟩,⟨some g7,81,[.slice y.ck.A y.ck.xs.length y.ck.c,.slice y.rn.A y.rn.xs.length y.rn.c,.slice y.ins.A y.ins.qs.length y.ins.c,.slice f.dA f.ds.length f.dc,.slice f.oA f.os.length f.oc,.slice y.us.A y.us.us.length y.us.c]⟩] hm rfl rfl ?_
   clear hm;intro t_ w1_ hm
   repeat' (first|(refine dg7dd6_ ?_;clear t_ hs hm a;intros;rename_i a hm hs t_)|refine tE t_ ?_|refine tC ?_ ?_|exact tN|intro t_|(refine tD t_ ?_;(refine gsab4d_ ?_;clear hs hm a;intros;rename_i a hm hs);(exact gRetN tab hs rfl (.cons (.cells rfl rfl rfl rfl (hm.ro (k:=0) (n:=6) (g:=g4) mem_ (cutF_ok rfl))) (.cons (.cells rfl rfl rfl rfl (hm.ro (k:=0) (n:=7) (g:=g5) mem_ (cutF_ok rfl))) (.cons (.tmp rfl) .nil))) ⟨{y with f:=f},⟨⟨2,IntKind.u16.wrap hd,0,0⟩,⟨none,0,[]⟩,-1,false⟩,R++R',rfl,hyo.set_f hfo,(fun _ _ _ _ _ _=>nilC_ok 0 _),hm.new sub_,hyv.set_f hfv,⟨⟨.inr (.inl rfl),u16_bd _,(fun _=>⟨rfl,rfl⟩),(fun e=>by cases e)⟩,Nat.zero_le _,(fun c hc=>by cases hc),by dsimp only;omega⟩,rfl,rfl,hm.fr⟩))|fail)
  ·refine gsab4d_ ?_;clear hs hm a;intros;rename_i a hm hs
   refine cDrawT (n:=5) (.s [0,1]<| .o 2<| .o 3<| .t 4<| .d) [⟨some g11,175,[.int .u8 0,.int .u16 (IntKind.u16.wrap (failF 0 false)),.int .i64 0,.int .i64 0,.slice none 0 0,.int .i64 (-1),.bool false]⟩,⟨some g7,81,[.slice y.ck.A y.ck.xs.length y.ck.c,.slice y.rn.A y.rn.xs.length y.rn.c,.slice y.ins.A y.ins.qs.length y.ins.c,.slice f.dA f.ds.length f.dc,.slice f.oA f.os.length f.oc,.slice y.us.A y.us.us.length y.us.c]⟩] hm rfl rfl ?_
   clear hm;intro t_ w1_ hm
   repeat' (first|(refine dg7dd6_ ?_;clear t_ hs hm a;intros;rename_i a hm hs t_)|refine tE t_ ?_|refine tC ?_ ?_|exact tN|intro t_|(refine tD t_ ?_;(refine gsab4d_ ?_;clear hs hm a;intros;rename_i a hm hs);(exact gRetN tab hs rfl (.cons (.cells rfl rfl rfl rfl (hm.ro (k:=0) (n:=6) (g:=g4) mem_ (cutF_ok rfl))) (.cons (.cells rfl rfl rfl rfl (hm.ro (k:=0) (n:=7) (g:=g5) mem_ (cutF_ok rfl))) (.cons (.tmp rfl) .nil))) ⟨{y with f:=f},valR 0 false,R++R',rfl,hyo.set_f hfo,valR_on 0 false _,hm.new sub_,hyv.set_f hfv,valR_fit 0 false,rfl,rfl,hm.fr⟩))|fail)
 ·refine gsab4d_ ?_;clear hs hm a;intros;rename_i a hm hs
  have kf:=fun w'' (hf:Pu wB w'')=>clos_c x.f a0 w'' (hx.pu hf).f h.f
  unfold FV.v at kf
  refine cMid (fun a w=>∃(f:FV)(R':List Hp)(gf:Nat)(b:Bool),On R' f.ok∧f.d'.val∧Sl Tryz.f125.ntmps [(2,.pointer (some ⟨g2,0,none⟩)),(3,.pointer (some ⟨g3,0,none⟩)),(4,.pointer (some ⟨g4,0,none⟩)),(5,.pointer (some ⟨g5,0,none⟩)),(7,.pointer (some ⟨g7,0,none⟩)),(8,.slice (some ⟨ga,0,none⟩) 3 3),(11,.pointer (some ⟨g11,0,none⟩)),(20,.pointer (some ⟨gf,0,none⟩)),(21,.bool b)] a∧Mm (fun _=>False) wB (⟨some gf,78,[.slice f.dA f.ds.length f.dc,.slice f.oA f.os.length f.oc]⟩::⟨some g11,175,[.int .u8 0,.int .u16 (IntKind.u16.wrap (failF 0 false)),.int .i64 0,.int .i64 0,.slice none 0 0,.int .i64 (-1),.bool false]⟩::⟨some ga,3,[.int .i64 a0,.int .i64 a1,.int .i64 a2]⟩::⟨some g7,81,[.slice y.ck.A y.ck.xs.length y.ck.c,.slice y.rn.A y.rn.xs.length y.rn.c,.slice y.ins.A y.ins.qs.length y.ins.c,.slice y.f.dA y.f.ds.length y.f.dc,.slice y.f.oA y.f.os.length y.f.oc,.slice y.us.A y.us.us.length y.us.c]⟩::⟨some g5,175,[.int .u8 0,.int .u16 0,.int .i64 0,.int .i64 0,.slice none 0 0,.int .i64 0,.bool false]⟩::⟨some g4,81,[.slice none 0 0,.slice none 0 0,.slice none 0 0,.slice none 0 0,.slice none 0 0,.slice none 0 0]⟩::⟨some g3,173,[.int .i64 th,.int .i64 1,.int .i64 trap,.int .i64 cnt,.int .i64 pc,.int .i64 4,.slice ra.A ra.xs.length ra.c,.slice rd.A rd.xs.length rd.c]⟩::⟨some g2,81,[.slice x.ck.A x.ck.xs.length x.ck.c,.slice x.rn.A x.rn.xs.length x.rn.c,.slice x.ins.A x.ins.qs.length x.ins.c,.slice x.f.dA x.f.ds.length x.f.dc,.slice x.f.oA x.f.os.length x.f.oc,.slice x.us.A x.us.us.length x.us.c]⟩::(R++R')) w) ?_ ?_
  ·with_reducible repeat(first|apply gThen|apply wp_seq)
   refine cDrawT (n:=12) (.s [0,1,2,3,4]<| .e [(5,.x<| .s [6,7,8]<| .o 9<| .o 10<| .t 11<| .d),(9,.o 5<| .x<| .s [6,7,8]<| .o 10<| .t 11<| .d)]) [⟨some ga,3,[.int .i64 a0,.int .i64 a1,.int .i64 a2]⟩,⟨some g3,173,[.int .i64 th,.int .i64 1,.int .i64 trap,.int .i64 cnt,.int .i64 pc,.int .i64 4,.slice ra.A ra.xs.length ra.c,.slice rd.A rd.xs.length rd.c]⟩,⟨some g2,81,[.slice x.ck.A x.ck.xs.length x.ck.c,.slice x.rn.A x.rn.xs.length x.rn.c,.slice x.ins.A x.ins.qs.length x.ins.c,.slice x.f.dA x.f.ds.length x.f.dc,.slice x.f.oA x.f.os.length x.f.oc,.slice x.us.A x.us.us.length x.us.c]⟩] hm rfl rfl ?_
   clear hm;intro t_ w1_ hm
   repeat' (first|(refine dg7dd6_ ?_;clear t_ hs hm a;intros;rename_i a hm hs t_)|refine tE t_ ?_|refine tC ?_ ?_|exact tN|intro t_|(refine oDo (i:=5) hs rfl (Wnt.none rfl) rfl rfl (by exact d_call hs rfl rfl rfl (pl 135 rfl) ((kf _ hm.fr))) ?_;clear hs;rintro _ w1 ⟨f,b,R',rfl,hfo,hN,hfv,hf⟩ a hs;(replace hm:=gainE hm hf hN);(clear hf hN);(try simp only[List.cons_append,List.nil_append,List.append_assoc]at hm);replace t_:=tX t_;refine⟨(hm.sub sub_),?_⟩)|(refine tD t_ ?_;(obtain⟨gf,rfl⟩:=hs.pp 20);(exact And.intro rfl ⟨f,R',gf,b,hfo,hfv,(sb_ hs),hm⟩))|fail)
  clear hs hm a
  rintro a w ⟨f,R',gf,b,hfo,hfv,hs,hm⟩
  refine cMid (fun a w=>Sl Tryz.f125.ntmps [(4,.pointer (some ⟨g4,0,none⟩)),(5,.pointer (some ⟨g5,0,none⟩)),(7,.pointer (some ⟨g7,0,none⟩)),(11,.pointer (some ⟨g11,0,none⟩))] a∧Mm (fun _=>False) wB (⟨some g11,175,[.int .u8 0,.int .u16 (IntKind.u16.wrap (failF 0 b)),.int .i64 0,.int .i64 0,.slice none 0 0,.int .i64 (-1),.bool false]⟩::⟨some g7,81,[.slice y.ck.A y.ck.xs.length y.ck.c,.slice y.rn.A y.rn.xs.length y.rn.c,.slice y.ins.A y.ins.qs.length y.ins.c,.slice f.dA f.ds.length f.dc,.slice f.oA f.os.length f.oc,.slice y.us.A y.us.us.length y.us.c]⟩::⟨some g5,175,[.int .u8 0,.int .u16 0,.int .i64 0,.int .i64 0,.slice none 0 0,.int .i64 0,.bool false]⟩::⟨some g4,81,[.slice none 0 0,.slice none 0 0,.slice none 0 0,.slice none 0 0,.slice none 0 0,.slice none 0 0]⟩::(R++R')) w) ?_ ?_
  ·with_reducible repeat(first|apply gThen|apply wp_seq)
   refine cDrawT (n:=6) (.s [0,1,3]<| .o 2<| .x<| .o 4<| .o 5<| .d) [⟨some gf,78,[.slice f.dA f.ds.length f.dc,.slice f.oA f.os.length f.oc]⟩] hm rfl rfl ?_
   clear hm;intro t_ w1_ hm
   repeat' (first|(refine dg7dd6_ ?_;clear t_ hs hm a;intros;rename_i a hm hs t_)|refine tE t_ ?_|refine tC ?_ ?_|exact tN|intro t_|(refine oDo (i:=2) hs rfl (Wnt.none rfl) rfl rfl (by exact d_call hs rfl rfl rfl (pl 123 rfl) ((kvl _ _ _))) ?_;clear hs;rintro _ w1 ⟨rfl,hf⟩ a hs;(replace hm:=hm.pu hf);(clear hf);replace t_:=tX t_;refine⟨(hm.sub sub_),?_⟩)|(refine tD t_ ?_;(exact And.intro rfl ⟨(sb_ hs),hm.sub sub_⟩))|fail)
  clear hs hm a
  rintro a w ⟨hs,hm⟩
  refine gsab4d_ ?_;clear hs hm a;intros;rename_i a hm hs
  refine cDrawT (n:=5) (.s [0,1]<| .o 2<| .o 3<| .t 4<| .d) [⟨some g11,175,[.int .u8 0,.int .u16 (IntKind.u16.wrap (failF 0 b)),.int .i64 0,.int .i64 0,.slice none 0 0,.int .i64 (-1),.bool false]⟩,⟨some g7,81,[.slice y.ck.A y.ck.xs.length y.ck.c,.slice y.rn.A y.rn.xs.length y.rn.c,.slice y.ins.A y.ins.qs.length y.ins.c,.slice f.dA f.ds.length f.dc,.slice f.oA f.os.length f.oc,.slice y.us.A y.us.us.length y.us.c]⟩] hm rfl rfl ?_
  clear hm;intro t_ w1_ hm
  repeat' (first|(refine dg7dd6_ ?_;clear t_ hs hm a;intros;rename_i a hm hs t_)|refine tE t_ ?_|refine tC ?_ ?_|exact tN|intro t_|(refine tD t_ ?_;(refine gsab4d_ ?_;clear hs hm a;intros;rename_i a hm hs);(exact gRetN tab hs rfl (.cons (.cells rfl rfl rfl rfl (hm.ro (k:=0) (n:=6) (g:=g4) mem_ (cutF_ok rfl))) (.cons (.cells rfl rfl rfl rfl (hm.ro (k:=0) (n:=7) (g:=g5) mem_ (cutF_ok rfl))) (.cons (.tmp rfl) .nil))) ⟨{y with f:=f},valR 0 b,R++R',rfl,hyo.set_f hfo,valR_on _ b _,hm.new sub_,hyv.set_f hfv,valR_fit _ b,rfl,rfl,hm.fr⟩))|fail)
 ·refine gsab4d_ ?_;clear hs hm a;intros;rename_i a hm hs
  have kf:=fun w'' (hf:Pu wB w'')=>seek_c x.f a0 a1 w'' (hx.pu hf).f h.f
  unfold FV.v at kf
  refine cMid (fun a w=>∃(f:FV)(R':List Hp)(gf:Nat)(b:Bool),On R' f.ok∧f.d'.val∧Sl Tryz.f125.ntmps [(2,.pointer (some ⟨g2,0,none⟩)),(3,.pointer (some ⟨g3,0,none⟩)),(4,.pointer (some ⟨g4,0,none⟩)),(5,.pointer (some ⟨g5,0,none⟩)),(7,.pointer (some ⟨g7,0,none⟩)),(8,.slice (some ⟨ga,0,none⟩) 3 3),(11,.pointer (some ⟨g11,0,none⟩)),(22,.pointer (some ⟨gf,0,none⟩)),(23,.bool b)] a∧Mm (fun _=>False) wB (⟨some gf,78,[.slice f.dA f.ds.length f.dc,.slice f.oA f.os.length f.oc]⟩::⟨some g11,175,[.int .u8 0,.int .u16 (IntKind.u16.wrap (failF 0 false)),.int .i64 0,.int .i64 0,.slice none 0 0,.int .i64 (-1),.bool false]⟩::⟨some ga,3,[.int .i64 a0,.int .i64 a1,.int .i64 a2]⟩::⟨some g7,81,[.slice y.ck.A y.ck.xs.length y.ck.c,.slice y.rn.A y.rn.xs.length y.rn.c,.slice y.ins.A y.ins.qs.length y.ins.c,.slice y.f.dA y.f.ds.length y.f.dc,.slice y.f.oA y.f.os.length y.f.oc,.slice y.us.A y.us.us.length y.us.c]⟩::⟨some g5,175,[.int .u8 0,.int .u16 0,.int .i64 0,.int .i64 0,.slice none 0 0,.int .i64 0,.bool false]⟩::⟨some g4,81,[.slice none 0 0,.slice none 0 0,.slice none 0 0,.slice none 0 0,.slice none 0 0,.slice none 0 0]⟩::⟨some g3,173,[.int .i64 th,.int .i64 1,.int .i64 trap,.int .i64 cnt,.int .i64 pc,.int .i64 5,.slice ra.A ra.xs.length ra.c,.slice rd.A rd.xs.length rd.c]⟩::⟨some g2,81,[.slice x.ck.A x.ck.xs.length x.ck.c,.slice x.rn.A x.rn.xs.length x.rn.c,.slice x.ins.A x.ins.qs.length x.ins.c,.slice x.f.dA x.f.ds.length x.f.dc,.slice x.f.oA x.f.os.length x.f.oc,.slice x.us.A x.us.us.length x.us.c]⟩::(R++R')) w) ?_ ?_
  ·with_reducible repeat(first|apply gThen|apply wp_seq)
   refine cDrawT (n:=15) (.s [0,1,2,3,4,5,6,7]<| .e [(8,.x<| .s [9,10,11]<| .o 12<| .o 13<| .t 14<| .d),(12,.o 8<| .x<| .s [9,10,11]<| .o 13<| .t 14<| .d)]) [⟨some ga,3,[.int .i64 a0,.int .i64 a1,.int .i64 a2]⟩,⟨some g3,173,[.int .i64 th,.int .i64 1,.int .i64 trap,.int .i64 cnt,.int .i64 pc,.int .i64 5,.slice ra.A ra.xs.length ra.c,.slice rd.A rd.xs.length rd.c]⟩,⟨some g2,81,[.slice x.ck.A x.ck.xs.length x.ck.c,.slice x.rn.A x.rn.xs.length x.rn.c,.slice x.ins.A x.ins.qs.length x.ins.c,.slice x.f.dA x.f.ds.length x.f.dc,.slice x.f.oA x.f.os.length x.f.oc,.slice x.us.A x.us.us.length x.us.c]⟩] hm rfl rfl ?_
   clear hm;intro t_ w1_ hm
   repeat' (first|(refine dg7dd6_ ?_;clear t_ hs hm a;intros;rename_i a hm hs t_)|refine tE t_ ?_|refine tC ?_ ?_|exact tN|intro t_|(refine oDo (i:=8) hs rfl (Wnt.none rfl) rfl rfl (by exact d_call hs rfl rfl rfl (pl 136 rfl) ((kf _ hm.fr))) ?_;clear hs;rintro _ w1 ⟨f,b,R',rfl,hfo,hN,hfv,hf⟩ a hs;(replace hm:=gainE hm hf hN);(clear hf hN);(try simp only[List.cons_append,List.nil_append,List.append_assoc]at hm);replace t_:=tX t_;refine⟨(hm.sub sub_),?_⟩)|(refine tD t_ ?_;(obtain⟨gf,rfl⟩:=hs.pp 22);(exact And.intro rfl ⟨f,R',gf,b,hfo,hfv,(sb_ hs),hm⟩))|fail)
  clear hs hm a
  rintro a w ⟨f,R',gf,b,hfo,hfv,hs,hm⟩
  refine cMid (fun a w=>Sl Tryz.f125.ntmps [(4,.pointer (some ⟨g4,0,none⟩)),(5,.pointer (some ⟨g5,0,none⟩)),(7,.pointer (some ⟨g7,0,none⟩)),(11,.pointer (some ⟨g11,0,none⟩))] a∧Mm (fun _=>False) wB (⟨some g11,175,[.int .u8 0,.int .u16 (IntKind.u16.wrap (failF 0 b)),.int .i64 0,.int .i64 0,.slice none 0 0,.int .i64 (-1),.bool false]⟩::⟨some g7,81,[.slice y.ck.A y.ck.xs.length y.ck.c,.slice y.rn.A y.rn.xs.length y.rn.c,.slice y.ins.A y.ins.qs.length y.ins.c,.slice f.dA f.ds.length f.dc,.slice f.oA f.os.length f.oc,.slice y.us.A y.us.us.length y.us.c]⟩::⟨some g5,175,[.int .u8 0,.int .u16 0,.int .i64 0,.int .i64 0,.slice none 0 0,.int .i64 0,.bool false]⟩::⟨some g4,81,[.slice none 0 0,.slice none 0 0,.slice none 0 0,.slice none 0 0,.slice none 0 0,.slice none 0 0]⟩::(R++R')) w) ?_ ?_
  ·with_reducible repeat(first|apply gThen|apply wp_seq)
   refine cDrawT (n:=6) (.s [0,1,3]<| .o 2<| .x<| .o 4<| .o 5<| .d) [⟨some gf,78,[.slice f.dA f.ds.length f.dc,.slice f.oA f.os.length f.oc]⟩] hm rfl rfl ?_
   clear hm;intro t_ w1_ hm
   repeat' (first|(refine dg7dd6_ ?_;clear t_ hs hm a;intros;rename_i a hm hs t_)|refine tE t_ ?_|refine tC ?_ ?_|exact tN|intro t_|(refine oDo (i:=2) hs rfl (Wnt.none rfl) rfl rfl (by exact d_call hs rfl rfl rfl (pl 123 rfl) ((kvl _ _ _))) ?_;clear hs;rintro _ w1 ⟨rfl,hf⟩ a hs;(replace hm:=hm.pu hf);(clear hf);replace t_:=tX t_;refine⟨(hm.sub sub_),?_⟩)|(refine tD t_ ?_;(exact And.intro rfl ⟨(sb_ hs),hm.sub sub_⟩))|fail)
  clear hs hm a
  rintro a w ⟨hs,hm⟩
  refine gsab4d_ ?_;clear hs hm a;intros;rename_i a hm hs
  refine cDrawT (n:=5) (.s [0,1]<| .o 2<| .o 3<| .t 4<| .d) [⟨some g11,175,[.int .u8 0,.int .u16 (IntKind.u16.wrap (failF 0 b)),.int .i64 0,.int .i64 0,.slice none 0 0,.int .i64 (-1),.bool false]⟩,⟨some g7,81,[.slice y.ck.A y.ck.xs.length y.ck.c,.slice y.rn.A y.rn.xs.length y.rn.c,.slice y.ins.A y.ins.qs.length y.ins.c,.slice f.dA f.ds.length f.dc,.slice f.oA f.os.length f.oc,.slice y.us.A y.us.us.length y.us.c]⟩] hm rfl rfl ?_
  clear hm;intro t_ w1_ hm
  repeat' (first|(refine dg7dd6_ ?_;clear t_ hs hm a;intros;rename_i a hm hs t_)|refine tE t_ ?_|refine tC ?_ ?_|exact tN|intro t_|(refine tD t_ ?_;(refine gsab4d_ ?_;clear hs hm a;intros;rename_i a hm hs);(exact gRetN tab hs rfl (.cons (.cells rfl rfl rfl rfl (hm.ro (k:=0) (n:=6) (g:=g4) mem_ (cutF_ok rfl))) (.cons (.cells rfl rfl rfl rfl (hm.ro (k:=0) (n:=7) (g:=g5) mem_ (cutF_ok rfl))) (.cons (.tmp rfl) .nil))) ⟨{y with f:=f},valR 0 b,R++R',rfl,hyo.set_f hfo,valR_on _ b _,hm.new sub_,hyv.set_f hfv,valR_fit _ b,rfl,rfl,hm.fr⟩))|fail)
 ·refine gsab4d_ ?_;clear hs hm a;intros;rename_i a hm hs
  have hxw:Rd wB wB.heap.size x.ck.A (wds x.ck.xs):=hx.ck
  by_cases hz:x.ck.xs.length=0
  ·refine gsab4d_ ?_;clear hs hm a;intros;rename_i a hm hs
   refine cDrawT (n:=5) (.s [0,1]<| .o 2<| .o 3<| .t 4<| .d) [⟨some g11,175,[.int .u8 0,.int .u16 (IntKind.u16.wrap (failF 0 false)),.int .i64 0,.int .i64 0,.slice none 0 0,.int .i64 (-1),.bool false]⟩,⟨some g7,81,[.slice y.ck.A y.ck.xs.length y.ck.c,.slice y.rn.A y.rn.xs.length y.rn.c,.slice y.ins.A y.ins.qs.length y.ins.c,.slice y.f.dA y.f.ds.length y.f.dc,.slice y.f.oA y.f.os.length y.f.oc,.slice y.us.A y.us.us.length y.us.c]⟩] hm rfl rfl ?_
   clear hm;intro t_ w1_ hm
   repeat' (first|(refine dg7dd6_ ?_;clear t_ hs hm a;intros;rename_i a hm hs t_)|refine tE t_ ?_|refine tC ?_ ?_|exact tN|intro t_|(refine tD t_ ?_;(refine gsab4d_ ?_;clear hs hm a;intros;rename_i a hm hs);(exact gRetN tab hs rfl (.cons (.cells rfl rfl rfl rfl (hm.ro (k:=0) (n:=6) (g:=g4) mem_ (cutF_ok rfl))) (.cons (.cells rfl rfl rfl rfl (hm.ro (k:=0) (n:=7) (g:=g5) mem_ (cutF_ok rfl))) (.cons (.tmp rfl) .nil))) ⟨y,valR 0 false,R,rfl,hyo,valR_on 0 false _,hm.new sub_,hyv,valR_fit 0 false,rfl,rfl,hm.fr⟩))|fail)
  ·have hyl:y.ck.xs.length=x.ck.xs.length:=by rw[hyc]
   obtain⟨b5,o5,hA5,hb5,r5⟩:=hxw.ro (by rw[wds_len2];omega)
   obtain⟨v0,hv0⟩:∃v,(wds x.ck.xs)[0]?=some (.int .u16 v):=⟨x.ck.xs[0]'(by omega),by unfold wds;rw[List.getElem?_map,List.getElem?_eq_getElem (by omega)];rfl⟩
   have hyw:=hyv.ck
   have hyw1:=hyw.1
   rw[hA5]at hm
   refine gsab4d_ ?_;clear hs hm a;intros;rename_i a hm hs
   refine cMid (fun a w=>Sl Tryz.f125.ntmps [(4,.pointer (some ⟨g4,0,none⟩)),(5,.pointer (some ⟨g5,0,none⟩)),(7,.pointer (some ⟨g7,0,none⟩)),(11,.pointer (some ⟨g11,0,none⟩))] a∧Mm (fun _=>False) wB (⟨some g11,175,[.int .u8 0,.int .u16 (IntKind.u16.wrap (failF (IntKind.i64.wrap v0) true)),.int .i64 0,.int .i64 0,.slice none 0 0,.int .i64 (-1),.bool false]⟩::⟨some g7,81,[.slice (if y.ck.c=(1:Int).toNat then y.ck.A else y.ck.A.map (·.add ((1:Int).toNat*1))) (y.ck.xs.length-1) (y.ck.c-1),.slice y.rn.A y.rn.xs.length y.rn.c,.slice y.ins.A y.ins.qs.length y.ins.c,.slice y.f.dA y.f.ds.length y.f.dc,.slice y.f.oA y.f.os.length y.f.oc,.slice y.us.A y.us.us.length y.us.c]⟩::⟨some g5,175,[.int .u8 0,.int .u16 0,.int .i64 0,.int .i64 0,.slice none 0 0,.int .i64 0,.bool false]⟩::⟨some g4,81,[.slice none 0 0,.slice none 0 0,.slice none 0 0,.slice none 0 0,.slice none 0 0,.slice none 0 0]⟩::R) w) ?_ ?_
   ·with_reducible repeat(first|apply gThen|apply wp_seq)
    refine cDrawTB (n:=12) (.s [0,1,2,3,4,6,7,8]<| .o 5<| .x<| .o 9<| .t 10<| .o 11<| .d) 11 [⟨some g7,81,[.slice y.ck.A y.ck.xs.length y.ck.c,.slice y.rn.A y.rn.xs.length y.rn.c,.slice y.ins.A y.ins.qs.length y.ins.c,.slice y.f.dA y.f.ds.length y.f.dc,.slice y.f.oA y.f.os.length y.f.oc,.slice y.us.A y.us.us.length y.us.c]⟩,⟨some g2,81,[.slice (some ⟨b5,o5,none⟩) x.ck.xs.length x.ck.c,.slice x.rn.A x.rn.xs.length x.rn.c,.slice x.ins.A x.ins.qs.length x.ins.c,.slice x.f.dA x.f.ds.length x.f.dc,.slice x.f.oA x.f.os.length x.f.oc,.slice x.us.A x.us.us.length x.us.c]⟩] hm rfl rfl ?_
    clear hm;intro t_ w1_ hm
    repeat' (first|(refine dgd265_ ?_;clear t_ hs hm a;intros;rename_i a hm hs t_)|refine tEB t_ ?_|refine tCB ?_ ?_|exact tNB|intro t_|(refine oDoB (i:=5) hs rfl (Wnt.none rfl) rfl rfl (by exact d_call hs rfl rfl rfl (pl 123 rfl) ((kvl _ _ _))) ?_;clear hs;rintro _ w1 ⟨rfl,hf⟩ a hs;(replace hm:=hm.pu hf);(clear hf);replace t_:=tX t_;refine⟨bu_,?_⟩)|(refine tDB t_ ?_;(exact And.intro rfl ⟨(sb_ hs),hm.sub sub_⟩))|fail)
   clear hs hm a
   rintro a w ⟨hs,hm⟩
   have hvs:OV.vs {y with ck:=⟨(if y.ck.c=(1:Int).toNat then y.ck.A else y.ck.A.map (·.add ((1:Int).toNat*1))),y.ck.c-1,y.ck.xs.drop 1⟩}=[.slice (if y.ck.c=(1:Int).toNat then y.ck.A else y.ck.A.map (·.add ((1:Int).toNat*1))) (y.ck.xs.length-1) (y.ck.c-1),.slice y.rn.A y.rn.xs.length y.rn.c,.slice y.ins.A y.ins.qs.length y.ins.c,.slice y.f.dA y.f.ds.length y.f.dc,.slice y.f.oA y.f.os.length y.f.oc,.slice y.us.A y.us.us.length y.us.c]:=by unfold OV.vs;dsimp only;rw[List.length_drop]
   have hon:On R (OV.ok {y with ck:=⟨(if y.ck.c=(1:Int).toNat then y.ck.A else y.ck.A.map (·.add ((1:Int).toNat*1))),y.ck.c-1,y.ck.xs.drop 1⟩}):=fun S w0 w M hm hM=>by
    have h1:=hyo.now hm hM
    exact⟨wds_cut (o:=1) h1.ck (by omega) (by omega),h1.rn,h1.ins,h1.f,h1.us⟩
   have hval:OV.val {y with ck:=⟨(if y.ck.c=(1:Int).toNat then y.ck.A else y.ck.A.map (·.add ((1:Int).toNat*1))),y.ck.c-1,y.ck.xs.drop 1⟩}:=⟨⟨by dsimp only;rw[List.length_drop];omega,by dsimp only;rw[List.length_drop];have:=hyw.2.1;omega,fun v hv=>hyw.2.2 v (List.mem_of_mem_drop hv)⟩,hyv.rn,hyv.ins,hyv.f,hyv.us⟩
   refine gsab4d_ ?_;clear hs hm a;intros;rename_i a hm hs
   refine cDrawT (n:=5) (.s [0,1]<| .o 2<| .o 3<| .t 4<| .d) [⟨some g11,175,[.int .u8 0,.int .u16 (IntKind.u16.wrap (failF (IntKind.i64.wrap v0) true)),.int .i64 0,.int .i64 0,.slice none 0 0,.int .i64 (-1),.bool false]⟩,⟨some g7,81,[.slice (if y.ck.c=(1:Int).toNat then y.ck.A else y.ck.A.map (·.add ((1:Int).toNat*1))) (y.ck.xs.length-1) (y.ck.c-1),.slice y.rn.A y.rn.xs.length y.rn.c,.slice y.ins.A y.ins.qs.length y.ins.c,.slice y.f.dA y.f.ds.length y.f.dc,.slice y.f.oA y.f.os.length y.f.oc,.slice y.us.A y.us.us.length y.us.c]⟩] hm rfl rfl ?_
   clear hm;intro t_ w1_ hm
   repeat' (first|(refine dg7dd6_ ?_;clear t_ hs hm a;intros;rename_i a hm hs t_)|refine tE t_ ?_|refine tC ?_ ?_|exact tN|intro t_|(refine tD t_ ?_;(refine gsab4d_ ?_;clear hs hm a;intros;rename_i a hm hs);(exact gRetN tab hs rfl (.cons (.cells rfl rfl rfl rfl (hm.ro (k:=0) (n:=6) (g:=g4) mem_ (cutF_ok rfl))) (.cons (.cells rfl rfl rfl rfl (hm.ro (k:=0) (n:=7) (g:=g5) mem_ (cutF_ok rfl))) (.cons (.tmp rfl) .nil))) ⟨{y with ck:=⟨(if y.ck.c=(1:Int).toNat then y.ck.A else y.ck.A.map (·.add ((1:Int).toNat*1))),y.ck.c-1,y.ck.xs.drop 1⟩},valR (IntKind.i64.wrap v0) true,R,by dsimp only;rw[List.length_drop];rfl,hon,valR_on _ true _,hm.new sub_,hval,valR_fit _ true,rfl,rfl,hm.fr⟩))|fail)
 ·refine gsab4d_ ?_;clear hs hm a;intros;rename_i a hm hs
  have hxw:Rd wB wB.heap.size x.rn.A (wds x.rn.xs):=hx.rn
  by_cases hz:x.rn.xs.length=0
  ·refine gsab4d_ ?_;clear hs hm a;intros;rename_i a hm hs
   refine cDrawT (n:=5) (.s [0,1]<| .o 2<| .o 3<| .t 4<| .d) [⟨some g11,175,[.int .u8 0,.int .u16 (IntKind.u16.wrap (failF 0 false)),.int .i64 0,.int .i64 0,.slice none 0 0,.int .i64 (-1),.bool false]⟩,⟨some g7,81,[.slice y.ck.A y.ck.xs.length y.ck.c,.slice y.rn.A y.rn.xs.length y.rn.c,.slice y.ins.A y.ins.qs.length y.ins.c,.slice y.f.dA y.f.ds.length y.f.dc,.slice y.f.oA y.f.os.length y.f.oc,.slice y.us.A y.us.us.length y.us.c]⟩] hm rfl rfl ?_
   clear hm;intro t_ w1_ hm
   repeat' (first|(refine dg7dd6_ ?_;clear t_ hs hm a;intros;rename_i a hm hs t_)|refine tE t_ ?_|refine tC ?_ ?_|exact tN|intro t_|(refine tD t_ ?_;(refine gsab4d_ ?_;clear hs hm a;intros;rename_i a hm hs);(exact gRetN tab hs rfl (.cons (.cells rfl rfl rfl rfl (hm.ro (k:=0) (n:=6) (g:=g4) mem_ (cutF_ok rfl))) (.cons (.cells rfl rfl rfl rfl (hm.ro (k:=0) (n:=7) (g:=g5) mem_ (cutF_ok rfl))) (.cons (.tmp rfl) .nil))) ⟨y,valR 0 false,R,rfl,hyo,valR_on 0 false _,hm.new sub_,hyv,valR_fit 0 false,rfl,rfl,hm.fr⟩))|fail)
  ·have hyl:y.rn.xs.length=x.rn.xs.length:=by rw[hyr]
   obtain⟨b5,o5,hA5,hb5,r5⟩:=hxw.ro (by rw[wds_len2];omega)
   obtain⟨v0,hv0⟩:∃v,(wds x.rn.xs)[0]?=some (.int .u16 v):=⟨x.rn.xs[0]'(by omega),by unfold wds;rw[List.getElem?_map,List.getElem?_eq_getElem (by omega)];rfl⟩
   have hyw:=hyv.rn
   have hyw1:=hyw.1
   rw[hA5]at hm
   refine gsab4d_ ?_;clear hs hm a;intros;rename_i a hm hs
   refine cMid (fun a w=>Sl Tryz.f125.ntmps [(4,.pointer (some ⟨g4,0,none⟩)),(5,.pointer (some ⟨g5,0,none⟩)),(7,.pointer (some ⟨g7,0,none⟩)),(11,.pointer (some ⟨g11,0,none⟩))] a∧Mm (fun _=>False) wB (⟨some g11,175,[.int .u8 0,.int .u16 (IntKind.u16.wrap (failF (IntKind.i64.wrap v0) true)),.int .i64 0,.int .i64 0,.slice none 0 0,.int .i64 (-1),.bool false]⟩::⟨some g7,81,[.slice y.ck.A y.ck.xs.length y.ck.c,.slice (if y.rn.c=(1:Int).toNat then y.rn.A else y.rn.A.map (·.add ((1:Int).toNat*1))) (y.rn.xs.length-1) (y.rn.c-1),.slice y.ins.A y.ins.qs.length y.ins.c,.slice y.f.dA y.f.ds.length y.f.dc,.slice y.f.oA y.f.os.length y.f.oc,.slice y.us.A y.us.us.length y.us.c]⟩::⟨some g5,175,[.int .u8 0,.int .u16 0,.int .i64 0,.int .i64 0,.slice none 0 0,.int .i64 0,.bool false]⟩::⟨some g4,81,[.slice none 0 0,.slice none 0 0,.slice none 0 0,.slice none 0 0,.slice none 0 0,.slice none 0 0]⟩::R) w) ?_ ?_
   ·with_reducible repeat(first|apply gThen|apply wp_seq)
    refine cDrawTB (n:=12) (.s [0,1,2,3,4,6,7,8]<| .o 5<| .x<| .o 9<| .t 10<| .o 11<| .d) 11 [⟨some g7,81,[.slice y.ck.A y.ck.xs.length y.ck.c,.slice y.rn.A y.rn.xs.length y.rn.c,.slice y.ins.A y.ins.qs.length y.ins.c,.slice y.f.dA y.f.ds.length y.f.dc,.slice y.f.oA y.f.os.length y.f.oc,.slice y.us.A y.us.us.length y.us.c]⟩,⟨some g2,81,[.slice x.ck.A x.ck.xs.length x.ck.c,.slice (some ⟨b5,o5,none⟩) x.rn.xs.length x.rn.c,.slice x.ins.A x.ins.qs.length x.ins.c,.slice x.f.dA x.f.ds.length x.f.dc,.slice x.f.oA x.f.os.length x.f.oc,.slice x.us.A x.us.us.length x.us.c]⟩] hm rfl rfl ?_
    clear hm;intro t_ w1_ hm
    repeat' (first|(refine dgd265_ ?_;clear t_ hs hm a;intros;rename_i a hm hs t_)|refine tEB t_ ?_|refine tCB ?_ ?_|exact tNB|intro t_|(refine oDoB (i:=5) hs rfl (Wnt.none rfl) rfl rfl (by exact d_call hs rfl rfl rfl (pl 123 rfl) ((kvl _ _ _))) ?_;clear hs;rintro _ w1 ⟨rfl,hf⟩ a hs;(replace hm:=hm.pu hf);(clear hf);replace t_:=tX t_;refine⟨bu_,?_⟩)|(refine tDB t_ ?_;(exact And.intro rfl ⟨(sb_ hs),hm.sub sub_⟩))|fail)
   clear hs hm a
   rintro a w ⟨hs,hm⟩
   have hvs:OV.vs {y with rn:=⟨(if y.rn.c=(1:Int).toNat then y.rn.A else y.rn.A.map (·.add ((1:Int).toNat*1))),y.rn.c-1,y.rn.xs.drop 1⟩}=[.slice y.ck.A y.ck.xs.length y.ck.c,.slice (if y.rn.c=(1:Int).toNat then y.rn.A else y.rn.A.map (·.add ((1:Int).toNat*1))) (y.rn.xs.length-1) (y.rn.c-1),.slice y.ins.A y.ins.qs.length y.ins.c,.slice y.f.dA y.f.ds.length y.f.dc,.slice y.f.oA y.f.os.length y.f.oc,.slice y.us.A y.us.us.length y.us.c]:=by unfold OV.vs;dsimp only;rw[List.length_drop]
   have hon:On R (OV.ok {y with rn:=⟨(if y.rn.c=(1:Int).toNat then y.rn.A else y.rn.A.map (·.add ((1:Int).toNat*1))),y.rn.c-1,y.rn.xs.drop 1⟩}):=fun S w0 w M hm hM=>by
    have h1:=hyo.now hm hM
    exact⟨h1.ck,wds_cut (o:=1) h1.rn (by omega) (by omega),h1.ins,h1.f,h1.us⟩
   have hval:OV.val {y with rn:=⟨(if y.rn.c=(1:Int).toNat then y.rn.A else y.rn.A.map (·.add ((1:Int).toNat*1))),y.rn.c-1,y.rn.xs.drop 1⟩}:=⟨hyv.ck,⟨by dsimp only;rw[List.length_drop];omega,by dsimp only;rw[List.length_drop];have:=hyw.2.1;omega,fun v hv=>hyw.2.2 v (List.mem_of_mem_drop hv)⟩,hyv.ins,hyv.f,hyv.us⟩
   refine gsab4d_ ?_;clear hs hm a;intros;rename_i a hm hs
   refine cDrawT (n:=5) (.s [0,1]<| .o 2<| .o 3<| .t 4<| .d) [⟨some g11,175,[.int .u8 0,.int .u16 (IntKind.u16.wrap (failF (IntKind.i64.wrap v0) true)),.int .i64 0,.int .i64 0,.slice none 0 0,.int .i64 (-1),.bool false]⟩,⟨some g7,81,[.slice y.ck.A y.ck.xs.length y.ck.c,.slice (if y.rn.c=(1:Int).toNat then y.rn.A else y.rn.A.map (·.add ((1:Int).toNat*1))) (y.rn.xs.length-1) (y.rn.c-1),.slice y.ins.A y.ins.qs.length y.ins.c,.slice y.f.dA y.f.ds.length y.f.dc,.slice y.f.oA y.f.os.length y.f.oc,.slice y.us.A y.us.us.length y.us.c]⟩] hm rfl rfl ?_
   clear hm;intro t_ w1_ hm
   repeat' (first|(refine dg7dd6_ ?_;clear t_ hs hm a;intros;rename_i a hm hs t_)|refine tE t_ ?_|refine tC ?_ ?_|exact tN|intro t_|(refine tD t_ ?_;(refine gsab4d_ ?_;clear hs hm a;intros;rename_i a hm hs);(exact gRetN tab hs rfl (.cons (.cells rfl rfl rfl rfl (hm.ro (k:=0) (n:=6) (g:=g4) mem_ (cutF_ok rfl))) (.cons (.cells rfl rfl rfl rfl (hm.ro (k:=0) (n:=7) (g:=g5) mem_ (cutF_ok rfl))) (.cons (.tmp rfl) .nil))) ⟨{y with rn:=⟨(if y.rn.c=(1:Int).toNat then y.rn.A else y.rn.A.map (·.add ((1:Int).toNat*1))),y.rn.c-1,y.rn.xs.drop 1⟩},valR (IntKind.i64.wrap v0) true,R,by dsimp only;rw[List.length_drop];rfl,hon,valR_on _ true _,hm.new sub_,hval,valR_fit _ true,rfl,rfl,hm.fr⟩))|fail)
theorem do_g1 [HB](x:OV)(r:RqV)(wB:World)(hx:x.ok wB)(h:x.val)(hr:r.ok wB)(hrv:r.val)(hrk:r.kin)(hst:r.stop=1)(ha:r.call=1∨r.call=13):Ret Tryz.prog 125 [x.v,r.v] wB (fun u w'=>∃(y:OV)(z:RsV)(R:List Hp),u= .tuple #[y.v,z.v,.int .i64 0]∧On R y.ok∧On R z.ok∧New wB w' R∧y.val∧z.fit∧z.spawn=-1∧z.wait=false∧Pu wB w'):=by
 have kv:=fun w'' (hf:Pu wB w'')=>oval_c x w'' (hx.pu hf) h
 have kq:=fun w'' (hf:Pu wB w'')=>rqval_c r w'' (hr.pu hf) hrv
 have kk:=fun w'' (hf:Pu wB w'')=>rkin_c r w'' (hr.pu hf) hrk
 have kc:=fun w'' (hf:Pu wB w'')=>ocpy_c x w'' (hx.pu hf) h
 obtain⟨th,stop,trap,cnt,pc,call,ra,rd⟩:=r
 dsimp only at hst ha
 subst hst
 have ka:=fun w''=>acts_c call w'' (by unfold actsF;omega)
 have kb:=fun w''=>buf_c call w'' (by omega)
 have hbf:bufF call=1:=by rcases ha with rfl|rfl<;>rfl
 rw[hbf]at kb
 have kvl:∀(n:Int)(b:Bool)(w'':World),Ret Tryz.prog 123 [.int .i64 n,.bool b] w'' (fun u w'=>u= .agg #[.int .u8 0,.int .u16 (IntKind.u16.wrap (failF n b)),.int .i64 0,.int .i64 0,.slice none 0 0,.int .i64 (-1),.bool false]∧Pu w'' w'):=fun n b w''=>vlu_c n b w''
 have hra:Rd wB wB.heap.size ra.A (cns ra.xs):=hr.a
 have hrdo:rd.ok wB:=hr.d
 have hrdn:rd.xs.length≤16:=hrv.d
 have hrdv:∀c∈rd.xs,c.val:=hrv.dv
 have hav:∀c∈ra.xs,c.val:=hrv.av
 have hal:ra.xs.length=3:=by rcases ha with rfl|rfl<;>exact hrk.n
 unfold RqV.v at kq kk ⊢
 unfold OV.v at kv kc ⊢
 dsimp only at kq kk ⊢
 refine enterR Tryz.func125 rfl rfl rfl fun a hs hm=>?_
 refine gcShj0_ ?_;clear hs hm a;intros;rename_i a hm hs
 obtain⟨g2,rfl⟩:=hs.pp 2
 obtain⟨g3,rfl⟩:=hs.pp 3
 obtain⟨g4,rfl⟩:=hs.pp 4
 obtain⟨g5,rfl⟩:=hs.pp 5
 refine st hs rfl rfl rfl (d_call hs rfl rfl rfl (pl 85 rfl) ((kc _ hm.fr))) ?_;clear hs a;rintro _ w1 ⟨y,R,rfl,hyo,hN,hyv,hyc,hyr,hf⟩ a hs
 replace hm:=gainE hm hf hN
 clear hN hf kc kv kq kk
 simp only[List.cons_append,List.nil_append]at hm
 refine gsab4d_ ?_;clear hs hm a;intros;rename_i a hm hs
 obtain⟨g7,rfl⟩:=hs.pp 7
 obtain⟨ga,rfl⟩:=hs.qq 8
 refine cMidE (.exit 0) (fun a w=>∃a0 a1 a2:Int,(∀(i:Nat) c,ra.xs[i]?=some c→[a0,a1,a2][i]?=some c.v)∧(∀v∈ [a0,a1,a2],0≤v∧v≤65535)∧Sl Tryz.f125.ntmps [(2,.pointer (some ⟨g2,0,none⟩)),(3,.pointer (some ⟨g3,0,none⟩)),(4,.pointer (some ⟨g4,0,none⟩)),(5,.pointer (some ⟨g5,0,none⟩)),(7,.pointer (some ⟨g7,0,none⟩)),(8,.slice (some ⟨ga,0,none⟩) 3 3)] a∧Mm (fun _=>False) wB (⟨some ga,3,[.int .i64 a0,.int .i64 a1,.int .i64 a2]⟩::⟨some g7,81,[.slice y.ck.A y.ck.xs.length y.ck.c,.slice y.rn.A y.rn.xs.length y.rn.c,.slice y.ins.A y.ins.qs.length y.ins.c,.slice y.f.dA y.f.ds.length y.f.dc,.slice y.f.oA y.f.os.length y.f.oc,.slice y.us.A y.us.us.length y.us.c]⟩::⟨some g5,175,[.int .u8 0,.int .u16 0,.int .i64 0,.int .i64 0,.slice none 0 0,.int .i64 0,.bool false]⟩::⟨some g4,81,[.slice none 0 0,.slice none 0 0,.slice none 0 0,.slice none 0 0,.slice none 0 0,.slice none 0 0]⟩::⟨some g3,173,[.int .i64 th,.int .i64 1,.int .i64 trap,.int .i64 cnt,.int .i64 pc,.int .i64 call,.slice ra.A ra.xs.length ra.c,.slice rd.A rd.xs.length rd.c]⟩::⟨some g2,81,[.slice x.ck.A x.ck.xs.length x.ck.c,.slice x.rn.A x.rn.xs.length x.rn.c,.slice x.ins.A x.ins.qs.length x.ins.c,.slice x.f.dA x.f.ds.length x.f.dc,.slice x.f.oA x.f.os.length x.f.oc,.slice x.us.A x.us.us.length x.us.c]⟩::R) w) ?_ ?_
 ·refine cLoop (X:=DoX) (fun X a w=>X.k≤ra.xs.length∧X.l.length=3∧(∀(i:Nat) c,i<X.k→ra.xs[i]?=some c→X.l[i]?=some c.v)∧(∀v∈X.l,0≤v∧v≤65535)∧Sl Tryz.f125.ntmps [(2,.pointer (some ⟨g2,0,none⟩)),(3,.pointer (some ⟨g3,0,none⟩)),(4,.pointer (some ⟨g4,0,none⟩)),(5,.pointer (some ⟨g5,0,none⟩)),(7,.pointer (some ⟨g7,0,none⟩)),(8,.slice (some ⟨ga,0,none⟩) 3 3),(74,.slice ra.A ra.xs.length ra.c),(75,.int .i64 (ra.xs.length:Int)),(76,.int .i64 (X.k:Int))] a∧Mm (fun _=>False) wB (⟨some ga,3,ints X.l⟩::⟨some g7,81,[.slice y.ck.A y.ck.xs.length y.ck.c,.slice y.rn.A y.rn.xs.length y.rn.c,.slice y.ins.A y.ins.qs.length y.ins.c,.slice y.f.dA y.f.ds.length y.f.dc,.slice y.f.oA y.f.os.length y.f.oc,.slice y.us.A y.us.us.length y.us.c]⟩::⟨some g5,175,[.int .u8 0,.int .u16 0,.int .i64 0,.int .i64 0,.slice none 0 0,.int .i64 0,.bool false]⟩::⟨some g4,81,[.slice none 0 0,.slice none 0 0,.slice none 0 0,.slice none 0 0,.slice none 0 0,.slice none 0 0]⟩::⟨some g3,173,[.int .i64 th,.int .i64 1,.int .i64 trap,.int .i64 cnt,.int .i64 pc,.int .i64 call,.slice ra.A ra.xs.length ra.c,.slice rd.A rd.xs.length rd.c]⟩::⟨some g2,81,[.slice x.ck.A x.ck.xs.length x.ck.c,.slice x.rn.A x.rn.xs.length x.rn.c,.slice x.ins.A x.ins.qs.length x.ins.c,.slice x.f.dA x.f.ds.length x.f.dc,.slice x.f.oA x.f.os.length x.f.oc,.slice x.us.A x.us.us.length x.us.c]⟩::R) w) (fun X=>ra.xs.length-X.k) ⟨0,[0,0,0]⟩ ⟨Nat.zero_le _,rfl,(fun i c hi=>absurd hi (Nat.not_lt_zero _)),(fun v hv=>by simp at hv;omega),(sb_ hs),hm⟩ ?_
  clear hs hm a
  rintro⟨k,l⟩ a w ⟨hk,hl3,hl,hlv,hs,hm⟩
  dsimp only at hk hl3 hl hlv hs hm
  by_cases hlt:k<ra.xs.length
  ·obtain⟨b4,o4,hA4,hb4,r4⟩:=hra.ro (by rw[cns_len];omega)
   have r3:=r4.flat CN.cs_len hlt
   have hcv:=hav _ (List.getElem_mem hlt)
   have hcx:ra.xs[k]?=some ra.xs[k]:=List.getElem?_eq_getElem hlt
   generalize ra.xs[k]=q at r3 hcv hcx
   unfold CN.cs at r3
   have hw:IntKind.i64.wrap q.v=q.v:=wrap_idP (by have:=hcv.v;omega)
   have hll:(ints l).length=3:=by rw[ints_len,hl3]
   rw[hA4]at hs hm
   refine gsab4d_ ?_;clear hs hm a;intros;rename_i a hm hs
   rw[hw]at hm
   rw[←hA4]at hs hm
   refine⟨⟨k+1,l.set k q.v⟩,by dsimp only;omega,by dsimp only;omega,by dsimp only;rw[List.length_set];exact hl3,fun i c hi hc=>?_,fun v hv=>?_,(sb_ hs),?_⟩
   ·dsimp only at hi ⊢
    by_cases hik:i=k
    ·subst hik
     rw[hcx]at hc
     obtain rfl:=Option.some.inj hc
     exact List.getElem?_set_self (by omega)
    ·rw[List.getElem?_set_ne (fun e=>hik e.symm)]
     exact hl i c (by omega) hc
   ·dsimp only at hv
    rcases List.mem_or_eq_of_mem_set hv with hv|rfl
    ·exact hlv v hv
    ·exact hcv.v
   ·dsimp only
    rw[show ints (l.set k q.v)=(ints l).set k (.int .i64 q.v)from List.map_set]
    exact hm.sub sub_
  ·obtain rfl:k=ra.xs.length:=by omega
   obtain⟨a0,a1,a2,rfl⟩:=three hl3
   refine gsab4d_ ?_;clear hs hm a;intros;rename_i a hm hs
   exact And.intro rfl ⟨a0,a1,a2,fun i c hc=>hl i c (List.getElem?_eq_some_iff.1 hc).1 hc,hlv,(sb_ hs),hm⟩
 clear hs hm a
 rintro a w ⟨a0,a1,a2,hargs,hargv,hs,hm⟩
 have hb0:=hargv a0 (by simp)
 have hb1':=hargv a1 (by simp)
 have hb2':=hargv a2 (by simp)
 refine gcShj1_ ?_;clear hs hm a;intros;rename_i a hm hs
 obtain⟨g11,rfl⟩:=hs.pp 11
 replace hm:=hm.sub (M':=⟨some g11,175,[.int .u8 0,.int .u16 (IntKind.u16.wrap (failF 0 false)),.int .i64 0,.int .i64 0,.slice none 0 0,.int .i64 (-1),.bool false]⟩::⟨some ga,3,[.int .i64 a0,.int .i64 a1,.int .i64 a2]⟩::⟨some g7,81,[.slice y.ck.A y.ck.xs.length y.ck.c,.slice y.rn.A y.rn.xs.length y.rn.c,.slice y.ins.A y.ins.qs.length y.ins.c,.slice y.f.dA y.f.ds.length y.f.dc,.slice y.f.oA y.f.os.length y.f.oc,.slice y.us.A y.us.us.length y.us.c]⟩::⟨some g5,175,[.int .u8 0,.int .u16 0,.int .i64 0,.int .i64 0,.slice none 0 0,.int .i64 0,.bool false]⟩::⟨some g4,81,[.slice none 0 0,.slice none 0 0,.slice none 0 0,.slice none 0 0,.slice none 0 0,.slice none 0 0]⟩::⟨some g3,173,[.int .i64 th,.int .i64 1,.int .i64 trap,.int .i64 cnt,.int .i64 pc,.int .i64 call,.slice ra.A ra.xs.length ra.c,.slice rd.A rd.xs.length rd.c]⟩::⟨some g2,81,[.slice x.ck.A x.ck.xs.length x.ck.c,.slice x.rn.A x.rn.xs.length x.rn.c,.slice x.ins.A x.ins.qs.length x.ins.c,.slice x.f.dA x.f.ds.length x.f.dc,.slice x.f.oA x.f.os.length x.f.oc,.slice x.us.A x.us.us.length x.us.c]⟩::R) sub_
 rcases ha with rfl|rfl
 ·refine gsab4d_ ?_;clear hs hm a;intros;rename_i a hm hs
  have kf:=fun w'' (hf:Pu wB w'')=>fwrt_c x.f a0 rd w'' (hx.pu hf).f h.f (hrdo.pu hf) hrdv (by omega)
  unfold FV.v CnS.v at kf
  refine cMid (fun a w=>∃(f:FV)(R':List Hp)(gf:Nat)(n:Int)(b:Bool),On R' f.ok∧f.d'.val∧Sl Tryz.f125.ntmps [(2,.pointer (some ⟨g2,0,none⟩)),(3,.pointer (some ⟨g3,0,none⟩)),(4,.pointer (some ⟨g4,0,none⟩)),(5,.pointer (some ⟨g5,0,none⟩)),(7,.pointer (some ⟨g7,0,none⟩)),(8,.slice (some ⟨ga,0,none⟩) 3 3),(11,.pointer (some ⟨g11,0,none⟩)),(12,.pointer (some ⟨gf,0,none⟩)),(13,.int .i64 n),(14,.bool b)] a∧Mm (fun _=>False) wB (⟨some gf,78,[.slice f.dA f.ds.length f.dc,.slice f.oA f.os.length f.oc]⟩::⟨some g11,175,[.int .u8 0,.int .u16 (IntKind.u16.wrap (failF 0 false)),.int .i64 0,.int .i64 0,.slice none 0 0,.int .i64 (-1),.bool false]⟩::⟨some ga,3,[.int .i64 a0,.int .i64 a1,.int .i64 a2]⟩::⟨some g7,81,[.slice y.ck.A y.ck.xs.length y.ck.c,.slice y.rn.A y.rn.xs.length y.rn.c,.slice y.ins.A y.ins.qs.length y.ins.c,.slice y.f.dA y.f.ds.length y.f.dc,.slice y.f.oA y.f.os.length y.f.oc,.slice y.us.A y.us.us.length y.us.c]⟩::⟨some g5,175,[.int .u8 0,.int .u16 0,.int .i64 0,.int .i64 0,.slice none 0 0,.int .i64 0,.bool false]⟩::⟨some g4,81,[.slice none 0 0,.slice none 0 0,.slice none 0 0,.slice none 0 0,.slice none 0 0,.slice none 0 0]⟩::⟨some g3,173,[.int .i64 th,.int .i64 1,.int .i64 trap,.int .i64 cnt,.int .i64 pc,.int .i64 1,.slice ra.A ra.xs.length ra.c,.slice rd.A rd.xs.length rd.c]⟩::⟨some g2,81,[.slice x.ck.A x.ck.xs.length x.ck.c,.slice x.rn.A x.rn.xs.length x.rn.c,.slice x.ins.A x.ins.qs.length x.ins.c,.slice x.f.dA x.f.ds.length x.f.dc,.slice x.f.oA x.f.os.length x.f.oc,.slice x.us.A x.us.us.length x.us.c]⟩::(R++R')) w) ?_ ?_
  ·with_reducible repeat(first|apply gThen|apply wp_seq)
   refine cDrawT (n:=16) (.s [0,1,2,3,4,5,6]<| .e [(7,.x<| .s [8,9,10,11]<| .o 12<| .o 13<| .s [14,15]<| .d),(12,.o 7<| .x<| .s [8,9,10,11]<| .o 13<| .s [14,15]<| .d)]) [⟨some ga,3,[.int .i64 a0,.int .i64 a1,.int .i64 a2]⟩,⟨some g3,173,[.int .i64 th,.int .i64 1,.int .i64 trap,.int .i64 cnt,.int .i64 pc,.int .i64 1,.slice ra.A ra.xs.length ra.c,.slice rd.A rd.xs.length rd.c]⟩,⟨some g2,81,[.slice x.ck.A x.ck.xs.length x.ck.c,.slice x.rn.A x.rn.xs.length x.rn.c,.slice x.ins.A x.ins.qs.length x.ins.c,.slice x.f.dA x.f.ds.length x.f.dc,.slice x.f.oA x.f.os.length x.f.oc,.slice x.us.A x.us.us.length x.us.c]⟩] hm rfl rfl ?_
   clear hm;intro t_ w1_ hm
   repeat' (first|(refine dg7dd6_ ?_;clear t_ hs hm a;intros;rename_i a hm hs t_)|refine tE t_ ?_|refine tC ?_ ?_|exact tN|intro t_|(refine oDo (i:=7) hs rfl (Wnt.none rfl) rfl rfl (by exact d_call hs rfl rfl rfl (pl 132 rfl) ((kf _ hm.fr))) ?_;clear hs;rintro _ w1 ⟨f,n,b,R',rfl,hfo,hN,hfv,hn0,hn1,hf⟩ a hs;(replace hm:=gainE hm hf hN);(clear hf hN);(try simp only[List.cons_append,List.nil_append,List.append_assoc]at hm);replace t_:=tX t_;refine⟨(hm.sub sub_),?_⟩)|(refine tD t_ ?_;(obtain⟨gf,rfl⟩:=hs.pp 12);(exact And.intro rfl ⟨f,R',gf,n,b,hfo,hfv,(sb_ hs),hm⟩))|fail)
  clear hs hm a
  rintro a w ⟨f,R',gf,n,b,hfo,hfv,hs,hm⟩
  refine cMid (fun a w=>Sl Tryz.f125.ntmps [(4,.pointer (some ⟨g4,0,none⟩)),(5,.pointer (some ⟨g5,0,none⟩)),(7,.pointer (some ⟨g7,0,none⟩)),(11,.pointer (some ⟨g11,0,none⟩))] a∧Mm (fun _=>False) wB (⟨some g11,175,[.int .u8 0,.int .u16 (IntKind.u16.wrap (failF n b)),.int .i64 0,.int .i64 0,.slice none 0 0,.int .i64 (-1),.bool false]⟩::⟨some g7,81,[.slice y.ck.A y.ck.xs.length y.ck.c,.slice y.rn.A y.rn.xs.length y.rn.c,.slice y.ins.A y.ins.qs.length y.ins.c,.slice f.dA f.ds.length f.dc,.slice f.oA f.os.length f.oc,.slice y.us.A y.us.us.length y.us.c]⟩::⟨some g5,175,[.int .u8 0,.int .u16 0,.int .i64 0,.int .i64 0,.slice none 0 0,.int .i64 0,.bool false]⟩::⟨some g4,81,[.slice none 0 0,.slice none 0 0,.slice none 0 0,.slice none 0 0,.slice none 0 0,.slice none 0 0]⟩::(R++R')) w) ?_ ?_
  ·with_reducible repeat(first|apply gThen|apply wp_seq)
   refine cDrawT (n:=7) (.s [0,1,2,4]<| .o 3<| .x<| .o 5<| .o 6<| .d) [⟨some gf,78,[.slice f.dA f.ds.length f.dc,.slice f.oA f.os.length f.oc]⟩] hm rfl rfl ?_
   clear hm;intro t_ w1_ hm
   repeat' (first|(refine dg7dd6_ ?_;clear t_ hs hm a;intros;rename_i a hm hs t_)|refine tE t_ ?_|refine tC ?_ ?_|exact tN|intro t_|(refine oDo (i:=3) hs rfl (Wnt.none rfl) rfl rfl (by exact d_call hs rfl rfl rfl (pl 123 rfl) ((kvl _ _ _))) ?_;clear hs;rintro _ w1 ⟨rfl,hf⟩ a hs;(replace hm:=hm.pu hf);(clear hf);replace t_:=tX t_;refine⟨(hm.sub sub_),?_⟩)|(refine tD t_ ?_;(exact And.intro rfl ⟨(sb_ hs),hm.sub sub_⟩))|fail)
  clear hs hm a
  rintro a w ⟨hs,hm⟩
  refine gsab4d_ ?_;clear hs hm a;intros;rename_i a hm hs
  refine cDrawT (n:=5) (.s [0,1]<| .o 2<| .o 3<| .t 4<| .d) [⟨some g11,175,[.int .u8 0,.int .u16 (IntKind.u16.wrap (failF n b)),.int .i64 0,.int .i64 0,.slice none 0 0,.int .i64 (-1),.bool false]⟩,⟨some g7,81,[.slice y.ck.A y.ck.xs.length y.ck.c,.slice y.rn.A y.rn.xs.length y.rn.c,.slice y.ins.A y.ins.qs.length y.ins.c,.slice f.dA f.ds.length f.dc,.slice f.oA f.os.length f.oc,.slice y.us.A y.us.us.length y.us.c]⟩] hm rfl rfl ?_
  clear hm;intro t_ w1_ hm
  repeat' (first|(refine dg7dd6_ ?_;clear t_ hs hm a;intros;rename_i a hm hs t_)|refine tE t_ ?_|refine tC ?_ ?_|exact tN|intro t_|(refine tD t_ ?_;(refine gsab4d_ ?_;clear hs hm a;intros;rename_i a hm hs);(exact gRetN tab hs rfl (.cons (.cells rfl rfl rfl rfl (hm.ro (k:=0) (n:=6) (g:=g4) mem_ (cutF_ok rfl))) (.cons (.cells rfl rfl rfl rfl (hm.ro (k:=0) (n:=7) (g:=g5) mem_ (cutF_ok rfl))) (.cons (.tmp rfl) .nil))) ⟨{y with f:=f},valR (n:Int) b,R++R',rfl,hyo.set_f hfo,valR_on _ b _,hm.new sub_,hyv.set_f hfv,valR_fit _ b,rfl,rfl,hm.fr⟩))|fail)
 ·refine gsab4d_ ?_;clear hs hm a;intros;rename_i a hm hs
  have kf:=fun w'' (hf:Pu wB w'')=>send_c x.us a0 rd w'' (hx.pu hf).us h.us (hrdo.pu hf) hrdv (by omega)
  unfold OuL.v CnS.v at kf
  refine cMid (fun a w=>∃(f:OuL)(R':List Hp)(n:Int)(b:Bool),On R' f.ok∧OuS f.l∧Sl Tryz.f125.ntmps [(2,.pointer (some ⟨g2,0,none⟩)),(3,.pointer (some ⟨g3,0,none⟩)),(4,.pointer (some ⟨g4,0,none⟩)),(5,.pointer (some ⟨g5,0,none⟩)),(7,.pointer (some ⟨g7,0,none⟩)),(8,.slice (some ⟨ga,0,none⟩) 3 3),(11,.pointer (some ⟨g11,0,none⟩)),(24,.slice f.A f.us.length f.c),(25,.int .i64 n),(26,.bool b)] a∧Mm (fun _=>False) wB (⟨some g11,175,[.int .u8 0,.int .u16 (IntKind.u16.wrap (failF 0 false)),.int .i64 0,.int .i64 0,.slice none 0 0,.int .i64 (-1),.bool false]⟩::⟨some ga,3,[.int .i64 a0,.int .i64 a1,.int .i64 a2]⟩::⟨some g7,81,[.slice y.ck.A y.ck.xs.length y.ck.c,.slice y.rn.A y.rn.xs.length y.rn.c,.slice y.ins.A y.ins.qs.length y.ins.c,.slice y.f.dA y.f.ds.length y.f.dc,.slice y.f.oA y.f.os.length y.f.oc,.slice y.us.A y.us.us.length y.us.c]⟩::⟨some g5,175,[.int .u8 0,.int .u16 0,.int .i64 0,.int .i64 0,.slice none 0 0,.int .i64 0,.bool false]⟩::⟨some g4,81,[.slice none 0 0,.slice none 0 0,.slice none 0 0,.slice none 0 0,.slice none 0 0,.slice none 0 0]⟩::⟨some g3,173,[.int .i64 th,.int .i64 1,.int .i64 trap,.int .i64 cnt,.int .i64 pc,.int .i64 13,.slice ra.A ra.xs.length ra.c,.slice rd.A rd.xs.length rd.c]⟩::⟨some g2,81,[.slice x.ck.A x.ck.xs.length x.ck.c,.slice x.rn.A x.rn.xs.length x.rn.c,.slice x.ins.A x.ins.qs.length x.ins.c,.slice x.f.dA x.f.ds.length x.f.dc,.slice x.f.oA x.f.os.length x.f.oc,.slice x.us.A x.us.us.length x.us.c]⟩::(R++R')) w) ?_ ?_
  ·with_reducible repeat(first|apply gThen|apply wp_seq)
   refine cDrawT (n:=15) (.s [0,1,2,3,4,5,6]<| .o 7<| .x<| .s [8,9,10,11,12,13,14]<| .d) [⟨some ga,3,[.int .i64 a0,.int .i64 a1,.int .i64 a2]⟩,⟨some g3,173,[.int .i64 th,.int .i64 1,.int .i64 trap,.int .i64 cnt,.int .i64 pc,.int .i64 13,.slice ra.A ra.xs.length ra.c,.slice rd.A rd.xs.length rd.c]⟩,⟨some g2,81,[.slice x.ck.A x.ck.xs.length x.ck.c,.slice x.rn.A x.rn.xs.length x.rn.c,.slice x.ins.A x.ins.qs.length x.ins.c,.slice x.f.dA x.f.ds.length x.f.dc,.slice x.f.oA x.f.os.length x.f.oc,.slice x.us.A x.us.us.length x.us.c]⟩] hm rfl rfl ?_
   clear hm;intro t_ w1_ hm
   repeat' (first|(refine dg7dd6_ ?_;clear t_ hs hm a;intros;rename_i a hm hs t_)|refine tE t_ ?_|refine tC ?_ ?_|exact tN|intro t_|(refine oDo (i:=7) hs rfl (Wnt.none rfl) rfl rfl (by exact d_call hs rfl rfl rfl (pl 137 rfl) ((kf _ hm.fr))) ?_;clear hs;rintro _ w1 ⟨f,n,b,R',rfl,hfo,hN,hfv,hn0,hn1,hf⟩ a hs;(replace hm:=gainE hm hf hN);(clear hf hN);(try simp only[List.cons_append,List.nil_append,List.append_assoc]at hm);replace t_:=tX t_;refine⟨(hm.sub sub_),?_⟩)|(refine tD t_ ?_;(exact And.intro rfl ⟨f,R',n,b,hfo,hfv,(sb_ hs),hm⟩))|fail)
  clear hs hm a
  rintro a w ⟨f,R',n,b,hfo,hfv,hs,hm⟩
  refine gcShj1_ ?_;clear hs hm a;intros;rename_i a hm hs
  refine cDrawT (n:=5) (.s [0,1]<| .o 2<| .o 3<| .t 4<| .d) [⟨some g11,175,[.int .u8 0,.int .u16 (IntKind.u16.wrap (failF n b)),.int .i64 0,.int .i64 0,.slice none 0 0,.int .i64 (-1),.bool false]⟩,⟨some g7,81,[.slice y.ck.A y.ck.xs.length y.ck.c,.slice y.rn.A y.rn.xs.length y.rn.c,.slice y.ins.A y.ins.qs.length y.ins.c,.slice y.f.dA y.f.ds.length y.f.dc,.slice y.f.oA y.f.os.length y.f.oc,.slice f.A f.us.length f.c]⟩] hm rfl rfl ?_
  clear hm;intro t_ w1_ hm
  repeat' (first|(refine dg7dd6_ ?_;clear t_ hs hm a;intros;rename_i a hm hs t_)|refine tE t_ ?_|refine tC ?_ ?_|exact tN|intro t_|(refine tD t_ ?_;(refine gsab4d_ ?_;clear hs hm a;intros;rename_i a hm hs);(exact gRetN tab hs rfl (.cons (.cells rfl rfl rfl rfl (hm.ro (k:=0) (n:=6) (g:=g4) mem_ (cutF_ok rfl))) (.cons (.cells rfl rfl rfl rfl (hm.ro (k:=0) (n:=7) (g:=g5) mem_ (cutF_ok rfl))) (.cons (.tmp rfl) .nil))) ⟨{y with us:=f},valR n b,R++R',rfl,hyo.set_us hfo,valR_on _ b _,hm.new sub_,hyv.set_us hfv,valR_fit _ b,rfl,rfl,hm.fr⟩))|fail)
theorem do_g2 [HB](x:OV)(r:RqV)(wB:World)(hx:x.ok wB)(h:x.val)(hr:r.ok wB)(hrv:r.val)(hrk:r.kin)(hst:r.stop=1)(ha:r.call=2∨r.call=14):Ret Tryz.prog 125 [x.v,r.v] wB (fun u w'=>∃(y:OV)(z:RsV)(R:List Hp),u= .tuple #[y.v,z.v,.int .i64 0]∧On R y.ok∧On R z.ok∧New wB w' R∧y.val∧z.fit∧z.spawn=-1∧z.wait=false∧Pu wB w'):=by
 have kv:=fun w'' (hf:Pu wB w'')=>oval_c x w'' (hx.pu hf) h
 have kq:=fun w'' (hf:Pu wB w'')=>rqval_c r w'' (hr.pu hf) hrv
 have kk:=fun w'' (hf:Pu wB w'')=>rkin_c r w'' (hr.pu hf) hrk
 have kc:=fun w'' (hf:Pu wB w'')=>ocpy_c x w'' (hx.pu hf) h
 obtain⟨th,stop,trap,cnt,pc,call,ra,rd⟩:=r
 dsimp only at hst ha
 subst hst
 have ka:=fun w''=>acts_c call w'' (by unfold actsF;omega)
 have kb:=fun w''=>buf_c call w'' (by omega)
 have hbf:bufF call=2:=by rcases ha with rfl|rfl<;>rfl
 rw[hbf]at kb
 have kvl:∀(n:Int)(b:Bool)(w'':World),Ret Tryz.prog 123 [.int .i64 n,.bool b] w'' (fun u w'=>u= .agg #[.int .u8 0,.int .u16 (IntKind.u16.wrap (failF n b)),.int .i64 0,.int .i64 0,.slice none 0 0,.int .i64 (-1),.bool false]∧Pu w'' w'):=fun n b w''=>vlu_c n b w''
 have hra:Rd wB wB.heap.size ra.A (cns ra.xs):=hr.a
 have hrdo:rd.ok wB:=hr.d
 have hrdn:rd.xs.length≤16:=hrv.d
 have hrdv:∀c∈rd.xs,c.val:=hrv.dv
 have hav:∀c∈ra.xs,c.val:=hrv.av
 have hal:ra.xs.length=3:=by rcases ha with rfl|rfl<;>exact hrk.n
 unfold RqV.v at kq kk ⊢
 unfold OV.v at kv kc ⊢
 dsimp only at kq kk ⊢
 obtain⟨b1,o1,hA,hb1,r1⟩:=hra.ro (by rw[cns_len];omega)
 have r2:=r1.flat CN.cs_len (show 2<ra.xs.length by omega)
 have hv2':∀c,ra.xs[2]?=some c→c.v≤16:=hrk.b hbf
 have hv2:(ra.xs[2]'(by omega)).v≤16:=hv2' _ (List.getElem?_eq_getElem (by omega))
 unfold CN.cs at r2
 rw[hA]at kq kk ⊢
 refine enterR Tryz.func125 rfl rfl rfl fun a hs hm=>?_
 refine gcShj0_ ?_;clear hs hm a;intros;rename_i a hm hs
 obtain⟨g2,rfl⟩:=hs.pp 2
 obtain⟨g3,rfl⟩:=hs.pp 3
 obtain⟨g4,rfl⟩:=hs.pp 4
 obtain⟨g5,rfl⟩:=hs.pp 5
 refine st hs rfl rfl rfl (d_call hs rfl rfl rfl (pl 85 rfl) ((kc _ hm.fr))) ?_;clear hs a;rintro _ w1 ⟨y,R,rfl,hyo,hN,hyv,hyc,hyr,hf⟩ a hs
 replace hm:=gainE hm hf hN
 clear hN hf kc kv kq kk
 simp only[List.cons_append,List.nil_append]at hm
 refine gsab4d_ ?_;clear hs hm a;intros;rename_i a hm hs
 obtain⟨g7,rfl⟩:=hs.pp 7
 obtain⟨ga,rfl⟩:=hs.qq 8
 refine cMidE (.exit 0) (fun a w=>∃a0 a1 a2:Int,(∀(i:Nat) c,ra.xs[i]?=some c→[a0,a1,a2][i]?=some c.v)∧(∀v∈ [a0,a1,a2],0≤v∧v≤65535)∧Sl Tryz.f125.ntmps [(2,.pointer (some ⟨g2,0,none⟩)),(3,.pointer (some ⟨g3,0,none⟩)),(4,.pointer (some ⟨g4,0,none⟩)),(5,.pointer (some ⟨g5,0,none⟩)),(7,.pointer (some ⟨g7,0,none⟩)),(8,.slice (some ⟨ga,0,none⟩) 3 3)] a∧Mm (fun _=>False) wB (⟨some ga,3,[.int .i64 a0,.int .i64 a1,.int .i64 a2]⟩::⟨some g7,81,[.slice y.ck.A y.ck.xs.length y.ck.c,.slice y.rn.A y.rn.xs.length y.rn.c,.slice y.ins.A y.ins.qs.length y.ins.c,.slice y.f.dA y.f.ds.length y.f.dc,.slice y.f.oA y.f.os.length y.f.oc,.slice y.us.A y.us.us.length y.us.c]⟩::⟨some g5,175,[.int .u8 0,.int .u16 0,.int .i64 0,.int .i64 0,.slice none 0 0,.int .i64 0,.bool false]⟩::⟨some g4,81,[.slice none 0 0,.slice none 0 0,.slice none 0 0,.slice none 0 0,.slice none 0 0,.slice none 0 0]⟩::⟨some g3,173,[.int .i64 th,.int .i64 1,.int .i64 trap,.int .i64 cnt,.int .i64 pc,.int .i64 call,.slice (some ⟨b1,o1,none⟩) ra.xs.length ra.c,.slice rd.A rd.xs.length rd.c]⟩::⟨some g2,81,[.slice x.ck.A x.ck.xs.length x.ck.c,.slice x.rn.A x.rn.xs.length x.rn.c,.slice x.ins.A x.ins.qs.length x.ins.c,.slice x.f.dA x.f.ds.length x.f.dc,.slice x.f.oA x.f.os.length x.f.oc,.slice x.us.A x.us.us.length x.us.c]⟩::R) w) ?_ ?_
 ·refine cLoop (X:=DoX) (fun X a w=>X.k≤ra.xs.length∧X.l.length=3∧(∀(i:Nat) c,i<X.k→ra.xs[i]?=some c→X.l[i]?=some c.v)∧(∀v∈X.l,0≤v∧v≤65535)∧Sl Tryz.f125.ntmps [(2,.pointer (some ⟨g2,0,none⟩)),(3,.pointer (some ⟨g3,0,none⟩)),(4,.pointer (some ⟨g4,0,none⟩)),(5,.pointer (some ⟨g5,0,none⟩)),(7,.pointer (some ⟨g7,0,none⟩)),(8,.slice (some ⟨ga,0,none⟩) 3 3),(74,.slice (some ⟨b1,o1,none⟩) ra.xs.length ra.c),(75,.int .i64 (ra.xs.length:Int)),(76,.int .i64 (X.k:Int))] a∧Mm (fun _=>False) wB (⟨some ga,3,ints X.l⟩::⟨some g7,81,[.slice y.ck.A y.ck.xs.length y.ck.c,.slice y.rn.A y.rn.xs.length y.rn.c,.slice y.ins.A y.ins.qs.length y.ins.c,.slice y.f.dA y.f.ds.length y.f.dc,.slice y.f.oA y.f.os.length y.f.oc,.slice y.us.A y.us.us.length y.us.c]⟩::⟨some g5,175,[.int .u8 0,.int .u16 0,.int .i64 0,.int .i64 0,.slice none 0 0,.int .i64 0,.bool false]⟩::⟨some g4,81,[.slice none 0 0,.slice none 0 0,.slice none 0 0,.slice none 0 0,.slice none 0 0,.slice none 0 0]⟩::⟨some g3,173,[.int .i64 th,.int .i64 1,.int .i64 trap,.int .i64 cnt,.int .i64 pc,.int .i64 call,.slice (some ⟨b1,o1,none⟩) ra.xs.length ra.c,.slice rd.A rd.xs.length rd.c]⟩::⟨some g2,81,[.slice x.ck.A x.ck.xs.length x.ck.c,.slice x.rn.A x.rn.xs.length x.rn.c,.slice x.ins.A x.ins.qs.length x.ins.c,.slice x.f.dA x.f.ds.length x.f.dc,.slice x.f.oA x.f.os.length x.f.oc,.slice x.us.A x.us.us.length x.us.c]⟩::R) w) (fun X=>ra.xs.length-X.k) ⟨0,[0,0,0]⟩ ⟨Nat.zero_le _,rfl,(fun i c hi=>absurd hi (Nat.not_lt_zero _)),(fun v hv=>by simp at hv;omega),(sb_ hs),hm⟩ ?_
  clear hs hm a
  rintro⟨k,l⟩ a w ⟨hk,hl3,hl,hlv,hs,hm⟩
  dsimp only at hk hl3 hl hlv hs hm
  by_cases hlt:k<ra.xs.length
  ·obtain⟨b4,o4,hA4,hb4,r4⟩:=hra.ro (by rw[cns_len];omega)
   rw[hA]at hA4
   obtain⟨rfl,rfl⟩:b1=b4∧o1=o4:=by simpa using hA4
   have r3:=r4.flat CN.cs_len hlt
   have hcv:=hav _ (List.getElem_mem hlt)
   have hcx:ra.xs[k]?=some ra.xs[k]:=List.getElem?_eq_getElem hlt
   generalize ra.xs[k]=q at r3 hcv hcx
   unfold CN.cs at r3
   have hw:IntKind.i64.wrap q.v=q.v:=wrap_idP (by have:=hcv.v;omega)
   have hll:(ints l).length=3:=by rw[ints_len,hl3]
   refine gsab4d_ ?_;clear hs hm a;intros;rename_i a hm hs
   rw[hw]at hm
   refine⟨⟨k+1,l.set k q.v⟩,by dsimp only;omega,by dsimp only;omega,by dsimp only;rw[List.length_set];exact hl3,fun i c hi hc=>?_,fun v hv=>?_,(sb_ hs),?_⟩
   ·dsimp only at hi ⊢
    by_cases hik:i=k
    ·subst hik
     rw[hcx]at hc
     obtain rfl:=Option.some.inj hc
     exact List.getElem?_set_self (by omega)
    ·rw[List.getElem?_set_ne (fun e=>hik e.symm)]
     exact hl i c (by omega) hc
   ·dsimp only at hv
    rcases List.mem_or_eq_of_mem_set hv with hv|rfl
    ·exact hlv v hv
    ·exact hcv.v
   ·dsimp only
    rw[show ints (l.set k q.v)=(ints l).set k (.int .i64 q.v)from List.map_set]
    exact hm.sub sub_
  ·obtain rfl:k=ra.xs.length:=by omega
   obtain⟨a0,a1,a2,rfl⟩:=three hl3
   refine gsab4d_ ?_;clear hs hm a;intros;rename_i a hm hs
   exact And.intro rfl ⟨a0,a1,a2,fun i c hc=>hl i c (List.getElem?_eq_some_iff.1 hc).1 hc,hlv,(sb_ hs),hm⟩
 clear hs hm a
 rintro a w ⟨a0,a1,a2,hargs,hargv,hs,hm⟩
 have hb0:=hargv a0 (by simp)
 have hb1':=hargv a1 (by simp)
 have hb2':=hargv a2 (by simp)
 refine gcShj1_ ?_;clear hs hm a;intros;rename_i a hm hs
 obtain⟨g11,rfl⟩:=hs.pp 11
 replace hm:=hm.sub (M':=⟨some g11,175,[.int .u8 0,.int .u16 (IntKind.u16.wrap (failF 0 false)),.int .i64 0,.int .i64 0,.slice none 0 0,.int .i64 (-1),.bool false]⟩::⟨some ga,3,[.int .i64 a0,.int .i64 a1,.int .i64 a2]⟩::⟨some g7,81,[.slice y.ck.A y.ck.xs.length y.ck.c,.slice y.rn.A y.rn.xs.length y.rn.c,.slice y.ins.A y.ins.qs.length y.ins.c,.slice y.f.dA y.f.ds.length y.f.dc,.slice y.f.oA y.f.os.length y.f.oc,.slice y.us.A y.us.us.length y.us.c]⟩::⟨some g5,175,[.int .u8 0,.int .u16 0,.int .i64 0,.int .i64 0,.slice none 0 0,.int .i64 0,.bool false]⟩::⟨some g4,81,[.slice none 0 0,.slice none 0 0,.slice none 0 0,.slice none 0 0,.slice none 0 0,.slice none 0 0]⟩::⟨some g3,173,[.int .i64 th,.int .i64 1,.int .i64 trap,.int .i64 cnt,.int .i64 pc,.int .i64 call,.slice (some ⟨b1,o1,none⟩) ra.xs.length ra.c,.slice rd.A rd.xs.length rd.c]⟩::⟨some g2,81,[.slice x.ck.A x.ck.xs.length x.ck.c,.slice x.rn.A x.rn.xs.length x.rn.c,.slice x.ins.A x.ins.qs.length x.ins.c,.slice x.f.dA x.f.ds.length x.f.dc,.slice x.f.oA x.f.os.length x.f.oc,.slice x.us.A x.us.us.length x.us.c]⟩::R) sub_
 rcases ha with rfl|rfl
 ·refine gsab4d_ ?_;clear hs hm a;intros;rename_i a hm hs
  have kf:=fun w'' (hf:Pu wB w'')=>fread_c x.f a0 a2 w'' (hx.pu hf).f h.f
  unfold FV.v CnS.v at kf
  refine cMid (fun a w=>∃(f:FV)(R':List Hp)(gf:Nat)(l:CnS)(b:Bool),On R' f.ok∧f.d'.val∧On R' l.ok∧(∀c∈l.xs,c.val)∧(l.xs.length:Int)≤max 0 a2∧Sl Tryz.f125.ntmps [(2,.pointer (some ⟨g2,0,none⟩)),(3,.pointer (some ⟨g3,0,none⟩)),(4,.pointer (some ⟨g4,0,none⟩)),(5,.pointer (some ⟨g5,0,none⟩)),(7,.pointer (some ⟨g7,0,none⟩)),(8,.slice (some ⟨ga,0,none⟩) 3 3),(11,.pointer (some ⟨g11,0,none⟩)),(15,.pointer (some ⟨gf,0,none⟩)),(16,.slice l.A l.xs.length l.c),(17,.bool b)] a∧Mm (fun _=>False) wB (⟨some gf,78,[.slice f.dA f.ds.length f.dc,.slice f.oA f.os.length f.oc]⟩::⟨some g11,175,[.int .u8 0,.int .u16 (IntKind.u16.wrap (failF 0 false)),.int .i64 0,.int .i64 0,.slice none 0 0,.int .i64 (-1),.bool false]⟩::⟨some ga,3,[.int .i64 a0,.int .i64 a1,.int .i64 a2]⟩::⟨some g7,81,[.slice y.ck.A y.ck.xs.length y.ck.c,.slice y.rn.A y.rn.xs.length y.rn.c,.slice y.ins.A y.ins.qs.length y.ins.c,.slice y.f.dA y.f.ds.length y.f.dc,.slice y.f.oA y.f.os.length y.f.oc,.slice y.us.A y.us.us.length y.us.c]⟩::⟨some g5,175,[.int .u8 0,.int .u16 0,.int .i64 0,.int .i64 0,.slice none 0 0,.int .i64 0,.bool false]⟩::⟨some g4,81,[.slice none 0 0,.slice none 0 0,.slice none 0 0,.slice none 0 0,.slice none 0 0,.slice none 0 0]⟩::⟨some g3,173,[.int .i64 th,.int .i64 1,.int .i64 trap,.int .i64 cnt,.int .i64 pc,.int .i64 2,.slice (some ⟨b1,o1,none⟩) ra.xs.length ra.c,.slice rd.A rd.xs.length rd.c]⟩::⟨some g2,81,[.slice x.ck.A x.ck.xs.length x.ck.c,.slice x.rn.A x.rn.xs.length x.rn.c,.slice x.ins.A x.ins.qs.length x.ins.c,.slice x.f.dA x.f.ds.length x.f.dc,.slice x.f.oA x.f.os.length x.f.oc,.slice x.us.A x.us.us.length x.us.c]⟩::(R++R')) w) ?_ ?_
  ·with_reducible repeat(first|apply gThen|apply wp_seq)
   refine cDrawT (n:=17) (.s [0,1,2,3,4,5,6,7]<| .e [(8,.x<| .s [9,10,11,12]<| .o 13<| .o 14<| .s [15,16]<| .d),(13,.o 8<| .x<| .s [9,10,11,12]<| .o 14<| .s [15,16]<| .d)]) [⟨some ga,3,[.int .i64 a0,.int .i64 a1,.int .i64 a2]⟩,⟨some g3,173,[.int .i64 th,.int .i64 1,.int .i64 trap,.int .i64 cnt,.int .i64 pc,.int .i64 2,.slice (some ⟨b1,o1,none⟩) ra.xs.length ra.c,.slice rd.A rd.xs.length rd.c]⟩,⟨some g2,81,[.slice x.ck.A x.ck.xs.length x.ck.c,.slice x.rn.A x.rn.xs.length x.rn.c,.slice x.ins.A x.ins.qs.length x.ins.c,.slice x.f.dA x.f.ds.length x.f.dc,.slice x.f.oA x.f.os.length x.f.oc,.slice x.us.A x.us.us.length x.us.c]⟩] hm rfl rfl ?_
   clear hm;intro t_ w1_ hm
   repeat' (first|(refine dg7dd6_ ?_;clear t_ hs hm a;intros;rename_i a hm hs t_)|refine tE t_ ?_|refine tC ?_ ?_|exact tN|intro t_|(refine oDo (i:=8) hs rfl (Wnt.none rfl) rfl rfl (by exact d_call hs rfl rfl rfl (pl 133 rfl) ((kf _ hm.fr))) ?_;clear hs;rintro _ w1 ⟨f,l,b,R',rfl,hfo,hlo,hN,hfv,hlv,hl64,hln,hf⟩ a hs;(replace hm:=gainE hm hf hN);(clear hf hN);(try simp only[List.cons_append,List.nil_append,List.append_assoc]at hm);replace t_:=tX t_;refine⟨(hm.sub sub_),?_⟩)|(refine tD t_ ?_;(obtain⟨gf,rfl⟩:=hs.pp 15);(exact And.intro rfl ⟨f,R',gf,l,b,hfo,hfv,hlo,hlv,hln,(sb_ hs),hm⟩))|fail)
  clear hs hm a
  rintro a w ⟨f,R',gf,l,b,hfo,hfv,hlo,hlv,hln,hs,hm⟩
  refine cMid (fun a w=>Sl Tryz.f125.ntmps [(4,.pointer (some ⟨g4,0,none⟩)),(5,.pointer (some ⟨g5,0,none⟩)),(7,.pointer (some ⟨g7,0,none⟩)),(11,.pointer (some ⟨g11,0,none⟩))] a∧Mm (fun _=>False) wB (⟨some g11,175,[.int .u8 0,.int .u16 (IntKind.u16.wrap (failF (l.xs.length:Int) b)),.int .i64 0,.int .i64 0,.slice l.A l.xs.length l.c,.int .i64 (-1),.bool false]⟩::⟨some g7,81,[.slice y.ck.A y.ck.xs.length y.ck.c,.slice y.rn.A y.rn.xs.length y.rn.c,.slice y.ins.A y.ins.qs.length y.ins.c,.slice f.dA f.ds.length f.dc,.slice f.oA f.os.length f.oc,.slice y.us.A y.us.us.length y.us.c]⟩::⟨some g5,175,[.int .u8 0,.int .u16 0,.int .i64 0,.int .i64 0,.slice none 0 0,.int .i64 0,.bool false]⟩::⟨some g4,81,[.slice none 0 0,.slice none 0 0,.slice none 0 0,.slice none 0 0,.slice none 0 0,.slice none 0 0]⟩::(R++R')) w) ?_ ?_
  ·with_reducible repeat(first|apply gThen|apply wp_seq)
   refine cDrawT (n:=8) (.s [0,1,2,3,5]<| .o 4<| .x<| .o 6<| .o 7<| .d) [⟨some gf,78,[.slice f.dA f.ds.length f.dc,.slice f.oA f.os.length f.oc]⟩] hm rfl rfl ?_
   clear hm;intro t_ w1_ hm
   repeat' (first|(refine dg7dd6_ ?_;clear t_ hs hm a;intros;rename_i a hm hs t_)|refine tE t_ ?_|refine tC ?_ ?_|exact tN|intro t_|(refine oDo (i:=4) hs rfl (Wnt.none rfl) rfl rfl (by exact d_call hs rfl rfl rfl (pl 123 rfl) ((kvl _ _ _))) ?_;clear hs;rintro _ w1 ⟨rfl,hf⟩ a hs;(replace hm:=hm.pu hf);(clear hf);replace t_:=tX t_;refine⟨(hm.sub sub_),?_⟩)|(refine tD t_ ?_;(refine gsab4d_ ?_;clear hs hm a;intros;rename_i a hm hs);(exact And.intro rfl ⟨(sb_ hs),hm.sub sub_⟩))|fail)
  clear hs hm a
  rintro a w ⟨hs,hm⟩
  refine gsab4d_ ?_;clear hs hm a;intros;rename_i a hm hs
  have ha2:a2=(ra.xs[2]'(by omega)).v:=Option.some.inj (hargs 2 _ (List.getElem?_eq_getElem (by omega)))
  refine cDrawT (n:=5) (.s [0,1]<| .o 2<| .o 3<| .t 4<| .d) [⟨some g11,175,[.int .u8 0,.int .u16 (IntKind.u16.wrap (failF (l.xs.length:Int) b)),.int .i64 0,.int .i64 0,.slice l.A l.xs.length l.c,.int .i64 (-1),.bool false]⟩,⟨some g7,81,[.slice y.ck.A y.ck.xs.length y.ck.c,.slice y.rn.A y.rn.xs.length y.rn.c,.slice y.ins.A y.ins.qs.length y.ins.c,.slice f.dA f.ds.length f.dc,.slice f.oA f.os.length f.oc,.slice y.us.A y.us.us.length y.us.c]⟩] hm rfl rfl ?_
  clear hm;intro t_ w1_ hm
  repeat' (first|(refine dg7dd6_ ?_;clear t_ hs hm a;intros;rename_i a hm hs t_)|refine tE t_ ?_|refine tC ?_ ?_|exact tN|intro t_|(refine tD t_ ?_;(refine gsab4d_ ?_;clear hs hm a;intros;rename_i a hm hs);(exact gRetN tab hs rfl (.cons (.cells rfl rfl rfl rfl (hm.ro (k:=0) (n:=6) (g:=g4) mem_ (cutF_ok rfl))) (.cons (.cells rfl rfl rfl rfl (hm.ro (k:=0) (n:=7) (g:=g5) mem_ (cutF_ok rfl))) (.cons (.tmp rfl) .nil))) ⟨{y with f:=f},{valR (l.xs.length:Int) b with d:=l},R++R',rfl,hyo.set_f hfo,hlo.more (fun _ hh=>List.mem_append_right _ hh),hm.new sub_,hyv.set_f hfv,⟨(valR_fit _ b).v,by dsimp only;omega,hlv,(valR_fit 0 b).sp⟩,rfl,rfl,hm.fr⟩))|fail)
 ·refine gsab4d_ ?_;clear hs hm a;intros;rename_i a hm hs
  have kf:=fun w'' (hf:Pu wB w'')=>recv_c x.ins a0 a2 w'' (hx.pu hf).ins h.ins
  unfold InL.v CnS.v at kf
  refine cMid (fun a w=>∃(f:InL)(R':List Hp)(l:CnS)(b:Bool),On R' f.ok∧On R' l.ok∧f.val∧(∀c∈l.xs,c.val)∧(l.xs.length:Int)≤max 0 a2∧Sl Tryz.f125.ntmps [(2,.pointer (some ⟨g2,0,none⟩)),(3,.pointer (some ⟨g3,0,none⟩)),(4,.pointer (some ⟨g4,0,none⟩)),(5,.pointer (some ⟨g5,0,none⟩)),(7,.pointer (some ⟨g7,0,none⟩)),(8,.slice (some ⟨ga,0,none⟩) 3 3),(11,.pointer (some ⟨g11,0,none⟩)),(27,.slice f.A f.qs.length f.c),(28,.slice l.A l.xs.length l.c),(29,.bool b)] a∧Mm (fun _=>False) wB (⟨some g11,175,[.int .u8 0,.int .u16 (IntKind.u16.wrap (failF 0 false)),.int .i64 0,.int .i64 0,.slice none 0 0,.int .i64 (-1),.bool false]⟩::⟨some ga,3,[.int .i64 a0,.int .i64 a1,.int .i64 a2]⟩::⟨some g7,81,[.slice y.ck.A y.ck.xs.length y.ck.c,.slice y.rn.A y.rn.xs.length y.rn.c,.slice y.ins.A y.ins.qs.length y.ins.c,.slice y.f.dA y.f.ds.length y.f.dc,.slice y.f.oA y.f.os.length y.f.oc,.slice y.us.A y.us.us.length y.us.c]⟩::⟨some g5,175,[.int .u8 0,.int .u16 0,.int .i64 0,.int .i64 0,.slice none 0 0,.int .i64 0,.bool false]⟩::⟨some g4,81,[.slice none 0 0,.slice none 0 0,.slice none 0 0,.slice none 0 0,.slice none 0 0,.slice none 0 0]⟩::⟨some g3,173,[.int .i64 th,.int .i64 1,.int .i64 trap,.int .i64 cnt,.int .i64 pc,.int .i64 14,.slice (some ⟨b1,o1,none⟩) ra.xs.length ra.c,.slice rd.A rd.xs.length rd.c]⟩::⟨some g2,81,[.slice x.ck.A x.ck.xs.length x.ck.c,.slice x.rn.A x.rn.xs.length x.rn.c,.slice x.ins.A x.ins.qs.length x.ins.c,.slice x.f.dA x.f.ds.length x.f.dc,.slice x.f.oA x.f.os.length x.f.oc,.slice x.us.A x.us.us.length x.us.c]⟩::(R++R')) w) ?_ ?_
  ·with_reducible repeat(first|apply gThen|apply wp_seq)
   refine cDrawT (n:=16) (.s [0,1,2,3,4,5,6,7]<| .o 8<| .x<| .s [9,10,11,12,13,14,15]<| .d) [⟨some ga,3,[.int .i64 a0,.int .i64 a1,.int .i64 a2]⟩,⟨some g3,173,[.int .i64 th,.int .i64 1,.int .i64 trap,.int .i64 cnt,.int .i64 pc,.int .i64 14,.slice (some ⟨b1,o1,none⟩) ra.xs.length ra.c,.slice rd.A rd.xs.length rd.c]⟩,⟨some g2,81,[.slice x.ck.A x.ck.xs.length x.ck.c,.slice x.rn.A x.rn.xs.length x.rn.c,.slice x.ins.A x.ins.qs.length x.ins.c,.slice x.f.dA x.f.ds.length x.f.dc,.slice x.f.oA x.f.os.length x.f.oc,.slice x.us.A x.us.us.length x.us.c]⟩] hm rfl rfl ?_
   clear hm;intro t_ w1_ hm
   repeat' (first|(refine dg7dd6_ ?_;clear t_ hs hm a;intros;rename_i a hm hs t_)|refine tE t_ ?_|refine tC ?_ ?_|exact tN|intro t_|(refine oDo (i:=8) hs rfl (Wnt.none rfl) rfl rfl (by exact d_call hs rfl rfl rfl (pl 138 rfl) ((kf _ hm.fr))) ?_;clear hs;rintro _ w1 ⟨f,l,b,R',rfl,hfo,hlo,hN,hfv,hlv,hl64,hln,hf⟩ a hs;(replace hm:=gainE hm hf hN);(clear hf hN);(try simp only[List.cons_append,List.nil_append,List.append_assoc]at hm);replace t_:=tX t_;refine⟨(hm.sub sub_),?_⟩)|(refine tD t_ ?_;(exact And.intro rfl ⟨f,R',l,b,hfo,hlo,hfv,hlv,hln,(sb_ hs),hm⟩))|fail)
  clear hs hm a
  rintro a w ⟨f,R',l,b,hfo,hlo,hfv,hlv,hln,hs,hm⟩
  refine gcShj1_ ?_;clear hs hm a;intros;rename_i a hm hs
  have ha2:a2=(ra.xs[2]'(by omega)).v:=Option.some.inj (hargs 2 _ (List.getElem?_eq_getElem (by omega)))
  refine cDrawT (n:=5) (.s [0,1]<| .o 2<| .o 3<| .t 4<| .d) [⟨some g11,175,[.int .u8 0,.int .u16 (IntKind.u16.wrap (failF (l.xs.length:Int) b)),.int .i64 0,.int .i64 0,.slice l.A l.xs.length l.c,.int .i64 (-1),.bool false]⟩,⟨some g7,81,[.slice y.ck.A y.ck.xs.length y.ck.c,.slice y.rn.A y.rn.xs.length y.rn.c,.slice f.A f.qs.length f.c,.slice y.f.dA y.f.ds.length y.f.dc,.slice y.f.oA y.f.os.length y.f.oc,.slice y.us.A y.us.us.length y.us.c]⟩] hm rfl rfl ?_
  clear hm;intro t_ w1_ hm
  repeat' (first|(refine dg7dd6_ ?_;clear t_ hs hm a;intros;rename_i a hm hs t_)|refine tE t_ ?_|refine tC ?_ ?_|exact tN|intro t_|(refine tD t_ ?_;(refine gsab4d_ ?_;clear hs hm a;intros;rename_i a hm hs);(exact gRetN tab hs rfl (.cons (.cells rfl rfl rfl rfl (hm.ro (k:=0) (n:=6) (g:=g4) mem_ (cutF_ok rfl))) (.cons (.cells rfl rfl rfl rfl (hm.ro (k:=0) (n:=7) (g:=g5) mem_ (cutF_ok rfl))) (.cons (.tmp rfl) .nil))) ⟨{y with ins:=f},{valR (l.xs.length:Int) b with d:=l},R++R',rfl,hyo.set_ins hfo,hlo.more (fun _ hh=>List.mem_append_right _ hh),hm.new sub_,hyv.set_ins hfv,⟨(valR_fit _ b).v,by dsimp only;omega,hlv,(valR_fit 0 b).sp⟩,rfl,rfl,hm.fr⟩))|fail)
theorem do_c [HB](x:OV)(r:RqV)(wB:World)(hx:x.ok wB)(h:x.val)(hr:r.ok wB)(hrv:r.val)(hrk:r.kin)(hst:r.stop=1)(ha:actsF r.call):Ret Tryz.prog 125 [x.v,r.v] wB (fun u w'=>∃(y:OV)(z:RsV)(R:List Hp),u= .tuple #[y.v,z.v,.int .i64 0]∧On R y.ok∧On R z.ok∧New wB w' R∧y.val∧z.fit∧z.spawn=-1∧z.wait=false∧Pu wB w'):=by
 have hc:r.call=1∨r.call=2∨r.call=3∨r.call=4∨r.call=5∨r.call=6∨r.call=7∨r.call=13∨r.call=14:=by unfold actsF at ha;omega
 rcases hc with e|e|e|e|e|e|e|e|e
 ·exact do_g1 x r wB hx h hr hrv hrk hst (by omega)
 ·exact do_g2 x r wB hx h hr hrv hrk hst (by omega)
 ·exact zc137_
 ·exact zc137_
 ·exact zc137_
 ·exact zc137_
 ·exact zc137_
 ·exact do_g1 x r wB hx h hr hrv hrk hst (by omega)
 ·exact do_g2 x r wB hx h hr hrv hrk hst (by omega)
def newA:Ab:=⟨List.replicate 4 (-1),List.replicate 4 []⟩
def nilS:IS:=⟨none,0,0,[]⟩
theorem nilS_ok(w:World):nilS.ok w:=⟨rfl,fun h=>by cases h⟩
structure VA(a:Ab):Prop where
 o:a.os.length=4
 q:a.qs.length=4
 ob:∀v∈a.os,-1≤v∧v<4
 e:∀i,i<4→a.os.getD i 0=-1→a.qs.getD i []=[]
 qb:∀q∈a.qs,∀t∈q,0≤t∧t<4
 ne:∀i t,i<4→t∈a.qs.getD i []→t≠a.os.getD i 0
 nd:a.qs.flatten.Nodup
theorem nd_len:∀(n:Nat)(l:List Int),l.Nodup→(∀t∈l,0≤t∧t<(n:Int))→l.length≤n
 |0,[],_,_=>Nat.le_refl _
 |0,x::l,_,h=>by have:=h x (List.mem_cons_self ..);omega
 |n+1,l,hn,h=>by
  by_cases hm:(n:Int)∈l
  ·have h1:=nd_len n (l.erase (n:Int)) (hn.erase _) fun t ht=>by
    have h2:=h t (List.mem_of_mem_erase ht)
    have h3:t≠(n:Int):=fun e=>(hn.not_mem_erase) (e▸ht)
    omega
   rw[List.length_erase_of_mem hm]at h1
   omega
  ·have h1:=nd_len n l hn fun t ht=>by
    have h2:=h t ht
    have h3:t≠(n:Int):=fun e=>hm (e▸ht)
    omega
   omega
theorem VA.len{a:Ab}(h:VA a):∀q∈a.qs,q.length≤4:=fun q hq=>by
 have h1:=nd_len 4 a.qs.flatten h.nd fun t ht=>by
  obtain⟨q',hq',ht'⟩:=List.mem_flatten.1 ht
  exact h.qb q' hq' t ht'
 have h2:q.length≤a.qs.flatten.length:=(List.sublist_flatten_of_mem hq).length_le
 omega
theorem VA.sh{a:Ab}(h:VA a):a.sh:=⟨h.o,h.q,fun q hq=>by have:=h.len q hq;omega⟩
theorem getD_set{l:List Int}{i j:Nat}{v:Int}(hi:i<l.length):(l.set i v).getD j 0=if i=j then v else l.getD j 0:=by
 simp only[List.getD_eq_getElem?_getD,List.getElem?_set]
 by_cases h:i=j
 ·subst h;simp[hi]
 ·simp[h]
theorem getQ_set{l:List (List Int)}{i j:Nat}{v:List Int}(hi:i<l.length):(l.set i v).getD j []=if i=j then v else l.getD j []:=by
 simp only[List.getD_eq_getElem?_getD,List.getElem?_set]
 by_cases h:i=j
 ·subst h;simp[hi]
 ·simp[h]
theorem getQ{l:List (List Int)}{k:Nat}(h:k<l.length):l.getD k []=l[k]:=by rw[List.getD_eq_getElem?_getD,List.getElem?_eq_getElem h];rfl
theorem flatQ_set{qs:List (List Int)}{k:Nat}(h:k<qs.length)(q:List Int):(qs.set k q).flatten=(qs.take k).flatten++(q++(qs.drop (k+1)).flatten):=by
 rw[List.set_eq_take_append_cons_drop,if_pos h,List.flatten_append,List.flatten_cons]
theorem flatQ_at{qs:List (List Int)}{k:Nat}(h:k<qs.length):qs.flatten=(qs.take k).flatten++(qs[k]++(qs.drop (k+1)).flatten):=by
 have:=flatQ_set h qs[k]
 rwa[List.set_getElem_self]at this
theorem wt_mem{a:Ab}{t:Int}(h:a.wt t=false):∀q∈a.qs,t∉q:=fun q hq ht=>by
 unfold Ab.wt at h
 have:=List.any_eq_false.1 h q hq
 exact this (by rw[List.any_eq_true];exact⟨t,ht,by simp⟩)
theorem newA_va:VA newA:=by
 refine⟨rfl,rfl,fun v hv=>?_,fun i hi _=>?_,fun q hq t ht=>?_,fun i t hi ht=>?_,?_⟩
 ·rw[List.eq_of_mem_replicate hv];omega
 ·unfold newA
  rcases(by omega:i=0∨i=1∨i=2∨i=3)with rfl|rfl|rfl|rfl<;>rfl
 ·rw[List.eq_of_mem_replicate hq]at ht;cases ht
 ·have:newA.qs.getD i []=[]:=by
   unfold newA
   rcases(by omega:i=0∨i=1∨i=2∨i=3)with rfl|rfl|rfl|rfl<;>rfl
  rw[this]at ht;cases ht
 ·show(List.replicate 4 ([]:List Int)).flatten.Nodup
  exact List.nodup_nil
section
variable {a:Ab} {k:Nat} {t:Int}
theorem set_own_va(h:VA a)(hk:k<4){v:Int}(hv:-1≤v∧v<4)(he:v=-1→a.qs.getD k []=[])(hn:v∉a.qs.getD k []):VA ⟨a.os.set k v,a.qs⟩:=by
 have ho:=h.o
 refine⟨by dsimp only;rw[List.length_set];exact ho,h.q,fun u hu=>?_,fun i hi hi1=>?_,h.qb,fun i u hi hu=>?_,h.nd⟩
 ·rcases List.mem_or_eq_of_mem_set hu with hu|rfl
  ·exact h.ob u hu
  ·exact hv
 ·dsimp only at hi1 ⊢
  rw[getD_set (by omega)]at hi1
  by_cases e:k=i
  ·subst e;rw[if_pos rfl]at hi1;exact he hi1
  ·rw[if_neg e]at hi1;exact h.e i hi hi1
 ·dsimp only at hu ⊢
  rw[getD_set (by omega)]
  by_cases e:k=i
  ·subst e;rw[if_pos rfl];exact fun e=>hn (e▸hu)
  ·rw[if_neg e];exact h.ne i u hi hu
theorem tak_va(h:VA a)(hk:k<4)(ht:0≤t∧t<4):VA (takF a k t).1:=by
 have ho:=h.o
 have hq:=h.q
 unfold takF
 by_cases c1:a.os.getD k 0=t
 ·rw[if_pos c1];exact h
 rw[if_neg c1]
 cases hw:a.wt t
 ·rw[if_neg (by simp)]
  have hnm:=wt_mem hw
  have hkq:k<a.qs.length:=by omega
  by_cases c3:a.os.getD k 0=-1
  ·rw[if_pos c3]
   have he:=h.e k hk c3
   exact set_own_va h hk (by omega) (fun _=>he) (by rw[he];simp)
  ·rw[if_neg c3]
   have hqk:=getQ hkq
   refine⟨ho,by dsimp only;rw[List.length_set];exact hq,h.ob,fun i hi hi1=>?_,fun q hq' u hu=>?_,fun i u hi hu=>?_,?_⟩
   ·dsimp only at hi1 ⊢
    rw[getQ_set hkq]
    by_cases e:k=i
    ·subst e;exact absurd hi1 c3
    ·rw[if_neg e];exact h.e i hi hi1
   ·rcases List.mem_or_eq_of_mem_set hq' with hq'|rfl
    ·exact h.qb q hq' u hu
    ·rcases List.mem_append.1 hu with hu|hu
     ·rw[hqk]at hu;exact h.qb _ (List.getElem_mem _) u hu
     ·rcases List.mem_singleton.1 hu with rfl;exact ht
   ·dsimp only at hu ⊢
    rw[getQ_set hkq]at hu
    by_cases e:k=i
    ·subst e
     rw[if_pos rfl]at hu
     rcases List.mem_append.1 hu with hu|hu
     ·exact h.ne k u hk hu
     ·rcases List.mem_singleton.1 hu with rfl;exact fun e=>c1 e.symm
    ·rw[if_neg e]at hu;exact h.ne i u hi hu
   ·dsimp only
    have hnd:=h.nd
    rw[flatQ_at hkq]at hnd
    rw[flatQ_set hkq,hqk]
    have hp:((a.qs.take k).flatten++((a.qs[k]++[t])++(a.qs.drop (k+1)).flatten)).Perm (t::((a.qs.take k).flatten++(a.qs[k]++(a.qs.drop (k+1)).flatten))):=by
     rw[List.append_assoc a.qs[k],List.singleton_append,←List.append_assoc,←List.append_assoc]
     exact List.perm_middle
    rw[hp.nodup_iff,List.nodup_cons]
    refine⟨fun hm=>?_,hnd⟩
    rw[←flatQ_at hkq]at hm
    obtain⟨q,hq',hm'⟩:=List.mem_flatten.1 hm
    exact hnm q hq' hm'
 ·rw[if_pos rfl];exact h
theorem giv_va(h:VA a)(hk:k<4):VA (givF a k t).1:=by
 have ho:=h.o
 have hq:=h.q
 have hkq:k<a.qs.length:=by omega
 have hqk:=getQ hkq
 unfold givF
 by_cases c1:a.os.getD k 0=t
 ·rw[if_pos c1]
  cases hx:a.qs.getD k []with
  |nil=>exact set_own_va h hk (by omega) (fun _=>hx) (by rw[hx];simp)
  |cons u l=>
   dsimp only
   have hmem:u::l∈a.qs:=by rw[←hx,hqk];exact List.getElem_mem _
   have hub:=h.qb _ hmem u (List.mem_cons_self ..)
   have hnd:=h.nd
   rw[flatQ_at hkq,←hqk,hx]at hnd
   have hul:(u::l).Nodup:=hnd.sublist ((List.sublist_append_left _ _).trans (List.sublist_append_right _ _))
   have h2:VA ⟨a.os,a.qs.set k l⟩:=by
    refine⟨ho,by dsimp only;rw[List.length_set];exact hq,h.ob,fun i hi hi1=>?_,fun q hq' v hv=>?_,fun i v hi hv=>?_,?_⟩
    ·dsimp only at hi1 ⊢
     rw[getQ_set hkq]
     by_cases e:k=i
     ·subst e
      have:=h.e k hk hi1
      rw[hx]at this;cases this
     ·rw[if_neg e];exact h.e i hi hi1
    ·rcases List.mem_or_eq_of_mem_set hq' with hq'|rfl
     ·exact h.qb q hq' v hv
     ·exact h.qb _ hmem v (List.mem_cons_of_mem _ hv)
    ·dsimp only at hv ⊢
     rw[getQ_set hkq]at hv
     by_cases e:k=i
     ·subst e
      rw[if_pos rfl]at hv
      exact h.ne k v hk (by rw[hx];exact List.mem_cons_of_mem _ hv)
     ·rw[if_neg e]at hv;exact h.ne i v hi hv
    ·dsimp only
     rw[flatQ_set hkq]
     exact hnd.sublist (List.Sublist.append_left (List.Sublist.append_right (List.sublist_cons_self u l) _) _)
   refine set_own_va h2 hk (by omega) (fun e=>by omega) ?_
   dsimp only
   rw[getQ_set hkq,if_pos rfl]
   exact(List.nodup_cons.1 hul).1
 ·rw[if_neg c1];exact h
end
theorem va_filter{os:List Int}{qs:List (List Int)}{t:Int}(h:VA ⟨os,qs⟩):VA ⟨os,qs.map (fun q=>q.filter (·≠t))⟩:=by
 have hg:∀i,(qs.map (fun q=>q.filter (·≠t))).getD i []=(qs.getD i []).filter (·≠t):=fun i=>by
  rw[List.getD_eq_getElem?_getD,List.getD_eq_getElem?_getD,List.getElem?_map]
  cases qs[i]?<;>rfl
 refine⟨h.o,by have:=h.q;dsimp only at this ⊢;rw[List.length_map];exact this,h.ob,fun i hi e=>?_,fun q hq u hu=>?_,fun i u hi hu=>?_,?_⟩
 ·have:=h.e i hi e
  dsimp only at this ⊢
  rw[hg,this]
  rfl
 ·obtain⟨q',hq',rfl⟩:=List.mem_map.1 hq
  exact h.qb q' hq' u (List.mem_filter.1 hu).1
 ·dsimp only at hu
  rw[hg]at hu
  exact h.ne i u hi (List.mem_filter.1 hu).1
 ·dsimp only
  rw[←List.filter_flatten]
  exact h.nd.filter _
def LkR(y:KS)(w0 w:World):Prop:=y.ok w∧y.new w0.heap.size∧VA y.ab
theorem rtake_out(x:KS)(k t:Int)(wB:World)(hx:x.ok wB)(hv:VA x.ab)(hk:k<0∨4≤k):Ret Tryz.prog 124 [x.v,.int .i64 k,.int .i64 t] wB (fun u w'=>∃y:KS,u= .tuple #[y.v,.int .i64 2]∧LkR y wB w'∧Pu wB w'):=by
 have hsm:=KS.sm_of hx hv.sh
 have hcp:=fun w'' (hf:Pu wB w'')=>cpy_c x w'' (hx.pu hf) hsm
 unfold KS.v IS.v at hcp ⊢
 rcases hk with hk|hk
 ·refine enterR Tryz.func124 rfl rfl rfl fun a hs hm=>?_
  refine gs87a7_ ?_;clear hs hm a;intros;rename_i a hm hs
  refine st hs rfl rfl rfl (d_call hs rfl rfl rfl (pl 122 rfl) ((hcp _ hm.fr))) ?_;clear hs a;rintro _ w1 ⟨y,rfl,hyo,hya,hyl,hN,hf⟩ a hs
  replace hm:=gainE hm hf hN
  clear hN hf
  refine gs87a7_ ?_;clear hs hm a;intros;rename_i a hm hs
  obtain⟨g6,rfl⟩:=hs.pp 6
  have e:=KO.ks_v y
  unfold KS.v IS.v at e
  exact gRetN tab hs rfl (.cons (.cells rfl rfl rfl rfl (hm.ro (k:=0) (n:=2) (g:=g6) mem_ (cutF_ok rfl))) (.cons (.tmp rfl) .nil)) ⟨y.ks,by rw[e];rfl,⟨KO.ks_ok hm (fun z hz=>List.mem_cons_of_mem _ (List.mem_cons_of_mem _ (List.mem_append_right _ hz))) hyo,KO.new_at hm (fun z hz=>List.mem_cons_of_mem _ (List.mem_cons_of_mem _ (List.mem_append_right _ hz))),by rw[KO.ks_ab,hya];exact hv⟩,hm.fr⟩
 ·refine enterR Tryz.func124 rfl rfl rfl fun a hs hm=>?_
  refine gs87a7_ ?_;clear hs hm a;intros;rename_i a hm hs
  refine st hs rfl rfl rfl (d_call hs rfl rfl rfl (pl 122 rfl) ((hcp _ hm.fr))) ?_;clear hs a;rintro _ w1 ⟨y,rfl,hyo,hya,hyl,hN,hf⟩ a hs
  replace hm:=gainE hm hf hN
  clear hN hf
  refine gs87a7_ ?_;clear hs hm a;intros;rename_i a hm hs
  obtain⟨g6,rfl⟩:=hs.pp 6
  have e:=KO.ks_v y
  unfold KS.v IS.v at e
  exact gRetN tab hs rfl (.cons (.cells rfl rfl rfl rfl (hm.ro (k:=0) (n:=2) (g:=g6) mem_ (cutF_ok rfl))) (.cons (.tmp rfl) .nil)) ⟨y.ks,by rw[e];rfl,⟨KO.ks_ok hm (fun z hz=>List.mem_cons_of_mem _ (List.mem_cons_of_mem _ (List.mem_append_right _ hz))) hyo,KO.new_at hm (fun z hz=>List.mem_cons_of_mem _ (List.mem_cons_of_mem _ (List.mem_append_right _ hz))),by rw[KO.ks_ab,hya];exact hv⟩,hm.fr⟩
theorem rgive_out(x:KS)(k t:Int)(wB:World)(hx:x.ok wB)(hv:VA x.ab)(hk:k<0∨4≤k):Ret Tryz.prog 112 [x.v,.int .i64 k,.int .i64 t] wB (fun u w'=>∃y:KS,u= .tuple #[y.v,.int .i64 (-1),.bool false]∧LkR y wB w'∧Pu wB w'):=by
 have hsm:=KS.sm_of hx hv.sh
 have hcp:=fun w'' (hf:Pu wB w'')=>cpy_c x w'' (hx.pu hf) hsm
 unfold KS.v IS.v at hcp ⊢
 rcases hk with hk|hk
 ·refine enterR Tryz.func112 rfl rfl rfl fun a hs hm=>?_
  refine gs0d2a_ ?_;clear hs hm a;intros;rename_i a hm hs
  refine st hs rfl rfl rfl (d_call hs rfl rfl rfl (pl 122 rfl) ((hcp _ hm.fr))) ?_;clear hs a;rintro _ w1 ⟨y,rfl,hyo,hya,hyl,hN,hf⟩ a hs
  replace hm:=gainE hm hf hN
  clear hN hf
  refine gs0d2a_ ?_;clear hs hm a;intros;rename_i a hm hs
  obtain⟨g6,rfl⟩:=hs.pp 6
  have e:=KO.ks_v y
  unfold KS.v IS.v at e
  exact gRetN tab hs rfl (.cons (.cells rfl rfl rfl rfl (hm.ro (k:=0) (n:=2) (g:=g6) mem_ (cutF_ok rfl))) (.cons (.tmp rfl) (.cons (.tmp rfl) .nil))) ⟨y.ks,by rw[e];rfl,⟨KO.ks_ok hm (fun z hz=>List.mem_cons_of_mem _ (List.mem_cons_of_mem _ (List.mem_append_right _ hz))) hyo,KO.new_at hm (fun z hz=>List.mem_cons_of_mem _ (List.mem_cons_of_mem _ (List.mem_append_right _ hz))),by rw[KO.ks_ab,hya];exact hv⟩,hm.fr⟩
 ·refine enterR Tryz.func112 rfl rfl rfl fun a hs hm=>?_
  refine gs0d2a_ ?_;clear hs hm a;intros;rename_i a hm hs
  refine st hs rfl rfl rfl (d_call hs rfl rfl rfl (pl 122 rfl) ((hcp _ hm.fr))) ?_;clear hs a;rintro _ w1 ⟨y,rfl,hyo,hya,hyl,hN,hf⟩ a hs
  replace hm:=gainE hm hf hN
  clear hN hf
  refine gs0d2a_ ?_;clear hs hm a;intros;rename_i a hm hs
  obtain⟨g6,rfl⟩:=hs.pp 6
  have e:=KO.ks_v y
  unfold KS.v IS.v at e
  exact gRetN tab hs rfl (.cons (.cells rfl rfl rfl rfl (hm.ro (k:=0) (n:=2) (g:=g6) mem_ (cutF_ok rfl))) (.cons (.tmp rfl) (.cons (.tmp rfl) .nil))) ⟨y.ks,by rw[e];rfl,⟨KO.ks_ok hm (fun z hz=>List.mem_cons_of_mem _ (List.mem_cons_of_mem _ (List.mem_append_right _ hz))) hyo,KO.new_at hm (fun z hz=>List.mem_cons_of_mem _ (List.mem_cons_of_mem _ (List.mem_append_right _ hz))),by rw[KO.ks_ab,hya];exact hv⟩,hm.fr⟩
theorem rtkA_c(x:KS)(k t:Int)(wB:World)(hx:x.ok wB)(hv:VA x.ab)(ht:0≤t∧t<4):Ret Tryz.prog 124 [x.v,.int .i64 k,.int .i64 t] wB (fun u w'=>∃(y:KS)(h:Int),u= .tuple #[y.v,.int .i64 h]∧LkR y wB w'∧Pu wB w'):=by
 by_cases hk:k<0∨4≤k
 ·exact(rtake_out x k t wB hx hv hk).mono fun u w' ⟨y,h1,h2,h3⟩=>⟨y,2,h1,h2,h3⟩
 ·obtain⟨j,rfl⟩:∃j:Nat,k=(j:Int):=⟨k.toNat,by omega⟩
  exact(rtak_c x j t wB hx hv.sh (by omega)).mono fun u w' ⟨y,h1,h2,h3,h4,h5⟩=>⟨y,_,h1,⟨h2,h3,by rw[h4];exact tak_va hv (by omega) ht⟩,h5⟩
theorem rgvA_c(x:KS)(k t:Int)(wB:World)(hx:x.ok wB)(hv:VA x.ab):Ret Tryz.prog 112 [x.v,.int .i64 k,.int .i64 t] wB (fun u w'=>∃(y:KS)(n:Int)(b:Bool),u= .tuple #[y.v,.int .i64 n,.bool b]∧LkR y wB w'∧Pu wB w'):=by
 by_cases hk:k<0∨4≤k
 ·exact(rgive_out x k t wB hx hv hk).mono fun u w' ⟨y,h1,h2,h3⟩=>⟨y,-1,false,h1,h2,h3⟩
 ·obtain⟨j,rfl⟩:∃j:Nat,k=(j:Int):=⟨k.toNat,by omega⟩
  exact(rgiv_c x j t wB hx hv.sh (by omega)).mono fun u w' ⟨y,h1,h2,h3,h4,h5⟩=>⟨y,_,_,h1,⟨h2,h3,by rw[h4];exact giv_va hv (by omega)⟩,h5⟩
theorem KS.no.sub{x:KS}{M M':List Hp}(h:x.no M)(hs:M'.Sublist M):x.no M':=fun g hg ⟨z,hz,e⟩=>h g hg ⟨z,hs.subset hz,e⟩
theorem tdm{α β:Type}(F:α→β)(G:α→β){q:List α}{l:List β}{i:Nat}(h:l=(q.take i).map F++(q.drop i).map G){a:α}(ha:q[i]?=some a):l[i]?=some (G a)∧l.set i (F a)=(q.take (i+1)).map F++(q.drop (i+1)).map G:=by
 obtain⟨hi,rfl⟩:=List.getElem?_eq_some_iff.1 ha
 have hl:((q.take i).map F).length=i:=by rw[List.length_map,List.length_take,Nat.min_eq_left (by omega)]
 have e1:q.drop i=q[i]::q.drop (i+1):=List.drop_eq_getElem_cons hi
 rw[h]
 constructor
 ·rw[List.getElem?_append_right (by omega),hl,Nat.sub_self,e1]
  rfl
 ·rw[List.set_append_right _ _ (by omega),hl,Nat.sub_self,e1,List.map_cons,List.set_cons_zero,List.take_succ_eq_append_getElem hi,List.map_append,List.append_assoc]
  rfl
structure DrX where
 i:Nat
 rs:List RW
 qcs:List Value
structure DfX where
 j:Nat
 l:List Int
 A:Option Nat
 c:Nat
 cs:List Value
structure DnX where
 i:Nat
 k:KS
 l:List Int
 A:Option Nat
 c:Nat
 cs:List Value
def filN(t:Int)(q:List Int):List Int:=q.filter (·≠t)
theorem fil_snoc{t v:Int}{q:List Int}{j:Nat}(h:q[j]?=some v):filN t (q.take (j+1))=if v≠t then filN t (q.take j)++[v]else filN t (q.take j):=by
 obtain⟨hj,rfl⟩:=List.getElem?_eq_some_iff.1 h
 unfold filN
 rw[List.take_succ_eq_append_getElem hj,List.filter_append]
 by_cases hv:q[j]=t
 ·simp[hv]
 ·simp[hv]
theorem fil_len(t:Int)(q:List Int):(filN t q).length≤q.length:=List.length_filter_le _ _
theorem rdrop_c(x:KS)(t:Int)(wB:World)(hx:x.ok wB)(hv:VA x.ab):Ret Tryz.prog 116 [x.v,.int .i64 t] wB (fun u w'=>∃(y:KS)(nA:Option Nat)(nc:Nat)(ncs:List Value)(l:List Int),u= .tuple #[y.v,slv nA l.length nc]∧Row nA l.length nc 1 (ints l) ncs∧New wB w' [⟨nA,3,ncs⟩]∧l.length≤4∧LkR y wB w'∧Pu wB w'):=by
 have hsm:=KS.sm_of hx hv.sh
 have hcp:=fun w'' (hf:Pu wB w'')=>cpy_c x w'' (hx.pu hf) hsm
 have hxq:x.qs.length=4:=by have:=hv.q;unfold KS.ab at this;dsimp only at this;rwa[List.length_map]at this
 unfold KS.v IS.v at hcp ⊢
 refine enterR Tryz.func116 rfl rfl rfl fun a hs hm=>?_
 refine gs87a7_ ?_;clear hs hm a;intros;rename_i a hm hs
 obtain⟨g4,rfl⟩:=hs.pp 4
 refine st hs rfl rfl rfl (d_call hs rfl rfl rfl (pl 122 rfl) ((hcp _ hm.fr))) ?_;clear hs a;rintro _ w1 ⟨y,rfl,hyo,hya,hyl,hN,hf⟩ a hs
 replace hm:=gainE hm hf hN
 clear hN hf hcp
 have hyv:VA y.ab:=by rw[hya];exact hv
 have hyol:y.o.xs.length=4:=hyv.o
 obtain⟨⟨oA,oc,ocs,os⟩,qA,qc,qcs,rs⟩:=y
 obtain⟨yo1,yo2,yo3⟩:=hyo
 unfold RW.ok at yo1
 unfold KO.v RW.v at hs
 unfold KO.hps RW.hp at hm
 dsimp only at hs hm hyl yo1 yo2 yo3 hyol
 rw[hxq]at hyl
 rw[hyl]at yo2 hs
 rw[hyol]at yo1 hs
 obtain⟨gq,rfl⟩:=yo2.some_ (by omega)
 have hyq:VA ⟨os,rs.map RW.xs⟩:=hyv
 simp only[List.cons_append,List.nil_append]at hm
 refine gs87a7_ ?_;clear hs hm a;intros;rename_i a hm hs
 obtain⟨g6,rfl⟩:=hs.pp 6
 refine cMidE (.exit 0) (fun a w=>∃(rs':List RW)(qcs':List Value),rs'.length=4∧Row (some gq) 4 qc 1 (rs'.map RW.v) qcs'∧(∀r∈rs',r.ok)∧rs'.map RW.xs=(rs.map RW.xs).map (filN t)∧Sl Tryz.f116.ntmps [(1,.int .i64 t),(4,pt g4),(6,pt g6)] a∧Mm (fun _=>False) wB ([⟨some g6,84,[slv oA 4 oc,slv (some gq) 4 qc]⟩,⟨some g4,84,[nS,nS]⟩,⟨some gq,22,qcs'⟩,⟨oA,3,ocs⟩]++rs'.map RW.hp) w) ?_ ?_
 ·refine cLoop (X:=DrX) (fun X a w=>X.i≤4∧X.rs.length=4∧Row (some gq) 4 qc 1 (X.rs.map RW.v) X.qcs∧(∀r∈X.rs,r.ok)∧X.rs.map RW.xs=((rs.map RW.xs).take X.i).map (filN t)++((rs.map RW.xs).drop X.i).map (fun q=>q)∧Sl Tryz.f116.ntmps [(1,.int .i64 t),(4,pt g4),(6,pt g6),(20,slv (some gq) 4 qc),(21,.int .i64 ((4:Nat):Int)),(22,.int .i64 (X.i:Int))] a∧Mm (fun _=>False) wB ([⟨some g6,84,[slv oA 4 oc,slv (some gq) 4 qc]⟩,⟨some g4,84,[nS,nS]⟩,⟨some gq,22,X.qcs⟩,⟨oA,3,ocs⟩]++X.rs.map RW.hp) w) (fun X=>4-X.i) ⟨0,rs,qcs⟩ ⟨Nat.zero_le _,hyl,yo2,yo3,by dsimp only;rw[List.take_zero,List.drop_zero,List.map_nil,List.nil_append,List.map_id'],(sb_ hs),hm.sub sub_⟩ ?_
  clear hs hm a
  rintro⟨i,us,ucs⟩ a w ⟨hi,hul,hur,huo,hue,hs,hm⟩
  dsimp only at hi hul hur huo hue hs hm
  have hucl:=hur.len
  have hucle:=hur.le
  by_cases hlt:i<4
  ·obtain⟨q,hq⟩:∃q,us[i]?=some q:=⟨_,List.getElem?_eq_getElem (by omega)⟩
   obtain⟨q0,hq0⟩:∃q,(rs.map RW.xs)[i]?=some q:=⟨_,List.getElem?_eq_getElem (by rw[List.length_map];omega)⟩
   obtain⟨ht1,ht2⟩:=tdm (filN t) (fun q=>q) hue hq0
   rw[List.getElem?_map,hq]at ht1
   have hqx:q.xs=q0:=Option.some.inj ht1
   have hqc:ucs[i]?=some (slv q.A q.xs.length q.c):=hur.get (by rw[List.getElem?_map,hq];rfl)
   have hqok:Row q.A q.xs.length q.c 1 (ints q.xs) q.cs:=huo q (List.mem_of_getElem? hq)
   have hq4:q.xs.length≤4:=by rw[hqx];exact hyq.len _ (List.mem_of_getElem? hq0)
   refine gs87a7_ ?_;clear hs hm a;intros;rename_i a hm hs
   replace hm:=(Mm.frontG RW.hp (L:=[⟨some g6,84,[slv oA 4 oc,slv (some gq) 4 qc]⟩,⟨some g4,84,[nS,nS]⟩,⟨some gq,22,ucs⟩,⟨oA,3,ocs⟩]) hm hq).zero 3
   unfold RW.hp at hm
   simp only[List.cons_append,List.nil_append]at hm
   refine cMidE (.exit 2) (fun a w=>∃r:RW,r.ok∧r.xs=filN t q.xs∧Sl Tryz.f116.ntmps [(1,.int .i64 t),(4,pt g4),(6,pt g6),(7,.int .i64 (i:Int)),(9,r.v),(20,slv (some gq) 4 qc),(21,.int .i64 ((4:Nat):Int)),(22,.int .i64 (i:Int))] a∧Mm (fun _=>False) wB (r.hp::([⟨some g6,84,[slv oA 4 oc,slv (some gq) 4 qc]⟩,⟨some g4,84,[nS,nS]⟩,⟨some gq,22,ucs⟩,⟨oA,3,ocs⟩]++(us.eraseIdx i).map RW.hp)) w) ?_ ?_
   ·refine cLoop (X:=DfX) (fun X a w=>X.j≤q.xs.length∧X.l=filN t (q.xs.take X.j)∧Row X.A X.l.length X.c 1 (ints X.l) X.cs∧Sl Tryz.f116.ntmps [(1,.int .i64 t),(4,pt g4),(6,pt g6),(7,.int .i64 (i:Int)),(9,slv X.A X.l.length X.c),(20,slv (some gq) 4 qc),(21,.int .i64 ((4:Nat):Int)),(22,.int .i64 (i:Int)),(27,slv q.A q.xs.length q.c),(28,.int .i64 (q.xs.length:Int)),(29,.int .i64 (X.j:Int))] a∧Mm (fun _=>False) wB (⟨X.A,3,X.cs⟩::⟨q.A,3,q.cs⟩::([⟨some g6,84,[slv oA 4 oc,slv (some gq) 4 qc]⟩,⟨some g4,84,[nS,nS]⟩,⟨some gq,22,ucs⟩,⟨oA,3,ocs⟩]++(us.eraseIdx i).map RW.hp)) w) (fun X=>q.xs.length-X.j) ⟨0,[],none,0,[]⟩ ⟨Nat.zero_le _,rfl,Row.empty 1,(sb_ hs),hm⟩ ?_
    clear hs hm a
    rintro⟨j,l,lA,lc,lcs⟩ a w ⟨i1,i2,i3,hs,hm⟩
    dsimp only at i1 i2 i3 hs hm
    have hll:l.length≤4:=by rw[i2];have:=fil_len t (q.xs.take j);rw[List.length_take]at this;omega
    by_cases hj:j<q.xs.length
    ·obtain⟨gz,hgz⟩:=hqok.some_ (by omega)
     obtain⟨v,hvv⟩:∃v,q.xs[j]?=some v:=⟨_,List.getElem?_eq_getElem hj⟩
     have hcell:q.cs[j]?=some (.int .i64 v):=hqok.get (by unfold ints;rw[List.getElem?_map,hvv];rfl)
     have hfs:=fil_snoc (t:=t) hvv
     rw[hgz]at hs hm
     by_cases hvt:v=t
     ·refine gs87a7_ ?_;clear hs hm a;intros;rename_i a hm hs
      rw[if_neg (by simpa using hvt),←i2]at hfs
      rw[←hgz]at hs hm
      exact⟨⟨j+1,l,lA,lc,lcs⟩,by dsimp only;omega,by dsimp only;omega,hfs.symm,i3,(sb_ hs),hm⟩
     ·rw[if_pos hvt,←i2]at hfs
      refine gs87a7_ ?_;clear hs hm a;intros;rename_i a hm hs
      refine dv hs (Wnt.none rfl) rfl rfl (d_append (A:=lA) (n:=l.length) (c:=lc) (news:=[.int .i64 v]) hs rfl rfl rfl rfl rfl tab rfl rfl rfl rfl rfl hm mem_ i3 rfl (hm.ro (n:=1) mem_ (cutF_ok rfl)) rfl (by show(l.length+1)*8≤_;omega) (by omega)) ?_
      clear hs
      rintro _ w4 ⟨A',c',cs',rfl,hr',hM⟩ a hs
      replace hm:=hM _ rep_
      clear hM
      rw[show ints l++[.int .i64 v]=ints (l++[v]) by unfold ints;rw[List.map_append];rfl]at hr'
      refine gs87a7_ ?_;clear hs hm a;intros;rename_i a hm hs
      rw[←hgz]at hs hm
      refine⟨⟨j+1,l++[v],A',c',cs'⟩,by dsimp only;omega,by dsimp only;omega,hfs.symm,by dsimp only;rw[List.length_append,List.length_singleton];exact hr',by dsimp only;rw[List.length_append,List.length_singleton];exact(sb_ hs),hm.sub (List.Sublist.cons _ (List.Sublist.refl _))⟩
    ·obtain rfl:j=q.xs.length:=by omega
     rw[List.take_length]at i2
     refine gs87a7_ ?_;clear hs hm a;intros;rename_i a hm hs
     exact And.intro rfl ⟨⟨lA,lc,lcs,l⟩,i3,i2,(sb_ hs),hm.sub (List.Sublist.cons_cons _ (List.Sublist.cons _ (List.Sublist.refl _)))⟩
   clear hs hm a
   rintro a w ⟨r,hro,hrx,hs,hm⟩
   unfold RW.v at hs
   simp only[List.cons_append,List.nil_append]at hm
   refine gs87a7_ ?_;clear hs hm a;intros;rename_i a hm hs
   have hur':=hur.set i (slv r.A r.xs.length r.c)
   rw[show(us.map RW.v).set i (slv r.A r.xs.length r.c)=(us.set i r).map RW.v by rw[List.map_set];rfl]at hur'
   refine⟨⟨i+1,us.set i r,ucs.set i (slv r.A r.xs.length r.c)⟩,by dsimp only;omega,by dsimp only;omega,by dsimp only;rw[List.length_set];exact hul,hur',fun z hz=>?_,by dsimp only;rw[List.map_set,hrx,hqx];exact ht2,(sb_ hs),Mm.backG RW.hp (L:=[⟨some g6,84,[slv oA 4 oc,slv (some gq) 4 qc]⟩,⟨some g4,84,[nS,nS]⟩,⟨some gq,22,ucs.set i (slv r.A r.xs.length r.c)⟩,⟨oA,3,ocs⟩]) (by omega) hm⟩
   rcases List.mem_or_eq_of_mem_set hz with hz|rfl
   ·exact huo z hz
   ·exact hro
  ·obtain rfl:i=4:=by omega
   refine gs87a7_ ?_;clear hs hm a;intros;rename_i a hm hs
   refine And.intro rfl ⟨us,ucs,hul,hur,huo,?_,(sb_ hs),hm⟩
   have hl4:(rs.map RW.xs).length=4:=by rw[List.length_map];exact hyl
   rw[List.take_of_length_le (by omega),List.drop_of_length_le (by omega),List.map_nil,List.append_nil]at hue
   exact hue
 clear hs hm a
 rintro a w ⟨us,ucs,hul,hur,huo,hue,hs,hm⟩
 refine gs87a7_ ?_;clear hs hm a;intros;rename_i g w a hm hs
 have hko:KO.ok ⟨⟨oA,oc,ocs,os⟩,some gq,qc,ucs,us⟩:=⟨by unfold RW.ok;dsimp only;rw[hyol];exact yo1,by dsimp only;rw[hul];exact hur,huo⟩
 have hmk:Mm (fun _=>False) wB ([⟨some g6,84,[slv oA 4 oc,slv (some gq) 4 qc]⟩,⟨some g4,84,[nS,nS]⟩]++KO.hps ⟨⟨oA,oc,ocs,os⟩,some gq,qc,ucs,us⟩) w:=hm.sub (List.Sublist.refl _)
 obtain⟨k0,hk0⟩:∃k:KS,k=KO.ks ⟨⟨oA,oc,ocs,os⟩,some gq,qc,ucs,us⟩:=⟨_,rfl⟩
 have hk0v:k0.v= .agg #[slv oA 4 oc,slv (some gq) 4 qc]:=by
  rw[hk0,KO.ks_v]
  unfold KO.v RW.v
  dsimp only
  rw[hul,hyol]
 have hk0ok:k0.ok w:=by rw[hk0];exact KO.ks_ok hmk (fun z hz=>List.mem_append_right _ hz) hko
 have hk0no:k0.no [⟨some g6,84,[slv oA 4 oc,slv (some gq) 4 qc]⟩,⟨some g4,84,[nS,nS]⟩]:=fun g hg=>by
  rw[hk0]at hg
  obtain⟨z,hz,e⟩:=KO.blk_hps hg
  exact Mm.notin hmk hz e
 have hk0new:k0.new wB.heap.size:=by rw[hk0];exact KO.new_at hmk (fun z hz=>List.mem_append_right _ hz)
 have hk0va:VA k0.ab:=by
  rw[hk0,KO.ks_ab]
  show VA ⟨os,us.map RW.xs⟩
  rw[hue]
  exact va_filter hyq
 replace hm:=(hm.zero 3).sub (M':=[⟨none,3,[]⟩,⟨some g6,84,[slv oA 4 oc,slv (some gq) 4 qc]⟩,⟨some g4,84,[nS,nS]⟩]) sub_
 have hk0no':k0.no [⟨none,3,[]⟩,⟨some g6,84,[slv oA 4 oc,slv (some gq) 4 qc]⟩,⟨some g4,84,[nS,nS]⟩]:=fun g hg ⟨z,hz,e⟩=>by
  rcases List.mem_cons.1 hz with rfl|hz
  ·cases e
  ·exact hk0no g hg ⟨z,hz,e⟩
 have hk0c:k0.v= .agg #[.slice k0.o.A k0.o.n k0.o.c,.slice k0.qA k0.qs.length k0.qc]:=rfl
 have hcs: [slv oA 4 oc,slv (some gq) 4 qc]=[.slice k0.o.A k0.o.n k0.o.c,.slice k0.qA k0.qs.length k0.qc]:=by
  rw[hk0c]at hk0v
  have:=congrArg (fun v=>match v with|Value.agg vs=>vs.toList|_=>[]) hk0v
  exact this.symm
 rw[hcs]at hm hk0no'
 clear hmk hk0v hk0no hk0c hcs hko hk0 hue huo hur hul hyq yo1 yo2 yo3 hyv hya
 refine cLoop (X:=DnX) (fun X a w=>X.i≤4∧X.l.length≤X.i∧X.k.ok w∧X.k.new wB.heap.size∧VA X.k.ab∧X.k.no [⟨X.A,3,X.cs⟩,⟨some g6,84,[.slice X.k.o.A X.k.o.n X.k.o.c,.slice X.k.qA X.k.qs.length X.k.qc]⟩,⟨some g4,84,[nS,nS]⟩]∧Row X.A X.l.length X.c 1 (ints X.l) X.cs∧Sl Tryz.f116.ntmps [(1,.int .i64 t),(4,pt g4),(6,pt g6),(12,slv X.A X.l.length X.c),(49,.int .i64 ((4:Nat):Int)),(50,.int .i64 (X.i:Int))] a∧Mm (fun _=>False) wB [⟨X.A,3,X.cs⟩,⟨some g6,84,[.slice X.k.o.A X.k.o.n X.k.o.c,.slice X.k.qA X.k.qs.length X.k.qc]⟩,⟨some g4,84,[nS,nS]⟩] w) (fun X=>4-X.i) ⟨0,k0,[],none,0,[]⟩ ⟨Nat.zero_le _,Nat.le_refl _,hk0ok,hk0new,hk0va,hk0no',Row.empty 1,(sb_ hs),hm⟩ ?_
 clear hs hm a hk0ok hk0new hk0va hk0no'
 rintro⟨i,k,l,lA,lc,lcs⟩ a w ⟨i1,i2,i3,i4,i5,i6,i7,hs,hm⟩
 dsimp only at i1 i2 i3 i4 i5 i6 i7 hs hm
 by_cases hi:i<4
 ·have kg:=rgvA_c k (i:Int) t
  unfold KS.v IS.v at kg
  refine gs87a7_ ?_;clear hs hm a;intros;rename_i a hm hs
  have hmC:=hm
  refine st hs rfl rfl rfl (d_call hs rfl rfl rfl (pl 112 rfl) ((kg _ i3 i5))) ?_;clear hs a;rintro _ w1 ⟨k',n,b,rfl,⟨hk1,hk2,hk3⟩,hf⟩ a hs
  have hno':=hk2.no hm
  have hnew':k'.new wB.heap.size:=fun g hg=>Nat.le_trans hm.fr.size (hk2 g hg)
  replace hm:=hm.pu hf
  have hmB:=hm
  replace hm:=hm.rebase
  cases b
  ·refine gs87a7_ ?_;clear hs hm a;intros;rename_i a hm hs
   have hkF:=hk1.own hno' hm
   have hnF:=(hno'.grow hk1 hm).sub (M':=[⟨lA,3,lcs⟩,⟨some g6,84,[.slice k'.o.A k'.o.n k'.o.c,.slice k'.qA k'.qs.length k'.qc]⟩,⟨some g4,84,[nS,nS]⟩]) sub_
   replace hm:=hmB.trans hm
   exact⟨⟨i+1,k',l,lA,lc,lcs⟩,by dsimp only;omega,by dsimp only;omega,by dsimp only;omega,hkF,hnew',hk3,hnF,i7,(sb_ hs),hm.sub sub_⟩
  by_cases hn0:0≤n
  rotate_left
  ·refine gs87a7_ ?_;clear hs hm a;intros;rename_i a hm hs
   have hkF:=hk1.own hno' hm
   have hnF:=(hno'.grow hk1 hm).sub (M':=[⟨lA,3,lcs⟩,⟨some g6,84,[.slice k'.o.A k'.o.n k'.o.c,.slice k'.qA k'.qs.length k'.qc]⟩,⟨some g4,84,[nS,nS]⟩]) sub_
   replace hm:=hmB.trans hm
   exact⟨⟨i+1,k',l,lA,lc,lcs⟩,by dsimp only;omega,by dsimp only;omega,by dsimp only;omega,hkF,hnew',hk3,hnF,i7,(sb_ hs),hm.sub sub_⟩
  ·refine gs87a7_ ?_;clear hs hm a;intros;rename_i a hm hs
   refine dv hs (Wnt.none rfl) rfl rfl (d_append (A:=lA) (n:=l.length) (c:=lc) (news:=[.int .i64 n]) hs rfl rfl rfl rfl rfl tab rfl rfl rfl rfl rfl hm mem_ i7 rfl (hm.ro (n:=1) mem_ (cutF_ok rfl)) rfl (by show(l.length+1)*8≤_;omega) (by omega)) ?_
   clear hs
   rintro _ w4 ⟨lA',lc',lcs',rfl,hr',hM⟩ a hs
   replace hm:=hM _ rep_
   clear hM
   rw[show ints l++[.int .i64 n]=ints (l++[n]) by unfold ints;rw[List.map_append];rfl]at hr'
   refine gs87a7_ ?_;clear hs hm a;intros;rename_i a hm hs
   have hkF:=hk1.own hno' hm
   have hnF:=(hno'.grow hk1 hm).sub (M':=[⟨lA',3,lcs'⟩,⟨some g6,84,[.slice k'.o.A k'.o.n k'.o.c,.slice k'.qA k'.qs.length k'.qc]⟩,⟨some g4,84,[nS,nS]⟩]) sub_
   replace hm:=hmB.trans hm
   exact⟨⟨i+1,k',l++[n],lA',lc',lcs'⟩,by dsimp only;omega,by dsimp only;omega,by dsimp only;rw[List.length_append,List.length_singleton];omega,hkF,hnew',hk3,hnF,by dsimp only;rw[List.length_append,List.length_singleton];exact hr',by dsimp only;rw[List.length_append,List.length_singleton];exact(sb_ hs),hm.sub sub_⟩
 ·obtain rfl:i=4:=by omega
  have hmB:=hm
  replace hm:=hm.rebase
  refine gs87a7_ ?_;clear hs hm a;intros;rename_i a hm hs
  have hkF:=i3.own i6 hm
  replace hm:=hmB.trans hm
  refine gRetN tab hs rfl (.cons (.cells rfl rfl rfl rfl (hm.ro (k:=0) (n:=2) (g:=g4) mem_ (cutF_ok rfl))) (.cons (.tmp rfl) .nil)) ⟨k,lA,lc,lcs,l,rfl,i7,hm.new sub_,i2,⟨hkF,i4,i5⟩,hm.fr⟩
theorem gpSht0_{G H:Prop}(k:H)(s:Bx H→G:=by intro k_;(repeat(first|(refine ov701a_ ?_;(try clear hs a);intro a hs)|((with_reducible apply lCons);first|(refine dv hs gw_ rfl rfl da_ ?_;(try clear hs hm a);rintro _ w_ ⟨g_,rfl,-,hm⟩ a hs)|(refine stn hs rfl rfl ds_ ?_;(try clear hs hm a);rintro-w_ hm a hs))|refine sc_ ?_));have m_:=hm;have s_:=hs;clear hs;(try clear hm);revert m_ s_ a;(try revert w_);(repeat revert g_);exact k_.h):G:=s ⟨k⟩
def St(M:List Hp)(P:World→Prop)(w:World):Prop:=∀(w':World)(M':List Hp),Mm (own M) w M' w'→P w'
theorem St.now{M:List Hp}{P:World→Prop}{w:World}(h:St M P w):P w:=h w [] (Mm.nil _ w)
theorem St.at_{M M':List Hp}{P:World→Prop}{w w':World}(h:St M P w)(hm:Mm (own M) w M' w'):P w':=h w' M' hm
theorem St.step{M M':List Hp}{P:World→Prop}{w w':World}(h:St M P w)(hm:Mm (own M) w M' w'):St M' P w':=fun w'' M'' hk=>h w'' M'' (hm.trans hk)
theorem St.pu{S:Nat→Prop}{w0 w w':World}{M:List Hp}{P:World→Prop}(h:St M P w)(hm:Mm S w0 M w)(hf:Pu w w'):St M P w':=h.step (hm.rebase.pu hf)
theorem St.mono{M M1:List Hp}{P:World→Prop}{w:World}(h:St M P w)(hs:∀g,own M1 g→own M g):St M1 P w:=fun w' M' hm=>h w' M' ⟨hm.me,hm.fr.mono (fun i _ hi=>hs i hi),hm.dj,fun x hx g hg=>(hm.ow x hx g hg).imp id (hs g)⟩
theorem own_sub{M M1:List Hp}(hs:M1.Sublist M)(g:Nat)(h:own M1 g):own M g:=by
 obtain⟨x,hx,e⟩:=h
 exact⟨x,hs.subset hx,e⟩
theorem St.sub{M M1:List Hp}{P:World→Prop}{w:World}(h:St M P w)(hs:M1.Sublist M):St M1 P w:=h.mono (own_sub hs)
theorem St.of_on{S:Nat→Prop}{w0 w:World}{M R:List Hp}{P:World→Prop}(hm:Mm S w0 (M++R) w)(h:On R P):St M P w:=fun _ _ hk=>h.now (hm.swap hk) (fun _ hx=>List.mem_append_right _ hx)
theorem St.of_ks{M:List Hp}{k:KS}{w:World}(h:k.ok w)(hn:k.no M):St M k.ok w:=fun _ _ hm=>h.own hn hm
theorem St.of_new{S:Nat→Prop}{w0 w w':World}{M R:List Hp}{P:World→Prop}(hm:Mm S w0 M w)(hf:Pu w w')(hN:New w w' R)(h:On R P):St M P w':=St.of_on (gainE hm hf hN) h
theorem New.mm1{w0 w:World}{R:List Hp}(h:New w0 w R):Mm (fun _=>True) w R w:=⟨h.me,Fr.refl _ w,h.dj,fun _ _ _ _=> .inr trivial⟩
theorem MO.of_new{w0 w:World}{y:MO}(h:New w0 w y.hps)(ho:y.ok):y.mv.ok w:=MO.mv_ok h.mm1 (fun _ h=>h) ho
theorem on_new{w0:World}{R:List Hp}(hd:Apart R)(hg:∀h∈R,∀g,h.g=some g→w0.heap.size≤g):On R (fun v=>New w0 v R):=fun _ _ _ _ hm hM=>⟨fun x hx=>hm.me x (hM x hx),hd,hg⟩
structure RD where
 p:PV
 y:MO
 o:OV
 k:KS
def RD.cs(r:RD)(e j:Value):List Value:=(r.p.cl (r.y.cl (slv r.y.tA r.y.ts.length r.y.tc::r.o.cl (r.o.f.cl [.slice r.o.us.A r.o.us.us.length r.o.us.c,.slice r.k.o.A r.k.o.n r.k.o.c,.slice r.k.qA r.k.qs.length r.k.qc,e,j]))))
def RD.hp(g:Nat)(r:RD)(e j:Value):Hp:=⟨some g,87,r.cs e j⟩
theorem Mm.own_lt{S:Nat→Prop}{w0 w:World}{M:List Hp}(hm:Mm S w0 M w){g:Nat}(h:own M g):g<w.heap.size:=by
 obtain⟨x,hx,e⟩:=h
 exact Hp.lt (hm.me x hx) e
theorem New.own_lt{w0 w:World}{M:List Hp}(hm:New w0 w M){g:Nat}(h:own M g):g<w.heap.size:=by
 obtain⟨x,hx,e⟩:=h
 exact Hp.lt (hm.me x hx) e
theorem Mm.own2{S:Nat→Prop}{w0 w:World}{A B:List Hp}(hm:Mm S w0 (A++B) w){g:Nat}(h:own A g)(h':own B g):False:=by
 obtain⟨x,hx,e⟩:=h
 obtain⟨y,hy,e'⟩:=h'
 exact hm.dj.cross2 x hx y hy g e e'
structure RnI [HB](w0:World)(B:Int)(M:List Hp)(r:RD)(w:World):Prop where
 sz:w0.heap.size≤w.heap.size
 p:St M r.p.ok w
 pv:r.p.val
 y:St M (fun v=>New w0 v r.y.hps) w
 yo:r.y.ok
 yv:r.y.d.val r.p.ss B
 o:St M r.o.ok w
 ov:r.o.val
 k:St M r.k.ok w
 kv:VA r.k.ab
 yd:∀g,own r.y.hps g→¬own M g
theorem RnI.step [HB]{w0 w w':World}{B:Int}{M M':List Hp}{r:RD}(h:RnI w0 B M r w)(hm:Mm (own M) w M' w'):RnI w0 B M' r w':=⟨Nat.le_trans h.sz hm.fr.size,h.p.step hm,h.pv,h.y.step hm,h.yo,h.yv,h.o.step hm,h.ov,h.k.step hm,h.kv,fun g hg hg'=>by
 rcases hm.own_ hg' with h1|h1
 ·have:=h.y.now.own_lt hg;omega
 ·exact h.yd g hg h1⟩
theorem RnI.mono [HB]{w0 w:World}{B:Int}{M M1:List Hp}{r:RD}(h:RnI w0 B M r w)(hs:∀g,own M1 g→own M g):RnI w0 B M1 r w:=⟨h.sz,h.p.mono hs,h.pv,h.y.mono hs,h.yo,h.yv,h.o.mono hs,h.ov,h.k.mono hs,h.kv,fun g hg hg'=>h.yd g hg (hs g hg')⟩
theorem RnI.sub [HB]{w0 w:World}{B:Int}{M M1:List Hp}{r:RD}(h:RnI w0 B M r w)(hs:M1.Sublist M):RnI w0 B M1 r w:=h.mono (own_sub hs)
theorem RnI.up [HB]{w0 w:World}{B C:Int}{M:List Hp}{r:RD}(h:RnI w0 B M r w)(hBC:B≤C):RnI w0 C M r w:=⟨h.sz,h.p,h.pv,h.y,h.yo,h.yv.up hBC,h.o,h.ov,h.k,h.kv,h.yd⟩
theorem RnI.pu [HB]{S:Nat→Prop}{w0 wB w w':World}{B:Int}{M:List Hp}{r:RD}(h:RnI w0 B M r w)(hm:Mm S wB M w)(hf:Pu w w'):RnI w0 B M r w':=h.step (hm.rebase.pu hf)
theorem RnI.set_y [HB]{S:Nat→Prop}{w0 wB w w':World}{B:Int}{M:List Hp}{r:RD}{z:MO}(h:RnI w0 B M r w)(hm:Mm S wB M w)(hf:Pu w w')(hz:z=r.y∨New w w' z.hps)(zo:z.ok)(zv:z.d.val r.p.ss B):RnI w0 B M {r with y:=z} w':=by
 have h':=h.pu hm hf
 refine⟨h'.sz,h'.p,h.pv,?_,zo,zv,h'.o,h.ov,h'.k,h.kv,fun g hg hg'=>?_⟩
 ·rcases hz with rfl|hN
  ·exact h'.y
  ·exact St.of_new hm hf hN (on_new hN.dj fun x hx g hg=>Nat.le_trans h.sz (hN.fresh x hx g hg))
 ·rcases hz with rfl|hN
  ·exact h.yd g hg hg'
  ·obtain⟨x,hx,e⟩:=hg
   have:=hN.fresh x hx g e
   have:=hm.own_lt hg'
   omega
theorem RnI.set_k [HB]{S:Nat→Prop}{w0 wB w w':World}{B:Int}{M:List Hp}{r:RD}{z:KS}(h:RnI w0 B M r w)(hm:Mm S wB M w)(hf:Pu w w')(hz:LkR z w w'):RnI w0 B M {r with k:=z} w':=by
 have h':=h.pu hm hf
 exact⟨h'.sz,h'.p,h.pv,h'.y,h.yo,h.yv,h'.o,h.ov,St.of_ks hz.1 (hz.2.1.no hm),hz.2.2,h.yd⟩
theorem zR{y z:MO}{w w':World}(h:z=y∨New w w' z.hps):∃R,New w w' R∧(z=y∨z.hps=R):=by
 rcases h with h|h
 ·exact⟨[],New.nil _ _,.inl h⟩
 ·exact⟨z.hps,h,.inr rfl⟩
theorem RnI.set_y2 [HB]{w0 wB w:World}{B:Int}{M0 M R:List Hp}{r:RD}{z:MO}(h:RnI w0 B M0 r wB)(hm:Mm (own M0) wB (M++R) w)(hR:∀x∈R,∀g,x.g=some g→w0.heap.size≤g)(hz:z=r.y∨z.hps=R)(zo:z.ok)(zv:z.d.val r.p.ss B):RnI w0 B M {r with y:=z} w:=by
 have h':=(h.step hm).sub (List.sublist_append_left M R)
 refine⟨h'.sz,h'.p,h.pv,?_,zo,zv,h'.o,h.ov,h'.k,h.kv,fun g hg hg'=>?_⟩
 ·rcases hz with rfl|rfl
  ·exact h'.y
  ·exact St.of_on hm (on_new (hm.dj.right) hR)
 ·rcases hz with rfl|rfl
  ·exact h'.yd g hg hg'
  ·exact hm.own2 hg' hg
theorem RnI.set_o2 [HB]{w0 wB w:World}{B:Int}{M0 M R:List Hp}{r:RD}{z:OV}(h:RnI w0 B M0 r wB)(hm:Mm (own M0) wB (M++R) w)(hz:On R z.ok)(zv:z.val):RnI w0 B M {r with o:=z} w:=by
 have h':=(h.step hm).sub (List.sublist_append_left M R)
 exact⟨h'.sz,h'.p,h.pv,h'.y,h.yo,h.yv,St.of_on hm hz,zv,h'.k,h.kv,h'.yd⟩
def RqV.no(q:RqV)(M:List Hp):Prop:=∀b o n,q.a.A=some ⟨b,o,n⟩∨q.d.A=some ⟨b,o,n⟩→¬own M b
theorem RqV.ok.own{q:RqV}{M M':List Hp}{w w':World}(h:q.ok w)(hn:q.no M)(hm:Mm (own M) w M' w'):q.ok w':=⟨rdV hm.fr h.a (fun _ g o e=>hn g o _ (.inl e)),rdV hm.fr h.d (fun _ g o e=>hn g o _ (.inr e))⟩
theorem wake_c [HB](w0:World)(B:Int)(r:RD)(gr:Nat)(rA:Option Nat)(n rc:Nat)(es rcs:List Value)(j:Value)(X:List Hp)(t c:Int)(wB:World)(hM:Mm (own (r.hp gr (slv rA n rc) j::⟨rA,177,rcs⟩::X)) wB (r.hp gr (slv rA n rc) j::⟨rA,177,rcs⟩::X) wB)(hI:RnI w0 B (r.hp gr (slv rA n rc) j::⟨rA,177,rcs⟩::X) r wB)(hB:B≤1000000000)(hr:Row rA n rc 18 es rcs)(hn:n≤1000):
  Ret Tryz.prog 115 [pt gr,.int .i64 t,.int .u16 c] wB (fun _ w'=>∃(z:MO)(rA':Option Nat)(rc':Nat)(es' rcs':List Value),RnI w0 B (RD.hp gr {r with y:=z} (slv rA' (n+1) rc') j::⟨rA',177,rcs'⟩::X) {r with y:=z} w'∧Row rA' (n+1) rc' 18 es' rcs'∧(es.all (·.oneCell')=true→es'.all (·.oneCell')=true)∧Mm (own (r.hp gr (slv rA n rc) j::⟨rA,177,rcs⟩::X)) wB (RD.hp gr {r with y:=z} (slv rA' (n+1) rc') j::⟨rA',177,rcs'⟩::X) w'):=by
 obtain⟨M0,hM0⟩:∃M0,r.hp gr (slv rA n rc) j::⟨rA,177,rcs⟩::X=M0:=⟨_,rfl⟩
 have hm0:=hM
 rw[hM0]at hI hM hm0 ⊢
 rw[←hM0]at hm0
 have hm0':Mm (own M0) wB (r.hp gr (slv rA n rc) j::⟨rA,177,rcs⟩::X) wB:=by rw[hM0];exact hM
 clear hm0
 unfold RD.hp RD.cs at hm0'
 refine enterR Tryz.func115 rfl rfl rfl fun a hs hm=>?_
 clear hm
 have hm:=hm0'
 have kvl:∀(w'':World),Ret Tryz.prog 123 [.int .i64 (IntKind.i64.wrap c),.bool true] w'' (fun u w'=>u= .agg #[.int .u8 0,.int .u16 (IntKind.u16.wrap (failF (IntKind.i64.wrap c) true)),.int .i64 0,.int .i64 0,nS,.int .i64 (-1),.bool false]∧Pu w'' w'):=fun w''=>vlu_c (IntKind.i64.wrap c) true w''
 have kwk:∀(w:World)(M':List Hp),Mm (own M0) wB M' w→Ret Tryz.prog 129 [.agg #[.slice r.p.cA r.p.code.length r.p.cc,.slice r.p.sA r.p.ss.length r.p.sc,.slice r.p.dA r.p.ws.length r.p.dc],.agg #[slv r.y.bA r.y.bs.length r.y.bc,.int .u16 r.y.key,slv r.y.m.cA r.y.m.xs.length r.y.m.cc,slv r.y.m.lA r.y.m.ls.length r.y.m.lc,slv r.y.tA r.y.ts.length r.y.tc],.int .i64 t,.agg #[.int .u8 0,.int .u16 (IntKind.u16.wrap (failF (IntKind.i64.wrap c) true)),.int .i64 0,.int .i64 0,nS,.int .i64 (-1),.bool false]] w (fun u w'=>∃(z:MO)(b:Bool),u= .tuple #[.agg #[slv z.bA z.bs.length z.bc,.int .u16 z.key,slv z.m.cA z.m.xs.length z.m.cc,slv z.m.lA z.m.ls.length z.m.lc,slv z.tA z.ts.length z.tc],.bool b]∧z.ok∧z.d.val r.p.ss B∧(z=r.y∨New w w' z.hps)∧Pu w w'):=fun w M' hm=>rwake_c r.p r.y B t (valR (IntKind.i64.wrap c) true) w (hI.p.at_ hm) hI.pv (MO.of_new (hI.y.at_ hm) hI.yo) hI.yo hI.yv hB (valR_ok _ _ _) (valR_fit _ _)
 repeat(first|(refine gpSht0_ ?_;clear hs hm a;intros;rename_i a hm hs)|refine sc_ ?_|((with_reducible apply lCons);first|(refine dvc hs hm gw_ rfl rfl rfl rfl rfl (pl 123 rfl) (kvl _) ?_;clear hs hm a;intro w hm a hs)))
 obtain⟨g6,rfl⟩:=hs.pp 6
 refine cMid (fun a w=>∃(z:MO)(R:List Hp),z.ok∧z.d.val r.p.ss B∧(z=r.y∨z.hps=R)∧(∀x∈R,∀g,x.g=some g→w0.heap.size≤g)∧Sl Tryz.f115.ntmps [(0,pt gr),(1,.int .i64 t),(6,pt g6)] a∧Mm (own M0) wB (⟨some g6,175,[.int .u8 0,.int .u16 (IntKind.u16.wrap (failF (IntKind.i64.wrap c) true)),.int .i64 0,.int .i64 0,nS,.int .i64 (-1),.bool false]⟩::⟨some gr,87,(r.p.cl (z.cl (slv z.tA z.ts.length z.tc::r.o.cl (r.o.f.cl [.slice r.o.us.A r.o.us.us.length r.o.us.c,.slice r.k.o.A r.k.o.n r.k.o.c,.slice r.k.qA r.k.qs.length r.k.qc,slv rA n rc,j]))))⟩::⟨rA,177,rcs⟩::(X++R)) w) ?_ ?_
 ·with_reducible repeat(first|apply gThen|apply wp_seq)
  refine cDrawTB (n:=18) (.s [0,1,2,3,4,5,6,7,8,9,10]<| .o 11<| .x<| .s [12,13,14,15,16]<| .o 17<| .d) 17 [⟨some g6,175,[.int .u8 0,.int .u16 (IntKind.u16.wrap (failF (IntKind.i64.wrap c) true)),.int .i64 0,.int .i64 0,nS,.int .i64 (-1),.bool false]⟩,⟨some gr,87,(r.p.cl (r.y.cl (slv r.y.tA r.y.ts.length r.y.tc::r.o.cl (r.o.f.cl [.slice r.o.us.A r.o.us.us.length r.o.us.c,.slice r.k.o.A r.k.o.n r.k.o.c,.slice r.k.qA r.k.qs.length r.k.qc,slv rA n rc,j]))))⟩] hm rfl rfl ?_
  clear hm;intro t_ w1_ hm
  repeat' (first|(refine dg95fa_ ?_;clear t_ hs hm a;intros;rename_i a hm hs t_)|refine tEB t_ ?_|refine tCB ?_ ?_|exact tNB|intro t_|(refine oDoB (i:=11) hs rfl (Wnt.none rfl) rfl rfl (by exact d_call hs rfl rfl rfl (pl 129 rfl) ((kwk _ _ hm))) ?_;clear hs;rintro _ w1 ⟨z,b,rfl,zo,zv,hz,hf⟩ a hs;(obtain⟨R,hN,hzR⟩:=zR hz);(have hRf:=fun x hx g hg=>Nat.le_trans hI.sz (Nat.le_trans hm.fr.size (hN.fresh x hx g hg)));(replace hm:=gainE hm hf hN);(clear hf hN hz);(simp only[List.cons_append,List.nil_append]at hm);replace t_:=tX t_;refine⟨bu_,?_⟩)|(refine tDB t_ ?_;(exact And.intro rfl ⟨z,R,zo,zv,hzR,hRf,(sb_ hs),hm⟩))|fail)
 clear hs hm a
 rintro a w ⟨z,R,zo,zv,hzR,hRf,hs,hm⟩
 refine cMid (fun a w=>∃(rA':Option Nat)(rc':Nat)(rcs':List Value),Row rA' (n+1) rc' 18 (es++[.int .i64 4,.int .i64 t,.int .i64 0,.int .i64 0,.int .i64 0,.int .i64 0,.int .i64 0,.int .i64 0,.int .i64 0,nS,nS,.int .u8 0,.int .u16 (IntKind.u16.wrap (failF (IntKind.i64.wrap c) true)),.int .i64 0,.int .i64 0,nS,.int .i64 (-1),.bool false]) rcs'∧Sl Tryz.f115.ntmps [] a∧Mm (own M0) wB (⟨some gr,87,(r.p.cl (z.cl (slv z.tA z.ts.length z.tc::r.o.cl (r.o.f.cl [.slice r.o.us.A r.o.us.us.length r.o.us.c,.slice r.k.o.A r.k.o.n r.k.o.c,.slice r.k.qA r.k.qs.length r.k.qc,slv rA' (n+1) rc',j]))))⟩::⟨rA',177,rcs'⟩::(X++R)) w) ?_ ?_
 ·with_reducible repeat(first|apply gThen|apply wp_seq)
  refine cDrawTB (n:=13) (.s [0,1,2,3,4,5,6,7]<| .o 8<| .o 9<| .x<| .s [10,11]<| .o 12<| .d) 12 [⟨some g6,175,[.int .u8 0,.int .u16 (IntKind.u16.wrap (failF (IntKind.i64.wrap c) true)),.int .i64 0,.int .i64 0,nS,.int .i64 (-1),.bool false]⟩,⟨some gr,87,(r.p.cl (z.cl (slv z.tA z.ts.length z.tc::r.o.cl (r.o.f.cl [.slice r.o.us.A r.o.us.us.length r.o.us.c,.slice r.k.o.A r.k.o.n r.k.o.c,.slice r.k.qA r.k.qs.length r.k.qc,slv rA n rc,j]))))⟩] hm rfl rfl ?_
  clear hm;intro t_ w1_ hm
  repeat' (first|(refine dg95fa_ ?_;clear t_ hs hm a;intros;rename_i a hm hs t_)|refine tEB t_ ?_|refine tCB ?_ ?_|exact tNB|intro t_|(refine oDoB (i:=9) hs rfl (Wnt.none rfl) rfl rfl (by exact d_append (A:=rA) (n:=n) (c:=rc) (news:=[.int .i64 4,.int .i64 t,.int .i64 0,.int .i64 0,.int .i64 0,.int .i64 0,.int .i64 0,.int .i64 0,.int .i64 0,nS,nS,.int .u8 0,.int .u16 (IntKind.u16.wrap (failF (IntKind.i64.wrap c) true)),.int .i64 0,.int .i64 0,nS,.int .i64 (-1),.bool false]) hs rfl rfl rfl rfl rfl tab rfl rfl rfl rfl rfl hm mem_ hr rfl (hm.ro (n:=18) mem_ (cutF_ok rfl)) rfl (by show(n+1)*184≤_;omega) (by omega)) ?_;clear hs;rintro _ w1 ⟨rA',rc',rcs',rfl,hr',hM'⟩ a hs;(replace hm:=hM' _ rep_);(clear hM');replace t_:=tX t_;refine⟨bu_,?_⟩)|(refine tDB t_ ?_;(exact And.intro rfl ⟨rA',rc',rcs',hr',hs.sub (Has.all trivial),hm.sub sub_⟩))|fail)
 clear hs hm a
 rintro a w ⟨rA',rc',rcs',hr',hs,hm⟩
 refine gEnd tab hs rfl .nil ?_
 exact⟨z,rA',rc',_,rcs',hI.set_y2 (M:=RD.hp gr {r with y:=z} (slv rA' (n+1) rc') j::⟨rA',177,rcs'⟩::X) hm hRf hzR zo zv,hr',(fun h=>by rw[List.all_append,h];rfl),hm.sub (List.Sublist.cons_cons _ (List.Sublist.cons_cons _ (List.sublist_append_left _ _)))⟩
end Go.Proofs.YtbjffoojenpmfaaGreat
