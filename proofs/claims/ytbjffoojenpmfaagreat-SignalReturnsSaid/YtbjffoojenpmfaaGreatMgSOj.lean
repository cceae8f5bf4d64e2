/- Texts put together: Sgp, Sgr, Sgs, Shk, Shl, Shm. -/
import Derived.Test.YtbjffoojenpmfaaGreatMgSOi
set_option maxRecDepth 20000
set_option maxHeartbeats 64000000
set_option linter.unusedVariables false
set_option linter.unusedSimpArgs false
namespace Go.Proofs.YtbjffoojenpmfaaGreat
open Go.RowKit
theorem gpSgp0_{G H:Prop}(k:H)(s:Bx H→G:=by intro k_;(repeat(first|(refine ovR_ ?_;(try clear hs a);intro a hs)|((with_reducible apply lCons);first|(refine dv hs gw_ rfl rfl da_ ?_;(try clear hs hm a);rintro _ w_ ⟨g_,rfl,-,hm⟩ a hs)|(refine stn hs rfl rfl ds_ ?_;(try clear hs hm a);rintro-w_ hm a hs))|refine sc_ ?_));have m_:=hm;have s_:=hs;clear hs;(try clear hm);revert m_ s_ a;(try revert w_);(repeat revert g_);exact k_.h):G:=s ⟨k⟩
theorem Mm.old{w0 w:World}{A B:List Hp}(hm:Mm (fun _=>False) w0 (A++B) w){b:Nat}(hb:b<w0.heap.size):¬own B b:=fun⟨x,hx,e⟩=>by
 rcases hm.ow x (List.mem_append_right _ hx) b e with h|h
 ·omega
 ·exact h
theorem MO.d_th{y:MO}{t:Nat}{q:ThD}(h:y.d.ts[t]?=some q):∃x,y.ts[t]?=some x∧x.d=q:=by
 unfold MO.d at h
 dsimp only at h
 rw[List.getElem?_map]at h
 cases hx:y.ts[t]? with
 |none=>rw[hx]at h;cases h
 |some x=>rw[hx]at h;exact⟨x,rfl,Option.some.inj h⟩
theorem MV.d_th{y:MV}{t:Nat}{q:ThD}(h:y.d.ts[t]?=some q):∃x,y.ts[t]?=some x∧x.d=q:=by
 unfold MV.d at h
 dsimp only at h
 rw[List.getElem?_map]at h
 cases hx:y.ts[t]? with
 |none=>rw[hx]at h;cases h
 |some x=>rw[hx]at h;exact⟨x,rfl,Option.some.inj h⟩
theorem slv_inj{A:Option Nat}{n c g m d:Nat}(h:slv A n c=slv (some g) m d):A=some g∧n=m∧c=d:=by
 cases A with
 |none=>cases h
 |some k=>
  unfold slv at h
  simp only[Option.map_some,Value.slice.injEq,Option.some.injEq,Addr.mk.injEq]at h
  obtain⟨⟨rfl,-⟩,rfl,rfl⟩:=h
  exact⟨rfl,rfl,rfl⟩
theorem MO.v_vs(x:MO):x.v= .agg x.vs.toArray:=rfl
theorem MO.vs_t{x y:MO}{g:Nat}(h:x.vs=y.vs)(hy:y.tA=some g):x.tA=some g∧x.ts.length=y.ts.length∧x.tc=y.tc:=by
 have:=congrArg (fun l=>l[4]?) h
 unfold MO.vs at this
 simp only[List.getElem?_cons_succ,List.getElem?_cons_zero,Option.some.injEq]at this
 rw[hy]at this
 exact slv_inj this
theorem MD.val.up [HB]{d:MD}{ss:List Int}{B C:Int}(h:d.val ss B)(hBC:B≤C):d.val ss C:=⟨h.gap,h.key,h.n,h.l,h.t,h.cv,h.ll,fun q hq=>(h.tt q hq).up hBC⟩
theorem Mm.swapE{S:Nat→Prop}{w0 w w':World}(L:List Hp){A A':List Hp}(hm:Mm S w0 (L++A) w)(hk:Mm (own A) w A' w'):Mm S w0 (L++A') w':=by
 have:=Mm.swapL L (A:=A) (B:=[]) (by rwa[List.append_nil]) hk
 rwa[List.append_nil]at this
theorem Mm.notinR{S:Nat→Prop}{w0 w:World}{A B:List Hp}(hm:Mm S w0 (A++B) w){x:Hp}(hx:x∈A){g:Nat}(hg:x.g=some g):¬own B g:=fun⟨z,hz,e⟩=>hm.dj.cross2 x hx z hz g hg e
structure SlX where
 Y:MO
 k:Nat
 q:ThD
theorem slc_c [HB](p:PV)(x:MV)(B:Int)(t:Nat)(n:Int)(q0:ThD)(wB:World)(hp:p.ok wB)(hpv:p.val)(hx:x.ok wB)(h:x.d.val p.ss B)(hcap:x.bs.length≤x.bc)(hB:B≤1000000000)(ht:t<4)(hn:1≤n∧n≤64)(hq0:x.d.ts[t]?=some q0) (hst:q0.st=1):
  Ret Tryz.prog 107 [p.v,x.v,.int .i64 (t:Int),.int .i64 n] wB (fun u w'=>∃(z:MO)(s:Int)(q:ThD),u= .tuple #[z.v,.int .i64 s,.int .i64 0]∧z.ok∧z.d.val p.ss (B+20000)∧z.d.ts[t]?=some q∧(s=0∨s=1∨s=2)∧(s=1→1≤q.pc∧q.pc≤(p.code.length:Int)∧∃i,p.code[(q.pc-1).toNat]?=some i∧i.op=23)∧New wB w' z.hps∧Pu wB w'):=by
 have hsm:=h.sm hpv.sz
 have k1:=fun w'' (hf:Pu wB w'')=>xval_c p x B w'' (hp.pu hf) hpv (hx.pu hf) h hcap (by omega)
 have k2:=fun w'' (hf:Pu wB w'')=>rcp_c x w'' (hx.pu hf) hsm
 have htl:x.ts.length=4:=by have:=h.t;rwa[MV.d_len]at this
 obtain⟨xt,hxt,hxd⟩:=MV.d_th hq0
 have htx:t<x.ts.length:=by omega
 obtain⟨bt,ot,hbt,hbt2,rt⟩:=hx.t.ro (by rw[flat_len ThV.v 8 ThV.len];omega)
 have q1:=rt.flat ThV.len htx
 rw[(List.getElem?_eq_some_iff.1 hxt).2]at q1
 unfold ThV.v at q1
 rw[hxd,hst]at q1
 have hpe:p.v= .agg #[.slice p.cA p.code.length p.cc,.slice p.sA p.ss.length p.sc,.slice p.dA p.ws.length p.dc]:=rfl
 have hxe:x.v= .agg #[.slice x.bA x.bs.length x.bc,.int .u16 x.key,.slice x.cA x.xs.length x.cc,.slice x.lA x.ls.length x.lc,.slice (some ⟨bt,ot,none⟩) x.ts.length x.tc]:=by unfold MV.v;rw[hbt]
 rw[hpe,hxe]at k1 ⊢
 rw[hxe]at k2
 refine enterR Tryz.func107 rfl rfl rfl fun a hs hm=>?_
 repeat(first|(refine gpSgp0_ ?_;clear hs hm a;intros;rename_i a hm hs)|refine sc_ ?_|((with_reducible apply lCons);first|(refine dvc hs hm gw_ rfl rfl rfl rfl rfl (pl 27 rfl) (k1 _ hm.fr) ?_;clear hs hm a;intro w hm a hs)))
 obtain⟨g4,rfl⟩:=hs.pp 4
 obtain⟨g5,rfl⟩:=hs.pp 5
 obtain⟨g8,rfl⟩:=hs.pp 8
 refine st hs rfl rfl rfl (d_call hs rfl rfl rfl (pl 19 rfl) ((k2 _ hm.fr))) ?_;clear hs a;rintro _ w1 ⟨y,rfl,hyo,hyd,hN,hf⟩ a hs
 replace hm:=gainE hm hf hN
 clear hN hf
 unfold MO.v at hs
 have hyl:y.ts.length=4:=by have:=congrArg (fun d=>d.ts.length) hyd;rwa[MO.d_len,MV.d_len,htl]at this
 obtain⟨qy,hqy,hqyd⟩:=MO.d_th (hyd▸hq0)
 have hty:t<y.ts.length:=by omega
 have hot:=hyo.t
 obtain⟨gt,hgt⟩:=hot.some_ (by omega)
 have hyv:y.d.val p.ss B:=hyd▸h
 have hcnt:=(h.tt q0 (List.mem_of_getElem? hq0)).cnt
 have hpc0:=(h.tt q0 (List.mem_of_getElem? hq0)).pc
 have e3:y.tcs[t*8+3]?=some (.int .i64 q0.cnt):=hot.get (by rw[flat_get ThO.v 8 ThO.len y.ts t 3 hty (by omega),(List.getElem?_eq_some_iff.1 hqy).2,←hqyd];rfl)
 rw[hgt,hyl]at hs
 have hps:∀Z:MO,Z.hps=⟨Z.tA,52,Z.tcs⟩::(⟨Z.bA,3,Z.bcs⟩::(Z.m.hps++Z.ts.map ThO.hp)):=fun Z=>rfl
 rw[hps,hgt]at hm
 generalize hRe:(⟨y.bA,3,y.bcs⟩:Hp)::(y.m.hps++y.ts.map ThO.hp)=R at hm
 have hR:(⟨some gt,52,y.tcs⟩:Hp)::R=y.hps:=by rw[←hRe,hps,hgt]
 refine gsce98_ ?_;clear hs hm a;intros;rename_i a hm hs
 obtain⟨g11,rfl⟩:=hs.pp 11
 rw[hR]at hm
 have hN:p.at wB wB.heap.size:=hp.at
 have hvse:y.vs=(y.cl [slv (some gt) 4 y.tc]):=by unfold MO.vs;rw[hgt,hyl]
 refine cLoop (X:=SlX) (fun X a w'=>X.Y.ok∧X.Y.d.val p.ss (B+X.k)∧X.Y.vs=y.vs∧X.Y.d.ts[t]?=some X.q∧X.q.cnt<q0.cnt+n∧(q0.cnt+n-X.q.cnt)*300+(256-X.q.pc)+X.k≤19999∧Sl Tryz.f107.ntmps [(2,.int .i64 (t:Int)),(4,pt g4),(8,pt g8),(11,pt g11),(12,.int .i64 (q0.cnt+n))] a∧Mm (fun _=>False) wB ([⟨some g11,32,(y.cl [slv (some gt) 4 y.tc])⟩,⟨some g8,32,[nS,.int .u16 0,nS,nS,nS]⟩,⟨some g4,38,(p.cl [])⟩]++X.Y.hps) w') (fun X=>((q0.cnt+n-X.q.cnt)*300+(256-X.q.pc)).toNat) ⟨y,0,q0⟩ ⟨hyo,by dsimp only;rw[show B+((0:Nat):Int)=B by omega];exact hyv,rfl,hyd▸hq0,by dsimp only;omega,by dsimp only;omega,(sb_ hs),hm.sub (List.Sublist.cons_cons _ (List.Sublist.cons_cons _ (List.Sublist.cons _ (List.Sublist.refl _))))⟩ ?_
 clear hs hm a
 rintro⟨Y,k,q⟩ a w' ⟨h1,h2,h3,h4,h5,h6,hs,hm⟩
 dsimp only at*
 have hqb:=(h2.tt q (List.mem_of_getElem? h4)).pc
 have hqc:=(h2.tt q (List.mem_of_getElem? h4)).cnt
 refine gsce98_ ?_;clear hs hm a;intros;rename_i a hm hs
 refine st hs rfl rfl rfl (d_call hs rfl rfl rfl (pl 28 rfl) ((one_c p wB.heap.size g11 Y (B+k) t _ (hN.fr hm.fr (Nat.le_refl _) (fun b _ e=>e)) hpv hm.fr.size (hm.sub (List.sublist_append_right _ _)).rebase (fun b hb=>hm.old hb) h1 h2 (by omega) (by rw[h3,hvse];exact hm.ro (k:=0) (n:=5) mem_ (cutF_ok rfl)) (hm.notinR (x:=⟨some g11,32,(y.cl [slv (some gt) 4 y.tc])⟩) mem_ rfl) ht))) ?_;clear hs a;rintro _ w1 ⟨Z,s,qa,qb,rfl,z1,z2,z3,z4,z5,z6,hk⟩ a hs
 replace hm:=hm.swapE _ hk
 clear hk
 rw[h4]at z4
 rcases z4
 have hb2:=(z2.tt qb (List.mem_of_getElem? z5)).pc
 have hb3:=(z2.tt qb (List.mem_of_getElem? z5)).cnt
 obtain⟨zA,zl,zc⟩:=MO.vs_t (z3.trans h3) hgt
 obtain⟨qz,hqz,hqzd⟩:=MO.d_th z5
 have e3':Z.tcs[t*8+3]?=some (.int .i64 qb.cnt):=z1.t.get (by rw[flat_get ThO.v 8 ThO.len Z.ts t 3 (by omega) (by omega),(List.getElem?_eq_some_iff.1 hqz).2,←hqzd];rfl)
 have hZv:Z.v= .agg #[slv y.bA y.bs.length y.bc,.int .u16 y.key,slv y.m.cA y.m.xs.length y.m.cc,slv y.m.lA y.m.ls.length y.m.lc,slv (some gt) 4 y.tc]:=by rw[MO.v_vs,z3,h3,hvse]
 have hfin:∀(s':Int)(w':World),(s'=0∨s'=1∨s'=2)→(s'=1→1≤qb.pc∧qb.pc≤(p.code.length:Int)∧∃i,p.code[(qb.pc-1).toNat]?=some i∧i.op=23)→New wB w' Z.hps→Pu wB w'→∃(z:MO)(s:Int)(q:ThD),Value.tuple #[.agg #[slv y.bA y.bs.length y.bc,.int .u16 y.key,slv y.m.cA y.m.xs.length y.m.cc,slv y.m.lA y.m.ls.length y.m.lc,slv (some gt) 4 y.tc],.int .i64 s',.int .i64 0]= .tuple #[z.v,.int .i64 s,.int .i64 0]∧z.ok∧z.d.val p.ss (B+20000)∧z.d.ts[t]?=some q∧(s=0∨s=1∨s=2)∧(s=1→1≤q.pc∧q.pc≤(p.code.length:Int)∧∃i,p.code[(q.pc-1).toNat]?=some i∧i.op=23)∧New wB w' z.hps∧Pu wB w':=
  fun s' w' i1 i2 i3 i4=>⟨Z,s',qb,by rw[hZv],z1,z2.up (by omega),z5,i1,i2,i3,i4⟩
 by_cases hs1:s=-1
 ·subst hs1
  rw[hps,zA]at hm
  generalize hRe2:(⟨Z.bA,3,Z.bcs⟩:Hp)::(Z.m.hps++Z.ts.map ThO.hp)=R2 at hm
  have hR2:(⟨some gt,52,Z.tcs⟩:Hp)::R2=Z.hps:=by rw[←hRe2,hps,zA]
  rcases z6 with⟨-,a1,a2,a3,a4⟩|⟨e,_⟩|e
  ·by_cases hu:qb.cnt=q0.cnt+n
   ·rw[hu]at e3'
    refine gsce98_ ?_;clear hs hm a;intros;rename_i a hm hs
    rw[hR2]at hm
    refine gRetN tab hs rfl (.cons (.cells rfl rfl rfl rfl (hm.ro (k:=0) (n:=5) (g:=g8) mem_ (cutF_ok rfl))) (.cons (.tmp rfl) (.cons (.tmp rfl) .nil))) (hfin 0 _ (.inl rfl) (fun e=>by cases e) (hm.new ?_) hm.fr)
    exact z12cd_
   ·refine gsce98_ ?_;clear hs hm a;intros;rename_i a hm hs
    rw[hR2]at hm
    exact⟨⟨Z,k+1,qb⟩,by dsimp only;omega,⟨z1,by dsimp only;rw[show B+((k+1:Nat):Int)=B+k+1 by omega];exact z2,z3.trans h3,z5,by dsimp only;omega,by dsimp only;omega,(sb_ hs),hm⟩⟩
  ·omega
  ·omega
 ·rcases z6 with⟨e,_⟩|⟨rfl,a1,a2,a3,i,a4,a5⟩|rfl
  ·exact absurd e hs1
  ·refine gsce98_ ?_;clear hs hm a;intros;rename_i a hm hs
   refine gRetN tab hs rfl (.cons (.cells rfl rfl rfl rfl (hm.ro (k:=0) (n:=5) (g:=g8) mem_ (cutF_ok rfl))) (.cons (.tmp rfl) (.cons (.tmp rfl) .nil))) (hfin 1 _ (.inr (.inl rfl)) (fun e=>⟨by omega,by omega,i,by rw[show qb.pc-1=q.pc by omega];exact a4,a5⟩) (hm.new ?_) hm.fr)
   exact z12cd_
  ·refine gsce98_ ?_;clear hs hm a;intros;rename_i a hm hs
   refine gRetN tab hs rfl (.cons (.cells rfl rfl rfl rfl (hm.ro (k:=0) (n:=5) (g:=g8) mem_ (cutF_ok rfl))) (.cons (.tmp rfl) (.cons (.tmp rfl) .nil))) (hfin 2 _ (.inr (.inr rfl)) (fun e=>by cases e) (hm.new ?_) hm.fr)
   exact z12cd_
theorem gpSgr0_{G H:Prop}(k:H)(s:Bx H→G:=by intro k_;(repeat(first|(refine ov1817_ ?_;(try clear hs a);intro a hs)|((with_reducible apply lCons);first|(refine dv hs gw_ rfl rfl da_ ?_;(try clear hs hm a);rintro _ w_ ⟨g_,rfl,-,hm⟩ a hs)|(refine stn hs rfl rfl ds_ ?_;(try clear hs hm a);rintro-w_ hm a hs))|refine sc_ ?_));have m_:=hm;have s_:=hs;clear hs;(try clear hm);revert m_ s_ a;(try revert w_);(repeat revert g_);exact k_.h):G:=s ⟨k⟩
theorem gcSgr1_{G H:Prop}(k:H)(s:Bx H→G:=by intro k_;(repeat(first|(refine oq2d6d_ ?_;(try clear hs a);intro a hs)|((with_reducible apply lCons);first|(refine dv hs gw_ rfl rfl da_ ?_;(try clear hs hm a);rintro _ w_ ⟨g_,rfl,-,hm⟩ a hs)|(refine stn hs rfl rfl ds_ ?_;(try clear hs hm a);rintro-w_ hm a hs))|((with_reducible apply qNil);(try clear hm);intro w_ hm)|refine cQ_ ?_|refine sc_ ?_|((with_reducible apply lCons);first|(refine dvc hs hm gw_ rfl rfl rfl rfl rfl (pl 119 rfl) (hkf _) ?_;(try clear hs hm a);intro w_ hm a hs))|((with_reducible apply qCons);first|(refine qwc hs gw_ rfl rfl rfl rfl rfl (pl 119 rfl) (fun w hm=>hkf _) ?_;(try clear hs a);intro a hs))));(first|(have m_:=hm;have s_:=hs;clear hs;(try clear hm);revert m_ s_ a)|((first|refine rexc_ hs hm ?_|refine rexl_ hs hm ?_|refine rexg_ hs hm ?_|refine rexq_ hs hm ?_);intro a hm hs;revert hm hs a));(try revert w_);(repeat revert g_);exact k_.h):G:=s ⟨k⟩
theorem gcSgr2_{G H:Prop}(k:H)(s:Bx H→G:=by intro k_;(repeat(first|(refine oq2d6d_ ?_;(try clear hs a);intro a hs)|((with_reducible apply lCons);first|(refine dv hs gw_ rfl rfl da_ ?_;(try clear hs hm a);rintro _ w_ ⟨g_,rfl,-,hm⟩ a hs)|(refine stn hs rfl rfl ds_ ?_;(try clear hs hm a);rintro-w_ hm a hs))|((with_reducible apply qNil);(try clear hm);intro w_ hm)|refine cQ_ ?_|refine sc_ ?_|((with_reducible apply lCons);first|(refine dvc hs hm gw_ rfl rfl rfl rfl rfl (pl 111 rfl) (kb _) ?_;(try clear hs hm a);intro w_ hm a hs)|(refine dvc hs hm gw_ rfl rfl rfl rfl rfl (pl 120 rfl) (kw _ hm.fr) ?_;(try clear hs hm a);intro w_ hm a hs))|((with_reducible apply qCons);first|(refine qwc hs gw_ rfl rfl rfl rfl rfl (pl 111 rfl) (fun w hm=>kb _) ?_;(try clear hs a);intro a hs)|(refine qwc hs gw_ rfl rfl rfl rfl rfl (pl 120 rfl) (fun w hm=>kw _ hm.fr) ?_;(try clear hs a);intro a hs))));(first|(have m_:=hm;have s_:=hs;clear hs;(try clear hm);revert m_ s_ a)|((first|refine rexc_ hs hm ?_|refine rexl_ hs hm ?_|refine rexg_ hs hm ?_|refine rexq_ hs hm ?_);intro a hm hs;revert hm hs a));(try revert w_);(repeat revert g_);exact k_.h):G:=s ⟨k⟩
def lsX(p:PV)(x:MV):LS:=⟨x.bA,p.ss.length,x.bc,x.bs,x.key,p.sA,p.sc,p.ss⟩
theorem lsX_ok [HB]{p:PV}{x:MV}{B:Int}{w:World}(hp:p.ok w)(hpv:p.val)(hx:x.ok w)(h:x.d.val p.ss B):(lsX p x).ok w:=by
 have hg:LGap x.bs p.ss:=h.gap
 refine⟨hg.len,rfl,hx.b,hp.s,fun z hz=>?_,hpv.sz.bd,hpv.sz.four⟩
 replace hz:z∈x.bs:=hz
 obtain⟨k,hk,rfl⟩:=List.mem_iff_getElem.1 hz
 have h1:=hg.len
 have h2:=hg.b k hk
 have h3:=hpv.sz.bd _ (List.getElem_mem (show k<p.ss.length by omega))
 rw[getI hk,getI (l:=p.ss) (k:=k) (by omega)]at h2
 omega
theorem lsX_l [HB]{p:PV}{x:MV}{B:Int}(h:x.d.val p.ss B):(lsX p x).l= .agg #[.slice x.bA x.bs.length x.bc,.int .u16 x.key]:=by
 have hg:LGap x.bs p.ss:=h.gap
 unfold lsX LS.l
 dsimp only
 rw[hg.len]
theorem lsX_s(p:PV)(x:MV):(lsX p x).s= .slice p.sA p.ss.length p.sc:=rfl
theorem wi_ok{X:LS}(hg:LGap X.bs X.ss)(hn:X.n=X.ss.length){t v n:Int}(h:(wiF X t v n).2=0):t=1∧v+n≤512∧0≤v:=by
 unfold wiF at h
 split at h
 ·next ht=>
  refine⟨ht,?_⟩
  cases hr:resF X.bs X.ss v X.n with
  |none=>rw[hr]at h;exact absurd (show(4:Int)=0 from h) (by decide)
  |some p=>
   obtain⟨r,o⟩:=p
   rw[hr]at h
   dsimp only at h
   obtain⟨h1,h2,h3,h4⟩:=resF_at hr
   have hb:=hg.b r (by have:=hg.len;omega)
   split at h
   ·exact absurd h (by decide)
   ·omega
 ·exact absurd h (by decide)
structure ChkOk [HB](q:ThD)(call:Int):Prop where
 k:∀j (h:j<(kndF call).length) (h':j<q.xs.length),fitB (kndF call)[j] q.xs[j].t=true
 b:0<bufF call→∀c1 c2,q.xs[1]?=some c1→q.xs[2]?=some c2→c2.v≤16∧c1.v+c2.v≤512
 h:call=12→∀c,q.xs[0]?=some c→c.v≤HB.h
theorem rchk_c [HB](p:PV)(x:MV)(B:Int)(t:Nat)(q:ThD)(i:In)(wB:World)(hp:p.ok wB)(hpv:p.val)(hx:x.ok wB)(h:x.d.val p.ss B)(ht:t<4)(hq:x.d.ts[t]?=some q) (hq1:1≤q.pc) (hi:p.code[(q.pc-1).toNat]?=some i) (hop:i.op=23):
  Ret Tryz.prog 108 [p.v,x.v,.int .i64 (t:Int)] wB (fun u w'=>∃why,u= .int .i64 why∧(why=0∨why=6)∧(why=0→ChkOk q i.m)∧Pu wB w'):=by
 have hsm:=h.sm hpv.sz
 have hg:LGap x.bs p.ss:=h.gap
 have htl:x.ts.length=4:=by have:=h.t;rwa[MV.d_len]at this
 obtain⟨xt,hxt,hxd⟩:=MV.d_th hq
 have htx:t<x.ts.length:=by omega
 have hqv:=h.tt q (List.mem_of_getElem? hq)
 obtain⟨bt,ot,hbt,hbt2,rt⟩:=hx.t.ro (by rw[flat_len ThV.v 8 ThV.len];omega)
 have q1:=rt.flat ThV.len htx
 rw[(List.getElem?_eq_some_iff.1 hxt).2]at q1
 have hxr:=hx.tt xt (List.mem_of_getElem? hxt)
 obtain⟨A,c,d⟩:=xt
 dsimp only at hxd
 subst hxd
 have hqn:=hqv.n
 obtain⟨br,obr,hA,hbr,rr⟩:=hxr.ro (by rw[cvs_len];dsimp only;omega)
 dsimp only at hA hxr rr
 subst hA
 unfold ThV.v at q1
 dsimp only at q1
 rw[hqn]at q1
 obtain⟨pc,hpc⟩:∃pc:Nat,(d.pc-1).toNat=pc:=⟨_,rfl⟩
 rw[hpc]at hi
 have hpc2:d.pc=((pc+1:Nat):Int):=by omega
 rw[hpc2]at q1
 obtain⟨hpl,hci⟩:=List.getElem?_eq_some_iff.1 hi
 have hc2:=hpv.c2
 obtain⟨bc,oc,hcA,hbc,rc⟩:=hp.c.ro (by rw[flat_len inV 5 inV_len];omega)
 have q2:=rc.flat inV_len hpl
 rw[hci]at q2
 unfold inV at q2
 have hiv:=hpv.inv i (by rw[←hci];exact List.getElem_mem hpl)
 have hm1:=hiv.m
 have hm2:=hiv.sys hop
 generalize hcall:i.m=call at*
 have hr0:=rr.flat CV.cs_len (k:=0) (by omega)
 have hr1:=rr.flat CV.cs_len (k:=1) (by omega)
 have hr2:=rr.flat CV.cs_len (k:=2) (by omega)
 have hv1:=hqv.cv _ (List.getElem_mem (show 1<d.xs.length by omega))
 have hv2:=hqv.cv _ (List.getElem_mem (show 2<d.xs.length by omega))
 have hv0:=hqv.cv _ (List.getElem_mem (show 0<d.xs.length by omega))
 obtain⟨c0,hc0⟩:∃c,d.xs[0]'(by omega)=c:=⟨_,rfl⟩
 obtain⟨c1,hc1⟩:∃c,d.xs[1]'(by omega)=c:=⟨_,rfl⟩
 obtain⟨c2,hcc2⟩:∃c,d.xs[2]'(by omega)=c:=⟨_,rfl⟩
 rw[hc0]at hr0 hv0
 rw[hc1]at hr1 hv1
 rw[hcc2]at hr2 hv2
 unfold CV.cs at hr0 hr1 hr2
 have hw2:IntKind.i64.wrap c2.v=c2.v:=wrap_idP (by have:=hv2.2;omega)
 have hw0:IntKind.i64.wrap c0.v=c0.v:=wrap_idP (by have:=hv0.2;omega)
 have kk:=fun w=>knd_c call w
 have kb:=fun w=>buf_c call w ⟨hm1.1,hm2⟩
 have kw:=fun w'' (hf:Pu wB w'')=>rwi_c (lsX p x) c1.t c1.v (IntKind.i64.wrap c2.v) w'' ((lsX_ok hp hpv hx h).pu hf) hv1.2
 rw[lsX_l h,lsX_s]at kw
 obtain⟨l,hl⟩:∃l,kndF call=l:=⟨_,rfl⟩
 have hll:=kndF_len call
 rw[hl]at kk hll
 have hres:∀(w':World),(∀j (h:j<l.length) (h':j<d.xs.length),fitB l[j] d.xs[j].t=true)→(0<bufF call→c2.v≤16∧c1.v+c2.v≤512)→(call=12→c0.v≤HB.h)→Pu wB w'→∃why,Value.int .i64 0= .int .i64 why∧(why=0∨why=6)∧(why=0→ChkOk d call)∧Pu wB w':=fun w' i1 i2 i0 i3=>⟨0,rfl,.inl rfl,fun _=>⟨by rw[hl];exact i1,fun hb c1' c2' e1 e2=>by
  rw[List.getElem?_eq_getElem (show 1<d.xs.length by omega),hc1]at e1
  rw[List.getElem?_eq_getElem (show 2<d.xs.length by omega),hcc2]at e2
  rw[←Option.some.inj e1,←Option.some.inj e2]
  exact i2 hb,fun h12 c e=>by
  rw[List.getElem?_eq_getElem (show 0<d.xs.length by omega),hc0]at e
  rw[←Option.some.inj e]
  exact i0 h12⟩,i3⟩
 have hbad:∀(w':World),Pu wB w'→∃why,Value.int .i64 6= .int .i64 why∧(why=0∨why=6)∧(why=0→ChkOk d call)∧Pu wB w':=fun w' i3=>⟨6,rfl,.inr rfl,fun e=>absurd e (by decide),i3⟩
 have hpe:p.v= .agg #[.slice (some ⟨bc,oc,none⟩) p.code.length p.cc,.slice p.sA p.ss.length p.sc,.slice p.dA p.ws.length p.dc]:=by unfold PV.v;rw[hcA]
 have hxe:x.v= .agg #[.slice x.bA x.bs.length x.bc,.int .u16 x.key,.slice x.cA x.xs.length x.cc,.slice x.lA x.ls.length x.lc,.slice (some ⟨bt,ot,none⟩) x.ts.length x.tc]:=by unfold MV.v;rw[hbt]
 rw[hpe,hxe]
 refine enterR Tryz.func108 rfl rfl rfl fun a hs hm=>?_
 repeat(first|(refine gpSgr0_ ?_;clear hs hm a;intros;rename_i a hm hs)|refine sc_ ?_|((with_reducible apply lCons);first|(refine dvc hs hm gw_ rfl rfl rfl rfl rfl (pl 118 rfl) (kk _) ?_;clear hs hm a;intro w hm a hs)))
 obtain⟨g3,rfl⟩:=hs.pp 3
 obtain⟨g4,rfl⟩:=hs.pp 4
 obtain⟨g7,rfl⟩:=hs.pp 7
 refine cLoop (X:=Nat) (fun k a w'=>k≤l.length∧(∀j (h:j<l.length) (h':j<d.xs.length),j<k→fitB l[j] d.xs[j].t=true)∧Sl Tryz.f108.ntmps [(3,pt g3),(4,pt g4),(7,pt g7),(8,.int .i64 call),(9,txv l),(29,.int .i64 (l.length:Int)),(30,.int .i64 (k:Int))] a∧Mm (fun _=>False) wB [⟨some g7,52,[.int .i64 d.st,.slice (some ⟨br,obr,none⟩) 8 c,.int .i64 ((pc+1:Nat):Int),.int .i64 d.cnt,.int .i64 d.han,.int .i64 d.sav,.int .i64 d.trp,.int .u16 d.cod]⟩,⟨some g4,32,(x.cl [.slice (some ⟨bt,ot,none⟩) x.ts.length x.tc])⟩,⟨some g3,38,[.slice (some ⟨bc,oc,none⟩) p.code.length p.cc,.slice p.sA p.ss.length p.sc,.slice p.dA p.ws.length p.dc]⟩] w') (fun k=>l.length-k) 0 ⟨Nat.zero_le _,fun j _ _ e=>absurd e (by omega),(sb_ hs),hm⟩ ?_
 clear hs hm a
 rintro k a w' ⟨hk,hfit,hs,hm⟩
 by_cases hlt:k<l.length
 ·have hlk:l[k]?=some l[k]:=List.getElem?_eq_getElem hlt
  have hdk:k<d.xs.length:=by omega
  have hrk:=rr.flat CV.cs_len (k:=k) hdk
  have hkf:=fun w=>fit_c l[k] (d.xs[k]).t w
  unfold CV.cs at hrk
  cases hf:fitB l[k] (d.xs[k]).t
  ·rw[hf]at hkf
   refine gcSgr1_ ?_;clear hs hm a;intros;rename_i a hm hs
   refine gRet1 hs rfl rfl ?_
   exact hbad _ hm.fr
  ·rw[hf]at hkf
   refine gcSgr1_ ?_;clear hs hm a;intros;rename_i a hm hs
   refine⟨k+1,by omega,by omega,fun j e1 e2 e3=>?_,(sb_ hs),hm.sub sub_⟩
   by_cases hjk:j=k
   ·subst hjk;exact hf
   ·exact hfit j e1 e2 (by omega)
 ·replace hfit:∀j (h:j<l.length) (h':j<d.xs.length),fitB l[j] d.xs[j].t=true:=fun j e1 e2=>hfit j e1 e2 (by omega)
  have hke:k=l.length:=by omega
  subst hke
  have hwo:=wi_ok (X:=lsX p x) hg rfl (t:=c1.t) (v:=c1.v) (n:=IntKind.i64.wrap c2.v)
  generalize wiF (lsX p x) c1.t c1.v (IntKind.i64.wrap c2.v)=wr at*
  obtain⟨wa,we⟩:=wr
  dsimp only at hwo kw
  rw[hw2]at hwo
  by_cases hb:0<bufF call
  ·by_cases he:we=0
   ·obtain⟨o1,o2,o3⟩:=hwo he
    subst he
    by_cases h16:c2.v≤16
    ·have hb2:0<bufF call→c2.v≤16∧c1.v+c2.v≤512:=fun _=>⟨h16,o2⟩
     by_cases hv:c0.v<(p.code.length:Int)
     ·by_cases h10:call=10
      ·subst h10
       refine gcSgr2_ ?_;clear hs hm a;intros;rename_i a hm hs
       refine gRet1 hs rfl rfl ?_
       exact hres _ hfit hb2 (fun _=>by have:=hpv.hb;omega) hm.fr
      ·by_cases h12:call=12
       ·subst h12
        refine gcSgr2_ ?_;clear hs hm a;intros;rename_i a hm hs
        refine gRet1 hs rfl rfl ?_
        exact hres _ hfit hb2 (fun _=>by have:=hpv.hb;omega) hm.fr
       ·refine gcSgr2_ ?_;clear hs hm a;intros;rename_i a hm hs
        refine gRet1 hs rfl rfl ?_
        exact hres _ hfit hb2 (fun _=>by have:=hpv.hb;omega) hm.fr
     ·by_cases h10:call=10
      ·subst h10
       refine gcSgr2_ ?_;clear hs hm a;intros;rename_i a hm hs
       refine gRet1 hs rfl rfl ?_
       exact hbad _ hm.fr
      ·by_cases h12:call=12
       ·subst h12
        refine gcSgr2_ ?_;clear hs hm a;intros;rename_i a hm hs
        refine gRet1 hs rfl rfl ?_
        exact hbad _ hm.fr
       ·refine gcSgr2_ ?_;clear hs hm a;intros;rename_i a hm hs
        refine gRet1 hs rfl rfl ?_
        exact hres _ hfit hb2 (fun e=>absurd e h12) hm.fr
    ·refine gcSgr2_ ?_;clear hs hm a;intros;rename_i a hm hs
     refine gRet1 hs rfl rfl ?_
     exact hbad _ hm.fr
   ·refine gcSgr2_ ?_;clear hs hm a;intros;rename_i a hm hs
    refine gRet1 hs rfl rfl ?_
    exact hbad _ hm.fr
  ·have hb2:0<bufF call→c2.v≤16∧c1.v+c2.v≤512:=fun e=>absurd e hb
   by_cases hv:c0.v<(p.code.length:Int)
   ·by_cases h10:call=10
    ·subst h10
     refine gcSgr2_ ?_;clear hs hm a;intros;rename_i a hm hs
     refine gRet1 hs rfl rfl ?_
     exact hres _ hfit hb2 (fun _=>by have:=hpv.hb;omega) hm.fr
    ·by_cases h12:call=12
     ·subst h12
      refine gcSgr2_ ?_;clear hs hm a;intros;rename_i a hm hs
      refine gRet1 hs rfl rfl ?_
      exact hres _ hfit hb2 (fun _=>by have:=hpv.hb;omega) hm.fr
     ·refine gcSgr2_ ?_;clear hs hm a;intros;rename_i a hm hs
      refine gRet1 hs rfl rfl ?_
      exact hres _ hfit hb2 (fun _=>by have:=hpv.hb;omega) hm.fr
   ·by_cases h10:call=10
    ·subst h10
     refine gcSgr2_ ?_;clear hs hm a;intros;rename_i a hm hs
     refine gRet1 hs rfl rfl ?_
     exact hbad _ hm.fr
    ·by_cases h12:call=12
     ·subst h12
      refine gcSgr2_ ?_;clear hs hm a;intros;rename_i a hm hs
      refine gRet1 hs rfl rfl ?_
      exact hbad _ hm.fr
     ·refine gcSgr2_ ?_;clear hs hm a;intros;rename_i a hm hs
      refine gRet1 hs rfl rfl ?_
      exact hres _ hfit hb2 (fun e=>absurd e h12) hm.fr
theorem gpSgs0_{G H:Prop}(k:H)(s:Bx H→G:=by intro k_;(repeat(first|(refine ov2663_ ?_;(try clear hs a);intro a hs)|((with_reducible apply lCons);first|(refine dv hs gw_ rfl rfl da_ ?_;(try clear hs hm a);rintro _ w_ ⟨g_,rfl,-,hm⟩ a hs)|(refine stn hs rfl rfl ds_ ?_;(try clear hs hm a);rintro-w_ hm a hs))|refine sc_ ?_));have m_:=hm;have s_:=hs;clear hs;(try clear hm);revert m_ s_ a;(try revert w_);(repeat revert g_);exact k_.h):G:=s ⟨k⟩
theorem gcSgs1_{G H:Prop}(k:H)(s:Bx H→G:=by intro k_;(repeat(first|(refine ov2663_ ?_;(try clear hs a);intro a hs)|((with_reducible apply lCons);first|(refine dv hs gw_ rfl rfl da_ ?_;(try clear hs hm a);rintro _ w_ ⟨g_,rfl,-,hm⟩ a hs)|(refine stn hs rfl rfl ds_ ?_;(try clear hs hm a);rintro-w_ hm a hs))|refine sc_ ?_|((with_reducible apply lCons);first|(refine dvc hs hm gw_ rfl rfl rfl rfl rfl (pl 111 rfl) (kbuf _) ?_;(try clear hs hm a);intro w_ hm a hs))));(first|(have m_:=hm;have s_:=hs;clear hs;(try clear hm);revert m_ s_ a)|((first|refine rexc_ hs hm ?_|refine rexl_ hs hm ?_|refine rexg_ hs hm ?_|refine rexq_ hs hm ?_);intro a hm hs;revert hm hs a));(try revert w_);(repeat revert g_);exact k_.h):G:=s ⟨k⟩
theorem MO.open_{S:Nat→Prop}{w0 w:World}{L:List Hp}{z:MO}{q:ThO}{t:Nat}(hm:Mm S w0 (L++z.hps) w)(hq:z.ts[t]?=some q):Mm S w0 (L++(q.hp::⟨z.tA,52,z.tcs⟩::⟨z.bA,3,z.bcs⟩::(z.m.hps++(z.ts.eraseIdx t).map ThO.hp))) w:=by
 refine hm.perm (List.Perm.append_left L ?_)
 have h1:(z.ts.map ThO.hp).Perm (q.hp::(z.ts.eraseIdx t).map ThO.hp):=(er_permG hq).map ThO.hp
 exact((List.Perm.append_left (⟨z.tA,52,z.tcs⟩::⟨z.bA,3,z.bcs⟩::z.m.hps) h1).trans List.perm_middle).symm
theorem MO.close_{S:Nat→Prop}{w0 w:World}{L:List Hp}{z:MO}{q:ThO}{t:Nat}{tcs:List Value}{m:MeO}(ht:t<z.ts.length)(hm:Mm S w0 (L++(q.hp::⟨z.tA,52,tcs⟩::⟨z.bA,3,z.bcs⟩::(m.hps++(z.ts.eraseIdx t).map ThO.hp))) w):Mm S w0 (L++(z.upd t q tcs m).hps) w:=by
 refine hm.perm (List.Perm.append_left L ?_)
 have h1:((z.ts.set t q).map ThO.hp).Perm (q.hp::(z.ts.eraseIdx t).map ThO.hp):=by
  have:=er_permG (l:=z.ts.set t q) (k:=t) (r:=q) (List.getElem?_set_self ht)
  rw[List.eraseIdx_set_eq]at this
  exact this.map ThO.hp
 exact((List.Perm.append_left (⟨z.tA,52,tcs⟩::⟨z.bA,3,z.bcs⟩::m.hps) h1).trans List.perm_middle)
theorem MO.upd_self{z:MO}{q:ThO}{t:Nat}(hq:z.ts[t]?=some q):z.upd t q z.tcs z.m=z:=by
 unfold MO.upd
 rw[set_self hq]
def canN(X:LS)(c:CV):CN:=⟨(canF X c.t c.v).1,(canF X c.t c.v).2.1,(canF X c.t c.v).2.2.1,(canF X c.t c.v).2.2.2⟩
theorem canN_val{X:LS}{w:World}(hx:X.ok w){c:CV}(hc:c.val):(canN X c).val∧(canN X c).t=c.t∧(c.t=0→(canN X c).v=c.v):=by
 obtain⟨t,v⟩:=c
 obtain⟨ht,hv⟩:=hc
 dsimp only at ht hv
 unfold canN canF
 dsimp only
 rcases ht with rfl|rfl|rfl
 ·rw[if_pos rfl]
  exact⟨⟨.inl rfl,hv,fun _=>⟨rfl,rfl⟩,fun e=>by cases e⟩,rfl,fun _=>rfl⟩
 ·rw[if_neg (by decide),if_neg (by decide)]
  cases hr:resF X.bs X.ss v X.n with
  |none=>exact⟨⟨.inr (.inr rfl),by dsimp only;omega,fun e=>absurd rfl e,fun _=>⟨rfl,by dsimp only;omega,by dsimp only;omega,by dsimp only;omega,by dsimp only;omega,fun e=>absurd rfl e⟩⟩,rfl,fun e=>by cases e⟩
  |some p=>
   obtain⟨r,o⟩:=p
   obtain⟨h1,h2,h3,h4⟩:=resF_at hr
   have hn:=hx.n
   have hsl:=hx.sl
   have hs:=hx.s _ (List.getElem_mem (show r<X.ss.length by omega))
   rw[getI (l:=X.ss) (k:=r) (by omega)]at h4
   dsimp only
   exact⟨⟨.inr (.inr rfl),by dsimp only;omega,fun e=>absurd rfl e,fun _=>⟨rfl,by dsimp only;omega,by dsimp only;omega,by dsimp only;omega,by dsimp only;omega,fun _=>by dsimp only;omega⟩⟩,rfl,fun e=>by cases e⟩
 ·rw[if_neg (by decide),if_pos rfl]
  have:=u16_bd (v-X.key)
  exact⟨⟨.inr (.inl rfl),this,fun _=>⟨rfl,rfl⟩,fun e=>by cases e⟩,rfl,fun e=>by cases e⟩
theorem cann_c(X:LS)(c:CV)(w:World)(hx:X.ok w)(hc:c.val):Ret Tryz.prog 55 [X.l,X.s,.agg #[.int .u8 c.t,.int .u16 c.v]] w (fun u w'=>u= .agg #[.int .u8 (canN X c).t,.int .u16 (canN X c).v,.int .i64 (canN X c).r,.int .i64 (canN X c).o]∧Pu w w'):=can_c X c.t c.v w hx hc.1 (fun _=>hc.2)
theorem MO.m_val [HB]{y:MO}{ss:List Int}{B:Int}(hv:y.d.val ss B):y.m.val:=⟨hv.n,by have:=hv.l;unfold MO.d at this;dsimp only at this;rwa[List.length_map]at this,hv.cv,fun i hi=>by
 have:=hv.ll i (by unfold MO.d;dsimp only;rw[List.length_map];exact hi)
 unfold MO.d at this
 dsimp only at this
 rwa[List.getElem_map]at this⟩
theorem lookz_c [HB](z:MO)(ss:List Int)(B:Int)(a:Nat)(w:World)(ho:z.mv.ok w)(hv:z.d.val ss B)(had:a<512):Ret Tryz.prog 94 [.agg #[slv z.m.cA z.m.xs.length z.m.cc,slv z.m.lA z.m.ls.length z.m.lc],.int .i64 (a:Int)] w (fun u w'=>∃c:CV,u= .agg #[.int .u8 c.t,.int .u16 c.v]∧c.val∧Pu w w'):=by
 have hmv:=MO.m_val hv
 have h:=look_c (ad z.m.cA) z.m.cc z.m.xs (ad z.m.lA) z.m.lc (z.m.ls.map LnO.lv) a w ho.c ho.l ho.ll hmv.n (by rw[List.length_map];exact hmv.l) hmv.cv (fun i hi=>by rw[List.getElem_map];exact hmv.ll i (by rwa[List.length_map]at hi)) had
 rw[List.length_map]at h
 exact h
structure TkX where
 al:List CN
 A:Option Nat
 c:Nat
 cs:List Value
theorem take_c [HB](p:PV)(x:MV)(B:Int)(t:Nat)(n:Int)(q0:ThD)(wB:World)(hp:p.ok wB)(hpv:p.val)(hx:x.ok wB)(h:x.d.val p.ss B)(hcap:x.bs.length≤x.bc)(hB:B≤1000000000)(ht:t<4)(hn:1≤n∧n≤64)(hq0:x.d.ts[t]?=some q0) (hst:q0.st=1):
  Ret Tryz.prog 91 [p.v,x.v,.int .i64 (t:Int),.int .i64 n] wB (fun u w'=>∃(z:MO)(r:RqV)(R:List Hp),u= .tuple #[z.v,r.v,.int .i64 0]∧z.ok∧z.d.val p.ss (B+20000)∧(∀(S:Nat→Prop)(w0 w:World)(M:List Hp),Mm S w0 M w→(∀h∈R,h∈M)→r.ok w)∧r.val∧(r.stop=1→r.kin)∧r.th=(t:Int)∧(∀b o n,r.a.A=some ⟨b,o,n⟩∨r.d.A=some ⟨b,o,n⟩→own R b)∧New wB w' (R++z.hps)∧Pu wB w'):=by
 have k1:=fun w'' (hf:Pu wB w'')=>slc_c p x B t n q0 w'' (hp.pu hf) hpv (hx.pu hf) h hcap hB ht hn hq0 hst
 have hpe:p.v= .agg #[.slice p.cA p.code.length p.cc,.slice p.sA p.ss.length p.sc,.slice p.dA p.ws.length p.dc]:=rfl
 have hxe:x.v= .agg #[.slice x.bA x.bs.length x.bc,.int .u16 x.key,.slice x.cA x.xs.length x.cc,.slice x.lA x.ls.length x.lc,.slice x.tA x.ts.length x.tc]:=rfl
 rw[hpe,hxe]at*
 refine enterR Tryz.func91 rfl rfl rfl fun a hs hm=>?_
 refine gs3375_ ?_;clear hs hm a;intros;rename_i a hm hs
 obtain⟨g4,rfl⟩:=hs.pp 4
 obtain⟨g5,rfl⟩:=hs.pp 5
 obtain⟨g8,rfl⟩:=hs.pp 8
 obtain⟨g9,rfl⟩:=hs.pp 9
 refine st hs rfl rfl rfl (d_call hs rfl rfl rfl (pl 107 rfl) ((k1 _ hm.fr))) ?_;clear hs a;rintro _ w1 ⟨z,s,q,rfl,zo,zv,hq,hs3,hs1,hN,hf⟩ a hs
 replace hm:=gainE hm hf hN
 clear hN hf k1
 obtain⟨qz,hqz,hqzd⟩:=MO.d_th hq
 have hzl:z.ts.length=4:=by have:=zv.t;rwa[MO.d_len]at this
 have htz:t<z.ts.length:=by omega
 have hzt:=zo.t
 rw[hzl]at hzt
 obtain⟨gt,hgt⟩:=hzt.some_ (by omega)
 have hqv:=zv.tt q (List.mem_of_getElem? hq)
 have hqo:Row qz.A qz.d.xs.length qz.c 2 (cvs qz.d.xs) qz.cs:=zo.tt qz (List.mem_of_getElem? hqz)
 rw[hqzd]at hqo
 have hqn:=hqv.n
 have hqo':=hqo
 rw[hqn]at hqo
 obtain⟨gq,hgq⟩:=hqo.some_ (by omega)
 have hget:∀j,j<8→(z.ts.flatMap ThO.v)[t*8+j]?=(ThO.v qz)[j]?:=fun j hj=>by rw[flat_get ThO.v 8 ThO.len z.ts t j htz hj,(List.getElem?_eq_some_iff.1 hqz).2]
 have hqzv:qz.v=[.int .i64 q.st,slv (some gq) 8 qz.c,.int .i64 q.pc,.int .i64 q.cnt,.int .i64 q.han,.int .i64 q.sav,.int .i64 q.trp,.int .u16 q.cod]:=by unfold ThO.v;rw[hqzd,hgq,hqn]
 have hcut:cutF z.tcs (t*8) 8=some [.int .i64 q.st,slv (some gq) 8 qz.c,.int .i64 q.pc,.int .i64 q.cnt,.int .i64 q.han,.int .i64 q.sav,.int .i64 q.trp,.int .u16 q.cod]:=by
  have hl:=hzt.len
  have hle:=hzt.le
  refine cutF_of z.tcs (t*8) [.int .i64 q.st,slv (some gq) 8 qz.c,.int .i64 q.pc,.int .i64 q.cnt,.int .i64 q.han,.int .i64 q.sav,.int .i64 q.trp,.int .u16 q.cod] (by show t*8+8≤_;omega) (fun j v hj=>?_)
  have hj8:j<8:=(List.getElem?_eq_some_iff.1 hj).1
  exact hzt.get (by rw[hget j hj8,hqzv];exact hj)
 replace hm:=MO.open_ hm hqz
 have hmv:∀{S:Nat→Prop}{w:World},Mm S wB (qz.hp::⟨z.tA,52,z.tcs⟩::⟨z.bA,3,z.bcs⟩::(z.m.hps++(z.ts.eraseIdx t).map ThO.hp)) w→z.mv.ok w:=fun hm=>by
  have:=MO.close_ (L:=[]) (m:=z.m) htz hm
  rw[MO.upd_self hqz]at this
  exact MO.mv_ok this (fun x hx=>hx) zo
 have hqzh:qz.hp=⟨some gq,103,qz.cs⟩:=by unfold ThO.hp;rw[hgq]
 have hmc:∀{S:Nat→Prop}{w:World}{L:List Hp},Mm S wB (L++(⟨some gq,103,qz.cs⟩::⟨some gt,52,z.tcs⟩::⟨z.bA,3,z.bcs⟩::(z.m.hps++(z.ts.eraseIdx t).map ThO.hp))) w→Mm S wB (L++z.hps) w:=fun{S w L} hm=>by
  rw[←hqzh,←hgt]at hm
  have:=MO.close_ (m:=z.m) htz hm
  rwa[MO.upd_self hqz]at this
 rw[hqzh,hgt]at hm hmv
 have hmu:∀{S:Nat→Prop}{w:World}{L:List Hp}{q':ThO}{tcs':List Value},Mm S wB (L++(q'.hp::⟨some gt,52,tcs'⟩::⟨z.bA,3,z.bcs⟩::(z.m.hps++(z.ts.eraseIdx t).map ThO.hp))) w→Mm S wB (L++(z.upd t q' tcs' z.m).hps) w:=fun{S w L q' tcs'} hm=>by
  rw[←hgt]at hm
  exact MO.close_ htz hm
 generalize hR:(⟨z.bA,3,z.bcs⟩:Hp)::(z.m.hps++(z.ts.eraseIdx t).map ThO.hp)=R at hm hmv hmc hmu
 unfold MO.v at hs
 rw[hgt,hzl]at hs
 have zv':z.mv.d.val p.ss (B+20000):=by rw[MO.mv_d];exact zv
 have hzvs:z.vs=(z.cl [slv (some gt) 4 z.tc]):=by unfold MO.vs;rw[hgt,hzl]
 have hpc:=hqv.pc
 have hcnt:=hqv.cnt
 have htrp:=hqv.trp
 simp only[List.cons_append,List.nil_append]at hm
 have hend0:∀(s tr:Int)(w':World),s=0∨s=2→0≤tr∧tr≤6→New wB w' z.hps→Pu wB w'→∃(z':MO)(r:RqV)(R:List Hp),Value.tuple #[.agg #[slv z.bA z.bs.length z.bc,.int .u16 z.key,slv z.m.cA z.m.xs.length z.m.cc,slv z.m.lA z.m.ls.length z.m.lc,slv (some gt) 4 z.tc],.agg #[.int .i64 (t:Int),.int .i64 s,.int .i64 tr,.int .i64 q.cnt,.int .i64 q.pc,.int .i64 0,nS,nS],.int .i64 0]= .tuple #[z'.v,r.v,.int .i64 0]∧z'.ok∧z'.d.val p.ss (B+20000)∧(∀(S:Nat→Prop)(w0 w:World)(M:List Hp),Mm S w0 M w→(∀h∈R,h∈M)→r.ok w)∧r.val∧(r.stop=1→r.kin)∧r.th=(t:Int)∧(∀b o n,r.a.A=some ⟨b,o,n⟩∨r.d.A=some ⟨b,o,n⟩→own R b)∧New wB w' (R++z'.hps)∧Pu wB w':=
  fun s tr w' hs htr h1 h2=>⟨z,⟨t,s,tr,q.cnt,q.pc,0,⟨none,0,[]⟩,⟨none,0,[]⟩⟩,[],by rw[MO.v_vs,hzvs];rfl,zo,zv,fun _ _ _ _ _ _=>⟨fun h=>(by cases h),fun h=>(by cases h)⟩,⟨by dsimp only;omega,by dsimp only;omega,htr,by dsimp only;omega,hpc,by dsimp only;omega,by dsimp only;exact Nat.zero_le _,by dsimp only;exact Nat.zero_le _,fun c hc=>(by cases hc),fun c hc=>(by cases hc)⟩,fun e=>absurd (show s=1 from e) (by omega),rfl,(fun b o n h=>by rcases h with h|h<;>cases h),h1,h2⟩
 rcases hs3 with rfl|rfl|rfl
 ·refine gs3375_ ?_;clear hs hm a;intros;rename_i a hm hs
  obtain⟨g11,rfl⟩:=hs.pp 11
  obtain⟨g15,rfl⟩:=hs.pp 15
  refine cDrawT (n:=5) (.s [0,1]<| .o 2<| .o 3<| .t 4<| .d) [⟨some g15,173,[.int .i64 (t:Int),.int .i64 0,.int .i64 0,.int .i64 q.cnt,.int .i64 q.pc,.int .i64 0,nS,nS]⟩,⟨some g11,32,(z.cl [slv (some gt) 4 z.tc])⟩] hm rfl rfl ?_
  clear hm;intro t_ w1_ hm
  repeat' (first|(refine dgd799_ ?_;clear t_ hs hm a;intros;rename_i a hm hs t_)|refine tE t_ ?_|refine tC ?_ ?_|exact tN|intro t_|(refine tD t_ ?_;(refine gs3375_ ?_;clear hs hm a;intros;rename_i a hm hs);(refine gRetN tab hs rfl (.cons (.cells rfl rfl rfl rfl (hm.ro (k:=0) (n:=5) (g:=g8) mem_ (cutF_ok rfl))) (.cons (.cells rfl rfl rfl rfl (hm.ro (k:=0) (n:=8) (g:=g9) mem_ (cutF_ok rfl))) (.cons (.tmp rfl) .nil))) ?_);(exact hend0 0 0 _ (.inl rfl) (by omega) ((hmc (L:=[]) (hm.sub sub_)).new (List.Sublist.refl _)) hm.fr))|fail)
 ·obtain⟨s1,s2,i,s3,s4⟩:=hs1 rfl
  have kchk:=fun(w'':World) (hf:Pu wB w'') (ho:z.mv.ok w'')=>rchk_c p z.mv (B+20000) t q i w'' (hp.pu hf) hpv ho zv' ht (by rw[MO.mv_d];exact hq) s1 s3 s4
  rw[MO.mv_v,MO.v_vs,hzvs]at kchk
  refine gs3375_ ?_;clear hs hm a;intros;rename_i a hm hs
  refine st hs rfl rfl rfl (d_call hs rfl rfl rfl (pl 108 rfl) ((kchk _ hm.fr (hmv (hm.sub sub_))))) ?_;clear hs a;rintro _ w1 ⟨why,rfl,hw,hok,hf⟩ a hs
  replace hm:=hm.pu hf
  clear hf kchk
  by_cases he:why=0
  ·subst he
   replace hok:=hok rfl
   obtain⟨pk,hpk⟩:∃k:Nat,q.pc-1=(k:Int):=⟨(q.pc-1).toNat,by omega⟩
   rw[hpk,Int.toNat_natCast]at s3
   have hpl:=(List.getElem?_eq_some_iff.1 s3).1
   obtain⟨bc,oc,hbc,hbc2,rc⟩:=hp.c.ro (by rw[flat_len inV 5 inV_len];omega)
   have rc1:=rc.flat inV_len hpl
   rw[(List.getElem?_eq_some_iff.1 s3).2]at rc1
   unfold inV at rc1
   rw[hbc]at hs hm
   have hiv:=hpv.inv i (List.mem_of_getElem? s3)
   have hsy:=hiv.sys s4
   have hm0:=hiv.m
   have karg:=fun w''=>arg_c i.m w'' ⟨by omega,by omega⟩
   have kbuf:=fun w''=>buf_c i.m w'' ⟨by omega,by omega⟩
   have hkl:=kndF_len i.m
   have hX0:=fun(w'':World) (hf:Pu wB w'') (ho:z.mv.ok w'')=>lsX_ok (p:=p) (B:=B+20000) (hp.pu hf) hpv ho zv'
   have hcv:=fun(c:CV) (hc:c.val)=>canN_val (hX0 _ hm.fr (hmv (hm.sub sub_))) hc
   have kcan:∀(w'':World)(c:CV),Pu wB w''→z.mv.ok w''→c.val→Ret Tryz.prog 55 [.agg #[slv z.bA z.bs.length z.bc,.int .u16 z.key],.slice p.sA p.ss.length p.sc,.agg #[.int .u8 c.t,.int .u16 c.v]] w'' (fun u w'=>u= .agg #[.int .u8 (canN (lsX p z.mv) c).t,.int .u16 (canN (lsX p z.mv) c).v,.int .i64 (canN (lsX p z.mv) c).r,.int .i64 (canN (lsX p z.mv) c).o]∧Pu w'' w'):=fun w'' c hf ho hc=>by
    have h:=cann_c (lsX p z.mv) c w'' (hX0 w'' hf ho) hc
    rw[lsX_l zv']at h
    exact h
   have klok:=fun(w'':World) (hf:Pu wB w'') (ho:z.mv.ok w'') (ad:Nat) (had:ad<512)=>lookz_c z p.ss (B+20000) ad w'' ho zv had
   generalize hXg:lsX p z.mv=X0 at*
   have hend1:∀(A:Option Nat)(c:Nat)(acs:List Value)(al:List CN)(D:Option Nat)(d:Nat)(dcs:List Value)(dl:List CN)(w':World),al=(q.xs.take (kndF i.m).length).map (canN X0)→dl.length≤16→(∀c∈dl,c.val)→Row A al.length c 4 (cns al) acs→Row D dl.length d 4 (cns dl) dcs→New wB w' (⟨D,95,dcs⟩::⟨A,95,acs⟩::z.hps)→Pu wB w'→∃(z':MO)(r:RqV)(R:List Hp),Value.tuple #[.agg #[slv z.bA z.bs.length z.bc,.int .u16 z.key,slv z.m.cA z.m.xs.length z.m.cc,slv z.m.lA z.m.ls.length z.m.lc,slv (some gt) 4 z.tc],.agg #[.int .i64 (t:Int),.int .i64 1,.int .i64 0,.int .i64 q.cnt,.int .i64 q.pc,.int .i64 i.m,slv A al.length c,slv D dl.length d],.int .i64 0]= .tuple #[z'.v,r.v,.int .i64 0]∧z'.ok∧z'.d.val p.ss (B+20000)∧(∀(S:Nat→Prop)(w0 w:World)(M:List Hp),Mm S w0 M w→(∀h∈R,h∈M)→r.ok w)∧r.val∧(r.stop=1→r.kin)∧r.th=(t:Int)∧(∀b o n,r.a.A=some ⟨b,o,n⟩∨r.d.A=some ⟨b,o,n⟩→own R b)∧New wB w' (R++z'.hps)∧Pu wB w':=by
    intro A c acs al D d dcs dl w' h1 h2 h3 h4 h5 h6 h7
    have hal:al.length=(kndF i.m).length:=by rw[h1,List.length_map,List.length_take];omega
    have hat:∀j (h:j<al.length),∃(h':j<q.xs.length),al[j]=canN X0 q.xs[j]:=fun j h=>⟨by omega,by subst h1;rw[List.getElem_map,List.getElem_take]⟩
    refine⟨z,⟨t,1,0,q.cnt,q.pc,i.m,⟨ad A,c,al⟩,⟨ad D,d,dl⟩⟩,[⟨D,95,dcs⟩,⟨A,95,acs⟩],by rw[MO.v_vs,hzvs];rfl,zo,zv,fun S w0 w M hm hM=>⟨hm.rd_row (hM _ (List.mem_cons_of_mem _ (List.mem_cons_self ..))) h4,hm.rd_row (hM _ (List.mem_cons_self ..)) h5⟩,⟨by dsimp only;omega,by dsimp only;omega,by dsimp only;omega,by dsimp only;omega,hpc,by dsimp only;omega,by dsimp only;omega,h2,fun x hx=>?_,h3⟩,fun _=>⟨hal,fun j hj hj'=>?_,fun hb x hx=>?_,fun hb x hx=>?_⟩,rfl,(fun b o n h=>by
     rcases h with h|h
     ·cases A with
      |none=>cases h
      |some g=>
       obtain rfl:g=b:=by unfold ad at h;simp at h;exact h.1
       exact⟨_,List.mem_cons_of_mem _ (List.mem_cons_self ..),rfl⟩
     ·cases D with
      |none=>cases h
      |some g=>
       obtain rfl:g=b:=by unfold ad at h;simp at h;exact h.1
       exact⟨_,List.mem_cons_self ..,rfl⟩),h6,h7⟩
    ·dsimp only at hx
     rw[h1]at hx
     obtain⟨y,hy,rfl⟩:=List.mem_map.1 hx
     exact(hcv y (hqv.cv y (List.mem_of_mem_take hy))).1
    ·obtain⟨h',e⟩:=hat j hj
     dsimp only
     rw[e,(hcv _ (hqv.cv _ (List.getElem_mem h'))).2.1]
     exact hok.k j hj' h'
    ·dsimp only at hb hx
     obtain⟨hl2,hx⟩:=List.getElem?_eq_some_iff.1 hx
     obtain⟨h',e⟩:=hat 2 hl2
     have hk2:=hok.k 2 (by omega) h'
     have h78:(kndF i.m)[2]'(by omega)=78:=by
      have:i.m=2∨i.m=14:=by unfold bufF at hb;split at hb;(· omega);split at hb;(· omega);split at hb;(· exact .inl (by assumption));split at hb;(· exact .inr (by assumption));omega
      rcases this with e|e<;>(simp only[e];rfl)
     rw[h78]at hk2
     have ht0:(q.xs[2]).t=0:=by simpa[fitB]using hk2
     rw[←hx,e,(hcv _ (hqv.cv _ (List.getElem_mem h'))).2.2 ht0]
     exact(hok.b (by omega) (q.xs[1]'(by omega)) q.xs[2] (List.getElem?_eq_getElem _) (List.getElem?_eq_getElem _)).1
    ·dsimp only at hb hx
     obtain⟨hl2,hx⟩:=List.getElem?_eq_some_iff.1 hx
     obtain⟨h',e⟩:=hat 0 hl2
     have hk2:=hok.k 0 (by omega) h'
     have h78:(kndF i.m)[0]'(by omega)=78:=by simp only[hb];rfl
     rw[h78]at hk2
     have ht0:(q.xs[0]).t=0:=by simpa[fitB]using hk2
     rw[←hx,e,(hcv _ (hqv.cv _ (List.getElem_mem h'))).2.2 ht0]
     exact hok.h hb _ (List.getElem?_eq_getElem _)
   repeat(first|(refine gpSgs0_ ?_;clear hs hm a;intros;rename_i a hm hs)|refine sc_ ?_|((with_reducible apply lCons);first|(refine dvc hs hm gw_ rfl rfl rfl rfl rfl (pl 110 rfl) (karg _) ?_;clear hs hm a;intro w hm a hs)))
   obtain⟨g11,rfl⟩:=hs.pp 11
   obtain⟨g14,rfl⟩:=hs.pp 14
   obtain⟨g15,rfl⟩:=hs.pp 15
   replace hm:=((hm.zero 95).sub (List.Sublist.cons_cons _ (List.Sublist.cons_cons _ (List.Sublist.cons_cons _ (List.Sublist.cons_cons _ (List.Sublist.cons_cons _ (List.Sublist.cons_cons _ (List.Sublist.cons _ (List.Sublist.refl _)))))))))
   refine cLoop (X:=TkX) (fun X a w'=>X.al.length≤(kndF i.m).length∧X.al=(q.xs.take X.al.length).map (canN X0)∧Row X.A X.al.length X.c 4 (cns X.al) X.cs∧Sl Tryz.f91.ntmps [(2,.int .i64 (t:Int)),(4,pt g4),(8,pt g8),(9,pt g9),(11,pt g11),(14,pt g14),(15,pt g15),(80,.int .i64 ((kndF i.m).length:Int)),(81,.int .i64 (X.al.length:Int))] a∧Mm (fun _=>False) wB (⟨X.A,95,X.cs⟩::⟨some g15,173,[.int .i64 (t:Int),.int .i64 1,.int .i64 0,.int .i64 q.cnt,.int .i64 q.pc,.int .i64 i.m,slv X.A X.al.length X.c,nS]⟩::⟨some g14,52,[.int .i64 q.st,slv (some gq) 8 qz.c,.int .i64 q.pc,.int .i64 q.cnt,.int .i64 q.han,.int .i64 q.sav,.int .i64 q.trp,.int .u16 q.cod]⟩::⟨some g11,32,(z.cl [slv (some gt) 4 z.tc])⟩::⟨some g9,173,[.int .i64 0,.int .i64 0,.int .i64 0,.int .i64 0,.int .i64 0,.int .i64 0,nS,nS]⟩::⟨some g8,32,[nS,.int .u16 0,nS,nS,nS]⟩::⟨some g4,38,[.slice (some ⟨bc,oc,none⟩) p.code.length p.cc,.slice p.sA p.ss.length p.sc,.slice p.dA p.ws.length p.dc]⟩::⟨some gq,103,qz.cs⟩::⟨some gt,52,z.tcs⟩::R) w') (fun X=>(kndF i.m).length-X.al.length) ⟨[],none,0,[]⟩ ⟨Nat.zero_le _,rfl,Row.empty 4,(sb_ hs),hm⟩ ?_
   clear hs hm a
   rintro⟨al,A,c,cs⟩ a w' ⟨hl1,hl2,hlr,hs,hm⟩
   dsimp only at hl1 hl2 hlr hs hm
   by_cases hlt:al.length<(kndF i.m).length
   ·have hkx:al.length<q.xs.length:=by omega
    have hcut1:=reg_cut hqo' hkx
    have hcx:=hqv.cv _ (List.getElem_mem hkx)
    have hsn:al++[canN X0 q.xs[al.length]]=(q.xs.take (al.length+1)).map (canN X0):=by
     rw[List.take_succ_eq_append_getElem hkx,List.map_append,←hl2]
     rfl
    generalize q.xs[al.length]=cx at hcut1 hcx hsn
    refine gs3375_ ?_;clear hs hm a;intros;rename_i a hm hs
    refine cMid (fun a w=>∃(A':Option Nat)(c':Nat)(cs':List Value),Row A' (al.length+1) c' 4 (cns (al++[canN X0 cx])) cs'∧Sl Tryz.f91.ntmps [(2,.int .i64 (t:Int)),(4,pt g4),(8,pt g8),(9,pt g9),(11,pt g11),(14,pt g14),(15,pt g15),(80,.int .i64 ((kndF i.m).length:Int)),(81,.int .i64 (al.length:Int))] a∧Mm (fun _=>False) wB (⟨A',95,cs'⟩::⟨some g15,173,[.int .i64 (t:Int),.int .i64 1,.int .i64 0,.int .i64 q.cnt,.int .i64 q.pc,.int .i64 i.m,slv A' (al.length+1) c',nS]⟩::⟨some g14,52,[.int .i64 q.st,slv (some gq) 8 qz.c,.int .i64 q.pc,.int .i64 q.cnt,.int .i64 q.han,.int .i64 q.sav,.int .i64 q.trp,.int .u16 q.cod]⟩::⟨some g11,32,(z.cl [slv (some gt) 4 z.tc])⟩::⟨some g9,173,[.int .i64 0,.int .i64 0,.int .i64 0,.int .i64 0,.int .i64 0,.int .i64 0,nS,nS]⟩::⟨some g8,32,[nS,.int .u16 0,nS,nS,nS]⟩::⟨some g4,38,[.slice (some ⟨bc,oc,none⟩) p.code.length p.cc,.slice p.sA p.ss.length p.sc,.slice p.dA p.ws.length p.dc]⟩::⟨some gq,103,qz.cs⟩::⟨some gt,52,z.tcs⟩::R) w) ?_ ?_
    ·with_reducible repeat(first|apply gThen|apply wp_seq)
     refine cDrawTB (n:=16) (.s [0,1,2,3,4,5,6,7,8,9,10]<| .o 11<| .x<| .o 12<| .o 13<| .x<| .t 14<| .o 15<| .d) 15 [⟨some g15,173,[.int .i64 (t:Int),.int .i64 1,.int .i64 0,.int .i64 q.cnt,.int .i64 q.pc,.int .i64 i.m,slv A al.length c,nS]⟩,⟨some g14,52,[.int .i64 q.st,slv (some gq) 8 qz.c,.int .i64 q.pc,.int .i64 q.cnt,.int .i64 q.han,.int .i64 q.sav,.int .i64 q.trp,.int .u16 q.cod]⟩,⟨some g11,32,(z.cl [slv (some gt) 4 z.tc])⟩,⟨some g4,38,[.slice (some ⟨bc,oc,none⟩) p.code.length p.cc,.slice p.sA p.ss.length p.sc,.slice p.dA p.ws.length p.dc]⟩,⟨some gq,103,qz.cs⟩] hm rfl rfl ?_
     clear hm;intro t_ w1_ hm
     repeat' (first|(refine dg95fa_ ?_;clear t_ hs hm a;intros;rename_i a hm hs t_)|refine tEB t_ ?_|refine tCB ?_ ?_|exact tNB|intro t_|(refine oDoB (i:=11) hs rfl (Wnt.none rfl) rfl rfl (by exact d_call hs rfl rfl rfl (pl 55 rfl) ((kcan _ cx hm.fr (hmv (hm.sub sub_)) hcx))) ?_;clear hs;rintro _ w1 ⟨rfl,hf⟩ a hs;(replace hm:=hm.pu hf);(clear hf);replace t_:=tX t_;refine⟨bu_,?_⟩)|(refine oDoB (i:=13) hs rfl (Wnt.none rfl) rfl rfl (by exact d_append (A:=A) (n:=al.length) (c:=c) (news:=(canN X0 cx).cs) hs rfl rfl rfl rfl rfl tab rfl rfl rfl rfl rfl hm mem_ hlr rfl (hm.ro (n:=4) mem_ (cutF_ok rfl)) rfl (by show(al.length+1)*24≤_;omega) (by omega)) ?_;clear hs;rintro _ w1 ⟨A',c',cs',rfl,hr',hM⟩ a hs;(replace hm:=hM _ rep_);(clear hM);replace t_:=tX t_;refine⟨bu_,?_⟩)|(refine tDB t_ ?_;(rw[show cns al++(canN X0 cx).cs=cns (al++[canN X0 cx]) by unfold cns;rw[List.flatMap_append,List.flatMap_singleton]]at hr');(exact And.intro rfl ⟨A',c',cs',hr',(sb_ hs),hm.sub sub_⟩))|fail)
    clear hs hm a hlr
    rintro a w ⟨A',c',cs',hr',hs,hm⟩
    refine gs3375_ ?_;clear hs hm a;intros;rename_i a hm hs
    exact⟨⟨al++[canN X0 cx],A',c',cs'⟩,by dsimp only;rw[List.length_append,List.length_singleton];omega,by dsimp only;rw[List.length_append,List.length_singleton];exact⟨hlt,hsn,hr',(sb_ hs),hm⟩⟩
   ·have hln:al.length=(kndF i.m).length:=by omega
    rw[hln]at hl2
    by_cases hb1:bufF i.m=1
    ·rw[hb1]at kbuf
     obtain⟨cx,hcx⟩:∃c,q.xs[1]?=some c:=⟨_,List.getElem?_eq_getElem (by omega)⟩
     obtain⟨cy,hcy⟩:∃c,q.xs[2]?=some c:=⟨_,List.getElem?_eq_getElem (by omega)⟩
     obtain⟨hb2,hb3⟩:=hok.b (by omega) cx cy hcx hcy
     have hxv:=hqv.cv cx (List.mem_of_getElem? hcx)
     have hyv:=hqv.cv cy (List.mem_of_getElem? hcy)
     have ex:qz.cs[3]?=some (.int .u16 cx.v):=hqo'.get (by rw[show(3:Nat)=1*2+1 from rfl];unfold cvs;rw[flat_get CV.cs 2 CV.cs_len q.xs 1 1 (by omega) (by omega),(List.getElem?_eq_some_iff.1 hcx).2];rfl)
     have ey:qz.cs[5]?=some (.int .u16 cy.v):=hqo'.get (by rw[show(5:Nat)=2*2+1 from rfl];unfold cvs;rw[flat_get CV.cs 2 CV.cs_len q.xs 2 1 (by omega) (by omega),(List.getElem?_eq_some_iff.1 hcy).2];rfl)
     obtain⟨nv,hnv⟩:∃k:Nat,cy.v=(k:Int):=⟨cy.v.toNat,by have:=hyv.2.1;omega⟩
     obtain⟨xv,hxv2⟩:∃k:Nat,cx.v=(k:Int):=⟨cx.v.toNat,by have:=hxv.2.1;omega⟩
     rw[hnv]at hb2 hb3 ey
     rw[hxv2]at hb3 ex
     replace hm:=hm.zero 95
     refine gcSgs1_ ?_;clear hs hm a;intros;rename_i a hm hs
     rw[show IntKind.i64.wrap (nv:Int)=(nv:Int)from wrap_idP (by omega)]at hs
     replace hm:=hm.sub (List.Sublist.refl _)
     refine cLoop (X:=TkX) (fun X a w'=>X.al.length≤nv∧(∀c∈X.al,c.val)∧Row X.A X.al.length X.c 4 (cns X.al) X.cs∧Sl Tryz.f91.ntmps [(2,.int .i64 (t:Int)),(4,pt g4),(8,pt g8),(9,pt g9),(11,pt g11),(14,pt g14),(15,pt g15),(109,.int .i64 (nv:Int)),(110,.int .i64 (X.al.length:Int))] a∧Mm (fun _=>False) wB (⟨X.A,95,X.cs⟩::⟨A,95,cs⟩::⟨some g15,173,[.int .i64 (t:Int),.int .i64 1,.int .i64 0,.int .i64 q.cnt,.int .i64 q.pc,.int .i64 i.m,slv A al.length c,slv X.A X.al.length X.c]⟩::⟨some g14,52,[.int .i64 q.st,slv (some gq) 8 qz.c,.int .i64 q.pc,.int .i64 q.cnt,.int .i64 q.han,.int .i64 q.sav,.int .i64 q.trp,.int .u16 q.cod]⟩::⟨some g11,32,(z.cl [slv (some gt) 4 z.tc])⟩::⟨some g9,173,[.int .i64 0,.int .i64 0,.int .i64 0,.int .i64 0,.int .i64 0,.int .i64 0,nS,nS]⟩::⟨some g8,32,[nS,.int .u16 0,nS,nS,nS]⟩::⟨some g4,38,[.slice (some ⟨bc,oc,none⟩) p.code.length p.cc,.slice p.sA p.ss.length p.sc,.slice p.dA p.ws.length p.dc]⟩::⟨some gq,103,qz.cs⟩::⟨some gt,52,z.tcs⟩::R) w') (fun X=>nv-X.al.length) ⟨[],none,0,[]⟩ ⟨Nat.zero_le _,(fun c hc=>by cases hc),Row.empty 4,(sb_ hs),hm⟩ ?_
     clear hs hm a
     rintro⟨dl,D,d,dcs⟩ a w' ⟨hd1,hd2,hdr,hs,hm⟩
     dsimp only at hd1 hd2 hdr hs hm
     by_cases hdt:dl.length<nv
     ·have haddr:IntKind.i64.wrap (xv:Int)+(dl.length:Int)=((xv+dl.length:Nat):Int):=by rw[show IntKind.i64.wrap (xv:Int)=(xv:Int)from wrap_idP (by omega)];omega
      refine gs3375_ ?_;clear hs hm a;intros;rename_i a hm hs
      refine cMid (fun a w=>∃(cz:CN)(D':Option Nat)(d':Nat)(dcs':List Value),cz.val∧Row D' (dl.length+1) d' 4 (cns (dl++[cz])) dcs'∧Sl Tryz.f91.ntmps [(2,.int .i64 (t:Int)),(4,pt g4),(8,pt g8),(9,pt g9),(11,pt g11),(14,pt g14),(15,pt g15),(109,.int .i64 (nv:Int)),(110,.int .i64 (dl.length:Int))] a∧Mm (fun _=>False) wB (⟨D',95,dcs'⟩::⟨A,95,cs⟩::⟨some g15,173,[.int .i64 (t:Int),.int .i64 1,.int .i64 0,.int .i64 q.cnt,.int .i64 q.pc,.int .i64 i.m,slv A al.length c,slv D' (dl.length+1) d']⟩::⟨some g14,52,[.int .i64 q.st,slv (some gq) 8 qz.c,.int .i64 q.pc,.int .i64 q.cnt,.int .i64 q.han,.int .i64 q.sav,.int .i64 q.trp,.int .u16 q.cod]⟩::⟨some g11,32,(z.cl [slv (some gt) 4 z.tc])⟩::⟨some g9,173,[.int .i64 0,.int .i64 0,.int .i64 0,.int .i64 0,.int .i64 0,.int .i64 0,nS,nS]⟩::⟨some g8,32,[nS,.int .u16 0,nS,nS,nS]⟩::⟨some g4,38,[.slice (some ⟨bc,oc,none⟩) p.code.length p.cc,.slice p.sA p.ss.length p.sc,.slice p.dA p.ws.length p.dc]⟩::⟨some gq,103,qz.cs⟩::⟨some gt,52,z.tcs⟩::R) w) ?_ ?_
      ·with_reducible repeat(first|apply gThen|apply wp_seq)
       refine cDrawTB (n:=22) (.s [0,1,2,3,4,5,6,7,8,9,10,11,12,13,14,15]<| .o 16<| .x<| .o 17<| .x<| .o 18<| .o 19<| .x<| .t 20<| .o 21<| .d) 21 [⟨some g15,173,[.int .i64 (t:Int),.int .i64 1,.int .i64 0,.int .i64 q.cnt,.int .i64 q.pc,.int .i64 i.m,slv A al.length c,slv D dl.length d]⟩,⟨some g14,52,[.int .i64 q.st,slv (some gq) 8 qz.c,.int .i64 q.pc,.int .i64 q.cnt,.int .i64 q.han,.int .i64 q.sav,.int .i64 q.trp,.int .u16 q.cod]⟩,⟨some g11,32,(z.cl [slv (some gt) 4 z.tc])⟩,⟨some g4,38,[.slice (some ⟨bc,oc,none⟩) p.code.length p.cc,.slice p.sA p.ss.length p.sc,.slice p.dA p.ws.length p.dc]⟩,⟨some gq,103,qz.cs⟩] hm rfl rfl ?_
       clear hm;intro t_ w1_ hm
       repeat' (first|(refine dg95fa_ ?_;clear t_ hs hm a;intros;rename_i a hm hs t_)|refine tEB t_ ?_|refine tCB ?_ ?_|exact tNB|intro t_|(refine oDoB (i:=16) hs rfl (Wnt.none rfl) rfl rfl (by exact d_call hs rfl rfl rfl (pl 94 rfl) ((klok _ hm.fr (hmv (hm.sub sub_)) (xv+dl.length) (by omega)))) ?_;clear hs;rintro _ w1 ⟨cz,rfl,hcz,hf⟩ a hs;(replace hm:=hm.pu hf);(clear hf);replace t_:=tX t_;refine⟨bu_,?_⟩)|(refine oDoB (i:=17) hs rfl (Wnt.none rfl) rfl rfl (by exact d_call hs rfl rfl rfl (pl 55 rfl) ((kcan _ cz hm.fr (hmv (hm.sub sub_)) hcz))) ?_;clear hs;rintro _ w1 ⟨rfl,hf⟩ a hs;(replace hm:=hm.pu hf);(clear hf);replace t_:=tX t_;refine⟨bu_,?_⟩)|(refine oDoB (i:=19) hs rfl (Wnt.none rfl) rfl rfl (by exact d_append (A:=D) (n:=dl.length) (c:=d) (news:=(canN X0 cz).cs) hs rfl rfl rfl rfl rfl tab rfl rfl rfl rfl rfl hm mem_ hdr rfl (hm.ro (n:=4) mem_ (cutF_ok rfl)) rfl (by show(dl.length+1)*24≤_;omega) (by omega)) ?_;clear hs;rintro _ w1 ⟨D',d',dcs',rfl,hr',hM⟩ a hs;(replace hm:=hM _ rep_);(clear hM);replace t_:=tX t_;refine⟨bu_,?_⟩)|(refine tDB t_ ?_;(rw[show cns dl++(canN X0 cz).cs=cns (dl++[canN X0 cz]) by unfold cns;rw[List.flatMap_append,List.flatMap_singleton]]at hr');(exact And.intro rfl ⟨canN X0 cz,D',d',dcs',(hcv cz hcz).1,hr',(sb_ hs),hm.sub sub_⟩))|fail)
      clear hs hm a hdr
      rintro a w ⟨cz,D',d',dcs',hcz,hr',hs,hm⟩
      refine gs3375_ ?_;clear hs hm a;intros;rename_i a hm hs
      exact⟨⟨dl++[cz],D',d',dcs'⟩,by dsimp only;rw[List.length_append,List.length_singleton];omega,by dsimp only;rw[List.length_append,List.length_singleton];exact⟨hdt,List.forall_mem_append.2 ⟨hd2,List.forall_mem_singleton.2 hcz⟩,hr',(sb_ hs),hm⟩⟩
     ·refine gs3375_ ?_;clear hs hm a;intros;rename_i a hm hs
      refine cDrawT (n:=5) (.s [0,1]<| .o 2<| .o 3<| .t 4<| .d) [⟨some g15,173,[.int .i64 (t:Int),.int .i64 1,.int .i64 0,.int .i64 q.cnt,.int .i64 q.pc,.int .i64 i.m,slv A al.length c,slv D dl.length d]⟩,⟨some g11,32,(z.cl [slv (some gt) 4 z.tc])⟩] hm rfl rfl ?_
      clear hm;intro t_ w1_ hm
      repeat' (first|(refine dgd799_ ?_;clear t_ hs hm a;intros;rename_i a hm hs t_)|refine tE t_ ?_|refine tC ?_ ?_|exact tN|intro t_|(refine tD t_ ?_;(refine gs3375_ ?_;clear hs hm a;intros;rename_i a hm hs);(refine gRetN tab hs rfl (.cons (.cells rfl rfl rfl rfl (hm.ro (k:=0) (n:=5) (g:=g8) mem_ (cutF_ok rfl))) (.cons (.cells rfl rfl rfl rfl (hm.ro (k:=0) (n:=8) (g:=g9) mem_ (cutF_ok rfl))) (.cons (.tmp rfl) .nil))) ?_);(exact hend1 A c cs al D d dcs dl _ hl2 (by omega) hd2 hlr hdr ((hmc (L:=[⟨D,95,dcs⟩,⟨A,95,cs⟩]) (hm.sub sub_)).new (List.Sublist.refl _)) hm.fr))|fail)
    ·refine gcSgs1_ ?_;clear hs hm a;intros;rename_i a hm hs
     refine cDrawT (n:=5) (.s [0,1]<| .o 2<| .o 3<| .t 4<| .d) [⟨some g15,173,[.int .i64 (t:Int),.int .i64 1,.int .i64 0,.int .i64 q.cnt,.int .i64 q.pc,.int .i64 i.m,slv A al.length c,nS]⟩,⟨some g11,32,(z.cl [slv (some gt) 4 z.tc])⟩] hm rfl rfl ?_
     clear hm;intro t_ w1_ hm
     repeat' (first|(refine dgd799_ ?_;clear t_ hs hm a;intros;rename_i a hm hs t_)|refine tE t_ ?_|refine tC ?_ ?_|exact tN|intro t_|(refine tD t_ ?_;(refine gs3375_ ?_;clear hs hm a;intros;rename_i a hm hs);(refine gRetN tab hs rfl (.cons (.cells rfl rfl rfl rfl (hm.ro (k:=0) (n:=5) (g:=g8) mem_ (cutF_ok rfl))) (.cons (.cells rfl rfl rfl rfl (hm.ro (k:=0) (n:=8) (g:=g9) mem_ (cutF_ok rfl))) (.cons (.tmp rfl) .nil))) ?_);(exact hend1 A c cs al none 0 [] [] _ hl2 (Nat.zero_le _) (fun c hc=>by cases hc) hlr (Row.empty 4) ((hmc (L:=[⟨none,95,[]⟩,⟨A,95,cs⟩]) ((hm.zero 95).sub sub_)).new (List.Sublist.refl _)) hm.fr))|fail)
  ·obtain rfl:why=6:=by omega
   refine gs3375_ ?_;clear hs hm a;intros;rename_i a hm hs
   obtain⟨g11,rfl⟩:=hs.pp 11
   obtain⟨g14,rfl⟩:=hs.pp 14
   obtain⟨g15,rfl⟩:=hs.pp 15
   have hzl2:=hzt.len
   have hzl3:=hzt.le
   have hqs:Row (some gq) 8 qz.c 2 (cvs q.xs) qz.cs:=hgq▸hqo
   have kend:∀(w'':World),Rd w'' w''.heap.size (some ⟨gq,0,none⟩) (cvs q.xs)→Ret Tryz.prog 109 [.agg #[.int .i64 q.st,slv (some gq) 8 qz.c,.int .i64 q.pc,.int .i64 q.cnt,.int .i64 q.han,.int .i64 q.sav,.int .i64 q.trp,.int .u16 q.cod],.int .i64 6,.int .u16 0] w'' (fun u w'=>∃q':ThO,u= .agg q'.v.toArray∧q'.ok∧q'.d={q with st:=4,trp:=6,cod:=0}∧New w'' w' [q'.hp]∧Pu w'' w'):=fun w'' hr=>by
    have h:=tend_c ⟨some ⟨gq,0,none⟩,qz.c,q⟩ 6 0 w'' hr (by dsimp only;omega)
    unfold ThV.v at h
    dsimp only at h
    rw[hqn]at h
    exact h
   refine cMid (fun a w=>∃(q':ThO),q'.ok∧q'.d={q with st:=4,trp:=6,cod:=0}∧Sl Tryz.f91.ntmps [(4,pt g4),(8,pt g8),(9,pt g9),(11,pt g11),(14,pt g14),(15,pt g15),(16,.int .i64 6)] a∧Mm (fun _=>False) wB (q'.hp::⟨some g15,173,[.int .i64 (t:Int),.int .i64 1,.int .i64 0,.int .i64 q.cnt,.int .i64 q.pc,.int .i64 0,nS,nS]⟩::⟨some g11,32,(z.cl [slv (some gt) 4 z.tc])⟩::⟨some g9,173,[.int .i64 0,.int .i64 0,.int .i64 0,.int .i64 0,.int .i64 0,.int .i64 0,nS,nS]⟩::⟨some g8,32,[nS,.int .u16 0,nS,nS,nS]⟩::⟨some gt,52,z.tcs.take (t*8)++q'.v++z.tcs.drop (t*8+8)⟩::R) w) ?_ ?_
   ·with_reducible repeat(first|apply gThen|apply wp_seq)
    refine cDrawT (n:=8) (.s [0,1,2,3,4]<| .o 5<| .x<| .t 6<| .o 7<| .x<| .d) [⟨some g14,52,[.int .i64 q.st,slv (some gq) 8 qz.c,.int .i64 q.pc,.int .i64 q.cnt,.int .i64 q.han,.int .i64 q.sav,.int .i64 q.trp,.int .u16 q.cod]⟩,⟨some g11,32,(z.cl [slv (some gt) 4 z.tc])⟩] hm rfl rfl ?_
    clear hm;intro t_ w1_ hm
    repeat' (first|(refine dgd799_ ?_;clear t_ hs hm a;intros;rename_i a hm hs t_)|refine tE t_ ?_|refine tC ?_ ?_|exact tN|intro t_|(refine oDo (i:=5) hs rfl (Wnt.none rfl) rfl rfl (by exact d_call hs rfl rfl rfl (pl 109 rfl) ((kend _ (hm.rd_row mem_ hqs)))) ?_;clear hs;rintro _ w1 ⟨q',rfl,hqo',hqd',hN,hf⟩ a hs;(replace hm:=hm.gain hf hN);(clear hN hf);replace t_:=tX t_;refine⟨(hm.sub sub_),?_⟩)|(refine oDoN (i:=7) hs rfl (Wnt.none rfl) rfl (by exact d_store hs rfl rfl rfl tab rfl rfl rfl rfl hm rep_ (putG (by show t*8+8≤_;omega))) ?_;clear hs;rintro-w1 hm a hs;replace t_:=tX t_;refine⟨(hm.sub sub_),?_⟩)|(refine tD t_ ?_;(exact And.intro rfl ⟨q',hqo',hqd',(sb_ hs),hm.sub sub_⟩))|fail)
   clear hs hm a
   rintro a w ⟨q',hqo',hqd',hs,hm⟩
   have hsp:=hzt.splice (o:=t*8) (ys:=q'.v) (by rw[ThO.len];omega)
   rw[ThO.len,flat_splice ThO.v 8 ThO.len z.ts t q' htz]at hsp
   refine gs3375_ ?_;clear hs hm a;intros;rename_i a hm hs
   refine cDrawT (n:=5) (.s [0,1]<| .o 2<| .o 3<| .t 4<| .d) [⟨some g15,173,[.int .i64 (t:Int),.int .i64 2,.int .i64 6,.int .i64 q.cnt,.int .i64 q.pc,.int .i64 0,nS,nS]⟩,⟨some g11,32,(z.cl [slv (some gt) 4 z.tc])⟩] hm rfl rfl ?_
   clear hm;intro t_ w1_ hm
   repeat' (first|(refine dgd799_ ?_;clear t_ hs hm a;intros;rename_i a hm hs t_)|refine tE t_ ?_|refine tC ?_ ?_|exact tN|intro t_|(refine tD t_ ?_;(refine gs3375_ ?_;clear hs hm a;intros;rename_i a hm hs);(refine gRetN tab hs rfl (.cons (.cells rfl rfl rfl rfl (hm.ro (k:=0) (n:=5) (g:=g8) mem_ (cutF_ok rfl))) (.cons (.cells rfl rfl rfl rfl (hm.ro (k:=0) (n:=8) (g:=g9) mem_ (cutF_ok rfl))) (.cons (.tmp rfl) .nil))) ?_);(refine⟨z.upd t q' (z.tcs.take (t*8)++q'.v++z.tcs.drop (t*8+8)) z.m,⟨t,2,6,q.cnt,q.pc,0,⟨none,0,[]⟩,⟨none,0,[]⟩⟩,[],by rw[MO.v_vs,MO.upd_vs (MeO.like.refl _),hzvs];rfl,MO.upd_ok zo zo.m hqo' (by rw[hzl];exact hsp),MO.upd_val zv (Int.le_refl _) (MO.m_val zv) ?_,fun _ _ _ _ _ _=>⟨fun h=>(by cases h),fun h=>(by cases h)⟩,⟨by dsimp only;omega,by dsimp only;omega,by dsimp only;omega,by dsimp only;omega,hpc,by dsimp only;omega,by dsimp only;exact Nat.zero_le _,by dsimp only;exact Nat.zero_le _,fun c hc=>(by cases hc),fun c hc=>(by cases hc)⟩,fun e=>absurd (show(2:Int)=1 from e) (by omega),rfl,(fun b o n h=>by rcases h with h|h<;>cases h),(hmu (L:=[]) (hm.sub sub_)).new (List.Sublist.refl _),hm.fr⟩);(rw[hqd']);(exact⟨by dsimp only;omega,hqv.n,hqv.pc,hqv.cnt,hqv.han,hqv.sav,by dsimp only;omega,by dsimp only;omega,hqv.cv⟩))|fail)
 ·refine gs3375_ ?_;clear hs hm a;intros;rename_i a hm hs
  obtain⟨g11,rfl⟩:=hs.pp 11
  obtain⟨g15,rfl⟩:=hs.pp 15
  refine cDrawT (n:=5) (.s [0,1]<| .o 2<| .o 3<| .t 4<| .d) [⟨some g15,173,[.int .i64 (t:Int),.int .i64 2,.int .i64 q.trp,.int .i64 q.cnt,.int .i64 q.pc,.int .i64 0,nS,nS]⟩,⟨some g11,32,(z.cl [slv (some gt) 4 z.tc])⟩] hm rfl rfl ?_
  clear hm;intro t_ w1_ hm
  repeat' (first|(refine dgd799_ ?_;clear t_ hs hm a;intros;rename_i a hm hs t_)|refine tE t_ ?_|refine tC ?_ ?_|exact tN|intro t_|(refine tD t_ ?_;(refine gs3375_ ?_;clear hs hm a;intros;rename_i a hm hs);(refine gRetN tab hs rfl (.cons (.cells rfl rfl rfl rfl (hm.ro (k:=0) (n:=5) (g:=g8) mem_ (cutF_ok rfl))) (.cons (.cells rfl rfl rfl rfl (hm.ro (k:=0) (n:=8) (g:=g9) mem_ (cutF_ok rfl))) (.cons (.tmp rfl) .nil))) ?_);(exact hend0 2 q.trp _ (.inr rfl) htrp ((hmc (L:=[]) (hm.sub sub_)).new (List.Sublist.refl _)) hm.fr))|fail)
theorem gpShk0_{G H:Prop}(k:H)(s:Bx H→G:=by intro k_;(repeat(first|(refine ov_ ?_;(try clear hs a);intro a hs)|((with_reducible apply lCons);first|(refine dv hs gw_ rfl rfl da_ ?_;(try clear hs hm a);rintro _ w_ ⟨g_,rfl,-,hm⟩ a hs)|(refine stn hs rfl rfl ds_ ?_;(try clear hs hm a);rintro-w_ hm a hs))|refine sc_ ?_));have m_:=hm;have s_:=hs;clear hs;(try clear hm);revert m_ s_ a;(try revert w_);(repeat revert g_);exact k_.h):G:=s ⟨k⟩
theorem gpShk1_{G H:Prop}(k:H)(s:Bx H→G:=by intro k_;(repeat(first|(refine oq_ ?_;(try clear hs a);intro a hs)|((with_reducible apply lCons);first|(refine dv hs gw_ rfl rfl da_ ?_;(try clear hs hm a);rintro _ w_ ⟨g_,rfl,-,hm⟩ a hs)|(refine stn hs rfl rfl ds_ ?_;(try clear hs hm a);rintro-w_ hm a hs))|((with_reducible apply qNil);(try clear hm);intro w_ hm)|refine cQ_ ?_|refine sc_ ?_));have m_:=hm;have s_:=hs;clear hs;(try clear hm);revert m_ s_ a;(try revert w_);(repeat revert g_);exact k_.h):G:=s ⟨k⟩
def rawC(X:LS)(c:CN):CV:=⟨(rawF X c.t c.v c.r c.o).1.1,(rawF X c.t c.v c.r c.o).1.2⟩
def rawE(X:LS)(c:CN):Int:=(rawF X c.t c.v c.r c.o).2
theorem rawC_val(X:LS){c:CN}(h:c.val):(rawC X c).val:=⟨rawF_t X c.t c.v c.r c.o,rawF_v X c.t c.v c.r c.o h.v⟩
theorem CN.tag{c:CN}(h:c.val):c.t=0∨c.t=1∨c.t=2:=by have:=h.t;omega
theorem rawz_c(X:LS)(c:CN)(w:World)(hX:X.ok w)(hc:c.val):Ret Tryz.prog 63 [X.l,X.s,.agg #[.int .u8 c.t,.int .u16 c.v,.int .i64 c.r,.int .i64 c.o]] w (fun u w'=>u= .tuple #[.agg #[.int .u8 (rawC X c).t,.int .u16 (rawC X c).v],.int .i64 (rawE X c)]∧Pu w w'):=raw_c X c.t c.v c.r c.o w hX (CN.tag hc)
theorem radr_c(x:LS)(r o:Int)(w:World)(hx:x.ok w):
  Ret Tryz.prog 139 [x.l,x.s,.agg #[.int .i64 r,.int .i64 o]] w (fun v w'=>v= .tuple #[.int .i64 (adrF x r o).1,.int .i64 (adrF x r o).2]∧Pu w w'):=by
 have hin:=fun w'' (hf:Pu w w'')=>rins_c x.B x.n x.d x.ss r o w'' hx.sl (hf.rd' hx.sr)
 generalize hR:adrF x r o=R
 unfold adrF at hR
 obtain⟨A,n,c,bs,key,B,d,ss⟩:=x
 obtain⟨h1,h2,h3,h4,h5,h6,h7⟩:=hx
 unfold LS.l LS.s
 dsimp only at*
 cases hi:insF ss r o
 ·rw[hi]at hin hR
  rw[if_neg (by simp)]at hR
  subst hR
  refine enterR Tryz.func139 rfl rfl rfl fun a hs hm=>?_
  repeat(first|(refine gpShk0_ ?_;clear hs hm a;intros;rename_i a hm hs)|refine sc_ ?_|((with_reducible apply lCons);first|(refine dvc hs hm gw_ rfl rfl rfl rfl rfl (pl 72 rfl) (hin _ hm.fr) ?_;clear hs hm a;intro w hm a hs)))
  exact z4ca6_
 ·obtain⟨i1,i2,i3,i4⟩:=insF_t.1 hi
  rw[hi]at hin hR
  rw[if_pos (show true=true from rfl)]at hR
  obtain⟨k,rfl⟩:∃k:Nat,r=(k:Int):=⟨r.toNat,by omega⟩
  rw[Int.toNat_natCast]at i4 hR
  obtain⟨b1,o1,rfl,hb1,r1⟩:=h3.ro (by rw[ints_len];omega)
  have e1:=ints_some (xs:=bs) (k:=k) (by omega)
  have hg1:=getI (l:=bs) (k:=k) (by omega)
  have hg2:=getI (l:=ss) (k:=k) (by omega)
  have hbk:=h5 bs[k] (List.getElem_mem (by omega))
  have hsk:=h6 ss[k] (List.getElem_mem (by omega))
  rw[hg1]at hR
  rw[hg2]at i4
  generalize bs[k]'(_)=bk at*
  generalize ss[k]'(_)=sk at*
  subst hR
  refine enterR Tryz.func139 rfl rfl rfl fun a hs hm=>?_
  repeat(first|(refine gpShk1_ ?_;clear hs hm a;intros;rename_i a hm hs)|refine sc_ ?_|((with_reducible apply lCons);first|(refine dvc hs hm gw_ rfl rfl rfl rfl rfl (pl 72 rfl) (hin _ hm.fr) ?_;clear hs hm a;intro w hm a hs))|((with_reducible apply qCons);first|(refine qwc hs gw_ rfl rfl rfl rfl rfl (pl 72 rfl) (fun w hm=>hin _ hm.fr) ?_;clear hs a;intro a hs)))
  exact z4ca6_
theorem adr_in{X:LS}(hg:LGap X.bs X.ss){r o:Int}(h:insF X.ss r o=true):∃a:Nat,a<512∧adrF X r o=((a:Int),0):=by
 obtain⟨i1,i2,i3,i4⟩:=insF_t.1 h
 have:=hg.len
 have h2:=hg.b r.toNat (by omega)
 refine⟨(X.bs.getD r.toNat 0+o).toNat,by omega,?_⟩
 unfold adrF
 rw[if_pos h]
 congr 1
 omega
theorem MO.hps_set{z:MO}{q q':ThO}{t:Nat}{tcs:List Value}(hq:z.ts[t]?=some q) (h:q'.hp=q.hp):(z.upd t q' tcs z.m).hps=⟨z.tA,52,tcs⟩::⟨z.bA,3,z.bcs⟩::(z.m.hps++z.ts.map ThO.hp):=by
 unfold MO.upd MO.hps
 dsimp only
 rw[List.map_set,h,←List.map_set,set_self hq]
theorem gcShl0_{G H:Prop}(k:H)(s:Bx H→G:=by intro k_;(repeat(first|(refine ov701a_ ?_;(try clear hs a);intro a hs)|((with_reducible apply lCons);first|(refine dv hs gw_ rfl rfl da_ ?_;(try clear hs hm a);rintro _ w_ ⟨g_,rfl,-,hm⟩ a hs)|(refine stn hs rfl rfl ds_ ?_;(try clear hs hm a);rintro-w_ hm a hs))|refine sc_ ?_|((with_reducible apply lCons);first|(refine dvc hs hm gw_ rfl rfl rfl rfl rfl (pl 111 rfl) (kb _) ?_;(try clear hs hm a);intro w_ hm a hs))));(first|(have m_:=hm;have s_:=hs;clear hs;(try clear hm);revert m_ s_ a)|((first|refine rexc_ hs hm ?_|refine rexl_ hs hm ?_|refine rexg_ hs hm ?_|refine rexq_ hs hm ?_);intro a hm hs;revert hm hs a));(try revert w_);(repeat revert g_);exact k_.h):G:=s ⟨k⟩
theorem put_non [HB](p:PV)(N gm:Nat)(y:MO)(B:Int)(tk:Nat)(q:ThD)(r:RqV)(x:RsV)(wB:World)(hp:p.at wB N)(hpv:p.val)(hN:N≤wB.heap.size)(hM:Mm (own y.hps) wB y.hps wB)(hno:∀b,b<N→¬own y.hps b)(hy:y.ok)(hv:y.d.val p.ss B)(hh:Ro wB gm 0 y.vs)(hng:¬own y.hps gm)(ht:tk<4)(hth:r.th=(tk:Int))(hq:y.d.ts[tk]?=some q) (hq2:q.st=2) (hra:Rd wB N r.a.A (cns r.a.xs)) (hrv:r.val) (hrk:r.kin) (hst:r.stop=1) (hxd:Rd wB N x.d.A (cns x.d.xs)) (hxf:x.fit) (hcall:r.call≠10∧r.call≠12∧(bufF r.call=2→x.d.xs=[])):
  Ret Tryz.prog 128 [p.v,pt gm,r.v,x.v] wB (fun u w'=>∃(z:MO)(b:Bool),u= .bool b∧z.ok∧z.d.val p.ss B∧z.vs=y.vs∧Mm (own y.hps) wB z.hps w'):=by
 obtain⟨A0,hA0⟩:∃A0,own y.hps=A0:=⟨_,rfl⟩
 rw[hA0]
 obtain⟨th,stop,trap,cnt,pc,call,ra,rd⟩:=r
 obtain⟨xv,xd,sp,wt⟩:=x
 dsimp only at hth hst hra hxd hcall
 subst hth hst
 have htl:y.ts.length=4:=by have:=hv.t;rwa[MO.d_len]at this
 have hrt:=hy.t
 rw[htl]at hrt
 obtain⟨gt,hgt⟩:=hrt.some_ (by omega)
 rw[hgt]at hrt
 have hcl:=hrt.len
 have hle:=hrt.le
 have hm0:Mm A0 wB (⟨some gt,52,y.tcs⟩::⟨y.bA,3,y.bcs⟩::(y.m.hps++y.ts.map ThO.hp)) wB:=by
  rw[←hA0,←hgt]
  exact hM
 have hh1:Ro wB gm 0 (y.cl [slv (some gt) 4 y.tc]):=by rw[←hgt,←htl];exact hh
 have hnA:∀b,b<N→¬A0 b:=hA0▸hno
 have hngA:¬A0 gm:=hA0▸hng
 have hrav:∀c∈ra.xs,c.val:=hrv.av
 have hxv:xv.val:=hxf.v
 have hxdn:xd.xs.length≤16:=hxf.d
 have hxdv:∀c∈xd.xs,c.val:=hxf.dv
 have hsp:-1≤sp∧sp≤3:=hxf.sp
 have hLS:∀{L:List Hp}{z:MO}{w:World},Mm A0 wB L w→(∀h∈z.hps,h∈L)→z.ok→z.d.val p.ss B→(lsX p z.mv).ok w:=fun hm hM zo zv=>lsX_ok ((hp.fr hm.fr hN hnA).ok (Nat.le_trans hN hm.fr.size)) hpv (MO.mv_ok hm hM zo) (by rw[MO.mv_d];exact zv)
 have kraw:∀(z:MO)(c:CN)(w'':World),(lsX p z.mv).ok w''→z.d.val p.ss B→c.val→Ret Tryz.prog 63 [.agg #[slv z.bA z.bs.length z.bc,.int .u16 z.key],.slice p.sA p.ss.length p.sc,.agg #[.int .u8 c.t,.int .u16 c.v,.int .i64 c.r,.int .i64 c.o]] w'' (fun u w'=>u= .tuple #[.agg #[.int .u8 (rawC (lsX p z.mv) c).t,.int .u16 (rawC (lsX p z.mv) c).v],.int .i64 (rawE (lsX p z.mv) c)]∧Pu w'' w'):=fun z c w'' hX zv hc=>by
  have h:=rawz_c (lsX p z.mv) c w'' hX hc
  rw[lsX_l (B:=B) (by rw[MO.mv_d];exact zv)]at h
  exact h
 have hex:∀(z:MO)(b:Bool)(w':World),z.ok→z.d.val p.ss B→z.vs=y.vs→Mm A0 wB z.hps w'→∃(z':MO)(b':Bool),Value.bool b= .bool b'∧z'.ok∧z'.d.val p.ss B∧z'.vs=y.vs∧Mm A0 wB z'.hps w':=fun z b w' h1 h2 h3 h4=>⟨z,b,rfl,h1,h2,h3,h4⟩
 obtain⟨qy,hqy,hqyd⟩:=MO.d_th hq
 have hyh:∀h∈y.hps,h∈(⟨some gt,52,y.tcs⟩:Hp)::⟨y.bA,3,y.bcs⟩::(y.m.hps++y.ts.map ThO.hp):=fun h hh=>by rw[←hgt];exact hh
 have kb:=fun w''=>buf_c call w'' hrv.call
 obtain⟨hc10,hc12,hcb⟩:=hcall
 unfold PV.v RqV.v RsV.v
 dsimp only
 refine enterR Tryz.func128 rfl rfl rfl fun a hs hm=>?_
 clear hm
 have hm:=hm0
 refine gq20dc_ ?_;clear hs hm a;intros;rename_i a hm hs
 obtain⟨g4,rfl⟩:=hs.pp 4
 obtain⟨g6,rfl⟩:=hs.pp 6
 obtain⟨g7,rfl⟩:=hs.pp 7
 have hhU:∀_:Unit,Ro wB gm 0 (y.cl [slv (some gt) 4 y.tc]):=fun _=>hh1
 have hhL:Ro wB gm 0 [slv y.bA y.bs.length y.bc,.int .u16 y.key]:=fun j v hj=>hh1 j v (by
  have:=(List.getElem?_eq_some_iff.1 hj).1
  rcases(by simp at this;omega:j=0∨j=1)with rfl|rfl<;>exact hj)
 clear hh1 hh
 refine cMid (fun a w=>∃g10:Nat,Sl Tryz.f128.ntmps [(1,pt gm),(4,pt g4),(6,pt g6),(7,pt g7),(9,.pointer (some ⟨gt,tk*8,none⟩)),(10,pt g10),(11,.int .i64 (rawE (lsX p y.mv) xv))] a∧Mm A0 wB (⟨some g10,103,[.int .u8 (rawC (lsX p y.mv) xv).t,.int .u16 (rawC (lsX p y.mv) xv).v]⟩::⟨some g7,175,[.int .u8 xv.t,.int .u16 xv.v,.int .i64 xv.r,.int .i64 xv.o,.slice xd.A xd.xs.length xd.c,.int .i64 sp,.bool wt]⟩::⟨some g6,173,[.int .i64 (tk:Int),.int .i64 1,.int .i64 trap,.int .i64 cnt,.int .i64 pc,.int .i64 call,.slice ra.A ra.xs.length ra.c,.slice rd.A rd.xs.length rd.c]⟩::⟨some g4,38,(p.cl [])⟩::⟨some gt,52,y.tcs⟩::⟨y.bA,3,y.bcs⟩::(y.m.hps++y.ts.map ThO.hp)) w) ?_ ?_
 ·with_reducible repeat(first|apply gThen|apply wp_seq)
  refine cDrawT (n:=15) (.s [0,1,2,3,4,5,6,7]<| .e [(8,.x<| .s [9,10,11]<| .o 12<| .o 13<| .t 14<| .d),(12,.o 8<| .x<| .s [9,10,11]<| .o 13<| .t 14<| .d)]) [⟨some g7,175,[.int .u8 xv.t,.int .u16 xv.v,.int .i64 xv.r,.int .i64 xv.o,.slice xd.A xd.xs.length xd.c,.int .i64 sp,.bool wt]⟩,⟨some g4,38,(p.cl [])⟩] hm rfl rfl ?_
  clear hm;intro t_ w1_ hm
  repeat' (first|(refine dgd799_ ?_;clear t_ hs hm a;intros;rename_i a hm hs t_)|refine tE t_ ?_|refine tC ?_ ?_|exact tN|intro t_|(refine oDo (i:=8) hs rfl (Wnt.none rfl) rfl rfl (by exact d_call hs rfl rfl rfl (pl 63 rfl) ((kraw y xv _ (hLS hm (fun h hh=>by repeat(first|exact hyh h hh|apply List.mem_cons_of_mem)) hy hv) hv hxv))) ?_;clear hs;rintro _ w1 ⟨rfl,hf⟩ a hs;(replace hm:=hm.pu hf);(clear hf);replace t_:=tX t_;refine⟨(hm.sub sub_),?_⟩)|(refine tD t_ ?_;(obtain⟨g10,rfl⟩:=hs.pp 10);(exact And.intro rfl ⟨g10,(sb_ hs),hm⟩))|fail)
 clear hs hm a
 rintro a w ⟨g10,hs,hm⟩
 have hcv:=rawC_val (lsX p y.mv) hxv
 generalize rawC (lsX p y.mv) xv=cv at hs hm hcv
 by_cases he:rawE (lsX p y.mv) xv=0
 rotate_left
 ·refine gsc5af_ ?_;clear hs hm a;intros;rename_i a hm hs
  refine gRet1 hs rfl rfl (hex y false _ hy hv rfl ?_)
  have hm':Mm A0 wB (⟨some gt,52,y.tcs⟩::⟨y.bA,3,y.bcs⟩::(y.m.hps++y.ts.map ThO.hp)) _:=hm.sub sub_
  rw[←hgt]at hm'
  exact hm'
 have hdl:bufF call=2→xd.xs.length=0:=fun e=>by rw[hcb e];rfl
 by_cases hb:bufF call=2
 ·have hd0:=hdl hb
  refine gcShl0_ ?_;clear hs hm a;intros;rename_i a hm hs
  replace hm:=MO.open_ (L:=[⟨some g10,103,[.int .u8 cv.t,.int .u16 cv.v]⟩,⟨some g7,175,[.int .u8 xv.t,.int .u16 xv.v,.int .i64 xv.r,.int .i64 xv.o,.slice xd.A xd.xs.length xd.c,.int .i64 sp,.bool wt]⟩,⟨some g6,173,[.int .i64 (tk:Int),.int .i64 1,.int .i64 trap,.int .i64 cnt,.int .i64 pc,.int .i64 call,.slice ra.A ra.xs.length ra.c,.slice rd.A rd.xs.length rd.c]⟩,⟨some g4,38,(p.cl [])⟩]) (z:=y) (by rw[show y.hps=⟨y.tA,52,y.tcs⟩::⟨y.bA,3,y.bcs⟩::(y.m.hps++y.ts.map ThO.hp)from rfl,hgt];exact hm) hqy
  simp only[List.cons_append,List.nil_append]at hm
  have hqyv:=(hv).tt qy.d (List.mem_map.2 ⟨qy,List.mem_of_getElem? hqy,rfl⟩)
  have hqyo:=(hy).tt qy (List.mem_of_getElem? hqy)
  have hqyr:Row qy.A qy.d.xs.length qy.c 2 (cvs qy.d.xs) qy.cs:=hqyo
  rw[hqyv.n]at hqyr
  obtain⟨gq,hgq⟩:=hqyr.some_ (by omega)
  rw[show qy.hp=⟨some gq,103,qy.cs⟩ by unfold ThO.hp;rw[hgq],hgt]at hm
  rw[hgq]at hqyr
  have hztl:y.ts.length=4:=by have:=(hv).t;rwa[MO.d_len]at this
  have hzt:=(hy).t
  rw[hztl,hgt]at hzt
  have hztk:tk<y.ts.length:=by omega
  have hzcl:=hzt.len
  have hzle:=hzt.le
  have hqcl:=hqyr.len
  have hqle:=hqyr.le
  have e1:y.tcs[tk*8+1]?=some (slv (some gq) 8 qy.c):=hzt.get (by rw[flat_get ThO.v 8 ThO.len y.ts tk 1 hztk (by omega),(List.getElem?_eq_some_iff.1 hqy).2,←hgq,←hqyv.n];rfl)
  obtain⟨W,hW⟩:∃W,(⟨y.bA,3,y.bcs⟩:Hp)::(y.m.hps++(y.ts.eraseIdx tk).map ThO.hp)=W:=⟨_,rfl⟩
  rw[hW]at hm
  refine cMid (fun a w=>Mm A0 wB (⟨some gq,103,cv.cs++qy.cs.drop 2⟩::⟨some gt,52,y.tcs.set (tk*8+0) (.int .i64 1)⟩::W) w∧Sl Tryz.f128.ntmps [(9,.pointer (some ⟨gt,tk*8,none⟩))] a) ?_ ?_
  ·with_reducible repeat(first|apply gThen|apply wp_seq)
   refine cDrawTB (n:=11) (.s [0,1,2,3,4,5,6]<| .o 7<| .x<| .s [8,9]<| .o 10<| .d) 10 [⟨some g10,103,[.int .u8 cv.t,.int .u16 cv.v]⟩,⟨some gt,52,y.tcs⟩] hm rfl rfl ?_
   clear hm;intro t_ w1_ hm
   repeat' (first|(refine dg95fa_ ?_;clear t_ hs hm a;intros;rename_i a hm hs t_)|refine tEB t_ ?_|refine tCB ?_ ?_|exact tNB|intro t_|(refine oDoNB (i:=7) hs rfl (Wnt.none rfl) rfl (by exact d_store hs rfl rfl rfl tab rfl rfl rfl rfl hm rep_ (putG (by show 0+2≤_;omega))) ?_;clear hs;rintro-w1 hm a hs;replace t_:=tX t_;refine⟨bu_,?_⟩)|(refine tDB t_ ?_;(exact And.intro rfl ⟨hm.sub sub_,(sb_ hs)⟩))|fail)
  clear hs hm a
  rintro a w ⟨hm,hs⟩
  refine gsc5af_ ?_;clear hs hm a;intros;rename_i a hm hs
  obtain⟨k1,k2,k3⟩:=ThO.reg_ok hqyo hqyv (r:=0) (by omega) hcv
  have hrow:Row (some gt) 4 y.tc 8 ((y.ts.set tk (qy.reg 0 cv)).flatMap ThO.v) y.tcs:=by rw[trow_same hztk k3,set_self hqy];exact hzt
  have r1:=trow_set hrow hztk 0 (by omega) (.int .i64 1) (q2:={qy.reg 0 cv with d:={(qy.reg 0 cv).d with st:=1}}) rfl
  refine gRet1 hs rfl rfl (hex (y.upd tk {qy.reg 0 cv with d:={(qy.reg 0 cv).d with st:=1}} (y.tcs.set (tk*8+0) (.int .i64 1)) y.m) true _ (MO.upd_ok hy (hy).m k1 (by rw[hgt,hztl];exact r1)) (MO.upd_val hv (Int.le_refl _) (MO.m_val hv) ⟨by dsimp only;omega,k2.n,by rw[k2.pc];exact hqyv.pc,by rw[k2.cnt];exact hqyv.cnt,by rw[k2.han];exact hqyv.han,k2.sav,by rw[k2.trp];exact hqyv.trp,by rw[k2.cod];exact hqyv.cod,k2.cv⟩) ((MO.upd_vs (MeO.like.refl _)).trans rfl) ?_)
  refine MO.close_ (L:=[]) (m:=y.m) hztk ?_
  rw[hW,hgt,show ThO.hp {qy.reg 0 cv with d:={(qy.reg 0 cv).d with st:=1}}=⟨some gq,103,cv.cs++qy.cs.drop 2⟩ by unfold ThO.hp;rw[←hgq];rfl]
  exact hm
 ·refine gcShl0_ ?_;clear hs hm a;intros;rename_i a hm hs
  replace hm:=MO.open_ (L:=[⟨some g10,103,[.int .u8 cv.t,.int .u16 cv.v]⟩,⟨some g7,175,[.int .u8 xv.t,.int .u16 xv.v,.int .i64 xv.r,.int .i64 xv.o,.slice xd.A xd.xs.length xd.c,.int .i64 sp,.bool wt]⟩,⟨some g6,173,[.int .i64 (tk:Int),.int .i64 1,.int .i64 trap,.int .i64 cnt,.int .i64 pc,.int .i64 call,.slice ra.A ra.xs.length ra.c,.slice rd.A rd.xs.length rd.c]⟩,⟨some g4,38,(p.cl [])⟩]) (z:=y) (by rw[show y.hps=⟨y.tA,52,y.tcs⟩::⟨y.bA,3,y.bcs⟩::(y.m.hps++y.ts.map ThO.hp)from rfl,hgt];exact hm) hqy
  simp only[List.cons_append,List.nil_append]at hm
  have hqyv:=(hv).tt qy.d (List.mem_map.2 ⟨qy,List.mem_of_getElem? hqy,rfl⟩)
  have hqyo:=(hy).tt qy (List.mem_of_getElem? hqy)
  have hqyr:Row qy.A qy.d.xs.length qy.c 2 (cvs qy.d.xs) qy.cs:=hqyo
  rw[hqyv.n]at hqyr
  obtain⟨gq,hgq⟩:=hqyr.some_ (by omega)
  rw[show qy.hp=⟨some gq,103,qy.cs⟩ by unfold ThO.hp;rw[hgq],hgt]at hm
  rw[hgq]at hqyr
  have hztl:y.ts.length=4:=by have:=(hv).t;rwa[MO.d_len]at this
  have hzt:=(hy).t
  rw[hztl,hgt]at hzt
  have hztk:tk<y.ts.length:=by omega
  have hzcl:=hzt.len
  have hzle:=hzt.le
  have hqcl:=hqyr.len
  have hqle:=hqyr.le
  have e1:y.tcs[tk*8+1]?=some (slv (some gq) 8 qy.c):=hzt.get (by rw[flat_get ThO.v 8 ThO.len y.ts tk 1 hztk (by omega),(List.getElem?_eq_some_iff.1 hqy).2,←hgq,←hqyv.n];rfl)
  obtain⟨W,hW⟩:∃W,(⟨y.bA,3,y.bcs⟩:Hp)::(y.m.hps++(y.ts.eraseIdx tk).map ThO.hp)=W:=⟨_,rfl⟩
  rw[hW]at hm
  refine cMid (fun a w=>Mm A0 wB (⟨some gq,103,cv.cs++qy.cs.drop 2⟩::⟨some gt,52,y.tcs.set (tk*8+0) (.int .i64 1)⟩::W) w∧Sl Tryz.f128.ntmps [(9,.pointer (some ⟨gt,tk*8,none⟩))] a) ?_ ?_
  ·with_reducible repeat(first|apply gThen|apply wp_seq)
   refine cDrawTB (n:=11) (.s [0,1,2,3,4,5,6]<| .o 7<| .x<| .s [8,9]<| .o 10<| .d) 10 [⟨some g10,103,[.int .u8 cv.t,.int .u16 cv.v]⟩,⟨some gt,52,y.tcs⟩] hm rfl rfl ?_
   clear hm;intro t_ w1_ hm
   repeat' (first|(refine dg95fa_ ?_;clear t_ hs hm a;intros;rename_i a hm hs t_)|refine tEB t_ ?_|refine tCB ?_ ?_|exact tNB|intro t_|(refine oDoNB (i:=7) hs rfl (Wnt.none rfl) rfl (by exact d_store hs rfl rfl rfl tab rfl rfl rfl rfl hm rep_ (putG (by show 0+2≤_;omega))) ?_;clear hs;rintro-w1 hm a hs;replace t_:=tX t_;refine⟨bu_,?_⟩)|(refine tDB t_ ?_;(exact And.intro rfl ⟨hm.sub sub_,(sb_ hs)⟩))|fail)
  clear hs hm a
  rintro a w ⟨hm,hs⟩
  refine gsc5af_ ?_;clear hs hm a;intros;rename_i a hm hs
  obtain⟨k1,k2,k3⟩:=ThO.reg_ok hqyo hqyv (r:=0) (by omega) hcv
  have hrow:Row (some gt) 4 y.tc 8 ((y.ts.set tk (qy.reg 0 cv)).flatMap ThO.v) y.tcs:=by rw[trow_same hztk k3,set_self hqy];exact hzt
  have r1:=trow_set hrow hztk 0 (by omega) (.int .i64 1) (q2:={qy.reg 0 cv with d:={(qy.reg 0 cv).d with st:=1}}) rfl
  refine gRet1 hs rfl rfl (hex (y.upd tk {qy.reg 0 cv with d:={(qy.reg 0 cv).d with st:=1}} (y.tcs.set (tk*8+0) (.int .i64 1)) y.m) true _ (MO.upd_ok hy (hy).m k1 (by rw[hgt,hztl];exact r1)) (MO.upd_val hv (Int.le_refl _) (MO.m_val hv) ⟨by dsimp only;omega,k2.n,by rw[k2.pc];exact hqyv.pc,by rw[k2.cnt];exact hqyv.cnt,by rw[k2.han];exact hqyv.han,k2.sav,by rw[k2.trp];exact hqyv.trp,by rw[k2.cod];exact hqyv.cod,k2.cv⟩) ((MO.upd_vs (MeO.like.refl _)).trans rfl) ?_)
  refine MO.close_ (L:=[]) (m:=y.m) hztk ?_
  rw[hW,hgt,show ThO.hp {qy.reg 0 cv with d:={(qy.reg 0 cv).d with st:=1}}=⟨some gq,103,cv.cs++qy.cs.drop 2⟩ by unfold ThO.hp;rw[←hgq];rfl]
  exact hm
theorem gcShm0_{G H:Prop}(k:H)(s:Bx H→G:=by intro k_;(repeat(first|(refine ov701a_ ?_;(try clear hs a);intro a hs)|((with_reducible apply lCons);first|(refine dv hs gw_ rfl rfl da_ ?_;(try clear hs hm a);rintro _ w_ ⟨g_,rfl,-,hm⟩ a hs)|(refine stn hs rfl rfl ds_ ?_;(try clear hs hm a);rintro-w_ hm a hs))|refine sc_ ?_|((with_reducible apply lCons);first|(refine dvc hs hm gw_ rfl rfl rfl rfl rfl (pl 111 rfl) (kb _) ?_;(try clear hs hm a);intro w_ hm a hs))));(first|(have m_:=hm;have s_:=hs;clear hs;(try clear hm);revert m_ s_ a)|((first|refine rexc_ hs hm ?_|refine rexl_ hs hm ?_|refine rexg_ hs hm ?_|refine rexq_ hs hm ?_);intro a hm hs;revert hm hs a));(try revert w_);(repeat revert g_);exact k_.h):G:=s ⟨k⟩
theorem put_han [HB](p:PV)(N gm:Nat)(y:MO)(B:Int)(tk:Nat)(q:ThD)(r:RqV)(x:RsV)(wB:World)(hp:p.at wB N)(hpv:p.val)(hN:N≤wB.heap.size)(hM:Mm (own y.hps) wB y.hps wB)(hno:∀b,b<N→¬own y.hps b)(hy:y.ok)(hv:y.d.val p.ss B)(hh:Ro wB gm 0 y.vs)(hng:¬own y.hps gm)(ht:tk<4)(hth:r.th=(tk:Int))(hq:y.d.ts[tk]?=some q) (hq2:q.st=2) (hra:Rd wB N r.a.A (cns r.a.xs)) (hrv:r.val) (hrk:r.kin) (hst:r.stop=1) (hxd:Rd wB N x.d.A (cns x.d.xs)) (hxf:x.fit) (hcall:r.call=12):
  Ret Tryz.prog 128 [p.v,pt gm,r.v,x.v] wB (fun u w'=>∃(z:MO)(b:Bool),u= .bool b∧z.ok∧z.d.val p.ss B∧z.vs=y.vs∧Mm (own y.hps) wB z.hps w'):=by
 obtain⟨A0,hA0⟩:∃A0,own y.hps=A0:=⟨_,rfl⟩
 rw[hA0]
 obtain⟨th,stop,trap,cnt,pc,call,ra,rd⟩:=r
 obtain⟨xv,xd,sp,wt⟩:=x
 dsimp only at hth hst hra hxd hcall
 subst hth hst
 have htl:y.ts.length=4:=by have:=hv.t;rwa[MO.d_len]at this
 have hrt:=hy.t
 rw[htl]at hrt
 obtain⟨gt,hgt⟩:=hrt.some_ (by omega)
 rw[hgt]at hrt
 have hcl:=hrt.len
 have hle:=hrt.le
 have hm0:Mm A0 wB (⟨some gt,52,y.tcs⟩::⟨y.bA,3,y.bcs⟩::(y.m.hps++y.ts.map ThO.hp)) wB:=by
  rw[←hA0,←hgt]
  exact hM
 have hh1:Ro wB gm 0 (y.cl [slv (some gt) 4 y.tc]):=by rw[←hgt,←htl];exact hh
 have hnA:∀b,b<N→¬A0 b:=hA0▸hno
 have hngA:¬A0 gm:=hA0▸hng
 have hrav:∀c∈ra.xs,c.val:=hrv.av
 have hxv:xv.val:=hxf.v
 have hxdn:xd.xs.length≤16:=hxf.d
 have hxdv:∀c∈xd.xs,c.val:=hxf.dv
 have hsp:-1≤sp∧sp≤3:=hxf.sp
 have hLS:∀{L:List Hp}{z:MO}{w:World},Mm A0 wB L w→(∀h∈z.hps,h∈L)→z.ok→z.d.val p.ss B→(lsX p z.mv).ok w:=fun hm hM zo zv=>lsX_ok ((hp.fr hm.fr hN hnA).ok (Nat.le_trans hN hm.fr.size)) hpv (MO.mv_ok hm hM zo) (by rw[MO.mv_d];exact zv)
 have kraw:∀(z:MO)(c:CN)(w'':World),(lsX p z.mv).ok w''→z.d.val p.ss B→c.val→Ret Tryz.prog 63 [.agg #[slv z.bA z.bs.length z.bc,.int .u16 z.key],.slice p.sA p.ss.length p.sc,.agg #[.int .u8 c.t,.int .u16 c.v,.int .i64 c.r,.int .i64 c.o]] w'' (fun u w'=>u= .tuple #[.agg #[.int .u8 (rawC (lsX p z.mv) c).t,.int .u16 (rawC (lsX p z.mv) c).v],.int .i64 (rawE (lsX p z.mv) c)]∧Pu w'' w'):=fun z c w'' hX zv hc=>by
  have h:=rawz_c (lsX p z.mv) c w'' hX hc
  rw[lsX_l (B:=B) (by rw[MO.mv_d];exact zv)]at h
  exact h
 have hex:∀(z:MO)(b:Bool)(w':World),z.ok→z.d.val p.ss B→z.vs=y.vs→Mm A0 wB z.hps w'→∃(z':MO)(b':Bool),Value.bool b= .bool b'∧z'.ok∧z'.d.val p.ss B∧z'.vs=y.vs∧Mm A0 wB z'.hps w':=fun z b w' h1 h2 h3 h4=>⟨z,b,rfl,h1,h2,h3,h4⟩
 obtain⟨qy,hqy,hqyd⟩:=MO.d_th hq
 have hyh:∀h∈y.hps,h∈(⟨some gt,52,y.tcs⟩:Hp)::⟨y.bA,3,y.bcs⟩::(y.m.hps++y.ts.map ThO.hp):=fun h hh=>by rw[←hgt];exact hh
 subst hcall
 have kb:=fun w''=>buf_c 12 w'' (by omega)
 rw[show bufF 12=0 from rfl]at kb
 have hal:ra.xs.length=1:=hrk.n
 obtain⟨b1,o1,hA,hb1,r1⟩:=hra.ro (by rw[cns_len];omega)
 have hnb1:=hnA b1 hb1
 have r2:=r1.flat CN.cs_len (show 0<ra.xs.length by omega)
 have hc0:=hrav _ (List.getElem_mem (show 0<ra.xs.length by omega))
 have ht0:(ra.xs[0]'(by omega)).t=0:=by
  have h:=hrk.k 0 (show 0<ra.xs.length by omega) (by show 0<(kndF 12).length;decide)
  simpa[kndF,fitB]using h
 have hch:=hrk.h rfl _ (List.getElem?_eq_getElem (show 0<ra.xs.length by omega))
 generalize ra.xs[0]'(by omega)=c0 at r2 hc0 ht0 hch
 unfold CN.cs at r2
 rw[ht0]at r2
 have hwr:IntKind.i64.wrap c0.v=c0.v:=wrap_idP (by have:=hc0.v;omega)
 have hc0v:=hc0.v
 unfold PV.v RqV.v RsV.v
 dsimp only
 rw[hA]
 refine enterR Tryz.func128 rfl rfl rfl fun a hs hm=>?_
 clear hm
 have hm:=hm0
 refine gq20dc_ ?_;clear hs hm a;intros;rename_i a hm hs
 obtain⟨g4,rfl⟩:=hs.pp 4
 obtain⟨g6,rfl⟩:=hs.pp 6
 obtain⟨g7,rfl⟩:=hs.pp 7
 have hhU:∀_:Unit,Ro wB gm 0 (y.cl [slv (some gt) 4 y.tc]):=fun _=>hh1
 have hhL:Ro wB gm 0 [slv y.bA y.bs.length y.bc,.int .u16 y.key]:=fun j v hj=>hh1 j v (by
  have:=(List.getElem?_eq_some_iff.1 hj).1
  rcases(by simp at this;omega:j=0∨j=1)with rfl|rfl<;>exact hj)
 clear hh1 hh
 refine cMid (fun a w=>∃g10:Nat,Sl Tryz.f128.ntmps [(1,pt gm),(4,pt g4),(6,pt g6),(7,pt g7),(9,.pointer (some ⟨gt,tk*8,none⟩)),(10,pt g10),(11,.int .i64 (rawE (lsX p y.mv) xv))] a∧Mm A0 wB (⟨some g10,103,[.int .u8 (rawC (lsX p y.mv) xv).t,.int .u16 (rawC (lsX p y.mv) xv).v]⟩::⟨some g7,175,[.int .u8 xv.t,.int .u16 xv.v,.int .i64 xv.r,.int .i64 xv.o,.slice xd.A xd.xs.length xd.c,.int .i64 sp,.bool wt]⟩::⟨some g6,173,[.int .i64 (tk:Int),.int .i64 1,.int .i64 trap,.int .i64 cnt,.int .i64 pc,.int .i64 12,.slice (some ⟨b1,o1,none⟩) ra.xs.length ra.c,.slice rd.A rd.xs.length rd.c]⟩::⟨some g4,38,(p.cl [])⟩::⟨some gt,52,y.tcs⟩::⟨y.bA,3,y.bcs⟩::(y.m.hps++y.ts.map ThO.hp)) w) ?_ ?_
 ·with_reducible repeat(first|apply gThen|apply wp_seq)
  refine cDrawT (n:=15) (.s [0,1,2,3,4,5,6,7]<| .e [(8,.x<| .s [9,10,11]<| .o 12<| .o 13<| .t 14<| .d),(12,.o 8<| .x<| .s [9,10,11]<| .o 13<| .t 14<| .d)]) [⟨some g7,175,[.int .u8 xv.t,.int .u16 xv.v,.int .i64 xv.r,.int .i64 xv.o,.slice xd.A xd.xs.length xd.c,.int .i64 sp,.bool wt]⟩,⟨some g4,38,(p.cl [])⟩] hm rfl rfl ?_
  clear hm;intro t_ w1_ hm
  repeat' (first|(refine dgd799_ ?_;clear t_ hs hm a;intros;rename_i a hm hs t_)|refine tE t_ ?_|refine tC ?_ ?_|exact tN|intro t_|(refine oDo (i:=8) hs rfl (Wnt.none rfl) rfl rfl (by exact d_call hs rfl rfl rfl (pl 63 rfl) ((kraw y xv _ (hLS hm (fun h hh=>by repeat(first|exact hyh h hh|apply List.mem_cons_of_mem)) hy hv) hv hxv))) ?_;clear hs;rintro _ w1 ⟨rfl,hf⟩ a hs;(replace hm:=hm.pu hf);(clear hf);replace t_:=tX t_;refine⟨(hm.sub sub_),?_⟩)|(refine tD t_ ?_;(obtain⟨g10,rfl⟩:=hs.pp 10);(exact And.intro rfl ⟨g10,(sb_ hs),hm⟩))|fail)
 clear hs hm a
 rintro a w ⟨g10,hs,hm⟩
 have hcv:=rawC_val (lsX p y.mv) hxv
 generalize rawC (lsX p y.mv) xv=cv at hs hm hcv
 by_cases he:rawE (lsX p y.mv) xv=0
 rotate_left
 ·refine gsc5af_ ?_;clear hs hm a;intros;rename_i a hm hs
  refine gRet1 hs rfl rfl (hex y false _ hy hv rfl ?_)
  have hm':Mm A0 wB (⟨some gt,52,y.tcs⟩::⟨y.bA,3,y.bcs⟩::(y.m.hps++y.ts.map ThO.hp)) _:=hm.sub sub_
  rw[←hgt]at hm'
  exact hm'
 by_cases h255:c0.v≤255
 rotate_left
 ·refine gcShm0_ ?_;clear hs hm a;intros;rename_i a hm hs
  refine gRet1 hs rfl rfl (hex y false _ hy hv rfl ?_)
  have hm':Mm A0 wB (⟨some gt,52,y.tcs⟩::⟨y.bA,3,y.bcs⟩::(y.m.hps++y.ts.map ThO.hp)) _:=hm.sub sub_
  rw[←hgt]at hm'
  exact hm'
 refine gcShm0_ ?_;clear hs hm a;intros;rename_i a hm hs
 rw[hwr]at hm
 have htk:tk<y.ts.length:=by omega
 have hqyv:=hv.tt qy.d (List.mem_map.2 ⟨qy,List.mem_of_getElem? hqy,rfl⟩)
 have hrow0:Row (some gt) 4 y.tc 8 ((y.ts.set tk qy).flatMap ThO.v) y.tcs:=by rw[set_self hqy];exact hrt
 have r1':=trow_set hrow0 htk 4 (by omega) (.int .i64 c0.v) (q2:={qy with d:={qy.d with han:=c0.v}}) rfl
 obtain⟨z,hz⟩:∃z,z=y.upd tk {qy with d:={qy.d with han:=c0.v}} (y.tcs.set (tk*8+4) (.int .i64 c0.v)) y.m:=⟨_,rfl⟩
 have zo:z.ok:=by rw[hz];exact MO.upd_ok hy hy.m (hy.tt qy (List.mem_of_getElem? hqy)) (by rw[hgt,htl];exact r1')
 have zv:z.d.val p.ss B:=by rw[hz];exact MO.upd_val hv (Int.le_refl _) (MO.m_val hv) ⟨hqyv.st,hqyv.n,hqyv.pc,hqyv.cnt,⟨by dsimp only;omega,hch⟩,hqyv.sav,hqyv.trp,hqyv.cod,hqyv.cv⟩
 have zvs:z.vs=y.vs:=by rw[hz];exact MO.upd_vs (MeO.like.refl _)
 have hzt':z.ts[tk]?=some {qy with d:={qy.d with han:=c0.v}}:=by rw[hz];exact List.getElem?_set_self htk
 have zA:z.tA=some gt:=by rw[hz];exact hgt
 have zh:z.hps=⟨some gt,52,y.tcs.set (tk*8+4) (.int .i64 c0.v)⟩::⟨y.bA,3,y.bcs⟩::(y.m.hps++y.ts.map ThO.hp):=by rw[hz];exact(MO.hps_set (q':={qy with d:={qy.d with han:=c0.v}}) hqy rfl).trans (by rw[hgt])
 rw[←zh]at hm
 generalize hqze:({qy with d:={qy.d with han:=c0.v}}:ThO)=qz at hzt'
 replace hm:=MO.open_ (L:=[⟨some g10,103,[.int .u8 cv.t,.int .u16 cv.v]⟩,⟨some g7,175,[.int .u8 xv.t,.int .u16 xv.v,.int .i64 xv.r,.int .i64 xv.o,.slice xd.A xd.xs.length xd.c,.int .i64 sp,.bool wt]⟩,⟨some g6,173,[.int .i64 (tk:Int),.int .i64 1,.int .i64 trap,.int .i64 cnt,.int .i64 pc,.int .i64 12,.slice (some ⟨b1,o1,none⟩) ra.xs.length ra.c,.slice rd.A rd.xs.length rd.c]⟩,⟨some g4,38,(p.cl [])⟩]) (z:=z) hm hzt'
 simp only[List.cons_append,List.nil_append]at hm
 have hqzv:=(zv).tt qz.d (List.mem_map.2 ⟨qz,List.mem_of_getElem? hzt',rfl⟩)
 have hqzo:=(zo).tt qz (List.mem_of_getElem? hzt')
 have hqzr:Row qz.A qz.d.xs.length qz.c 2 (cvs qz.d.xs) qz.cs:=hqzo
 rw[hqzv.n]at hqzr
 obtain⟨gq,hgq⟩:=hqzr.some_ (by omega)
 rw[show qz.hp=⟨some gq,103,qz.cs⟩ by unfold ThO.hp;rw[hgq],zA]at hm
 rw[hgq]at hqzr
 have hztl:z.ts.length=4:=by have:=(zv).t;rwa[MO.d_len]at this
 have hzt:=(zo).t
 rw[hztl,zA]at hzt
 have hztk:tk<z.ts.length:=by omega
 have hzcl:=hzt.len
 have hzle:=hzt.le
 have hqcl:=hqzr.len
 have hqle:=hqzr.le
 have e1:z.tcs[tk*8+1]?=some (slv (some gq) 8 qz.c):=hzt.get (by rw[flat_get ThO.v 8 ThO.len z.ts tk 1 hztk (by omega),(List.getElem?_eq_some_iff.1 hzt').2,←hgq,←hqzv.n];rfl)
 obtain⟨W,hW⟩:∃W,(⟨z.bA,3,z.bcs⟩:Hp)::(z.m.hps++(z.ts.eraseIdx tk).map ThO.hp)=W:=⟨_,rfl⟩
 rw[hW]at hm
 refine cMid (fun a w=>Mm A0 wB (⟨some gq,103,cv.cs++qz.cs.drop 2⟩::⟨some gt,52,z.tcs.set (tk*8+0) (.int .i64 1)⟩::W) w∧Sl Tryz.f128.ntmps [(9,.pointer (some ⟨gt,tk*8,none⟩))] a) ?_ ?_
 ·with_reducible repeat(first|apply gThen|apply wp_seq)
  refine cDrawTB (n:=11) (.s [0,1,2,3,4,5,6]<| .o 7<| .x<| .s [8,9]<| .o 10<| .d) 10 [⟨some g10,103,[.int .u8 cv.t,.int .u16 cv.v]⟩,⟨some gt,52,z.tcs⟩] hm rfl rfl ?_
  clear hm;intro t_ w1_ hm
  repeat' (first|(refine dg95fa_ ?_;clear t_ hs hm a;intros;rename_i a hm hs t_)|refine tEB t_ ?_|refine tCB ?_ ?_|exact tNB|intro t_|(refine oDoNB (i:=7) hs rfl (Wnt.none rfl) rfl (by exact d_store hs rfl rfl rfl tab rfl rfl rfl rfl hm rep_ (putG (by show 0+2≤_;omega))) ?_;clear hs;rintro-w1 hm a hs;replace t_:=tX t_;refine⟨bu_,?_⟩)|(refine tDB t_ ?_;(exact And.intro rfl ⟨hm.sub sub_,(sb_ hs)⟩))|fail)
 clear hs hm a
 rintro a w ⟨hm,hs⟩
 refine gsc5af_ ?_;clear hs hm a;intros;rename_i a hm hs
 obtain⟨k1,k2,k3⟩:=ThO.reg_ok hqzo hqzv (r:=0) (by omega) hcv
 have hrow:Row (some gt) 4 z.tc 8 ((z.ts.set tk (qz.reg 0 cv)).flatMap ThO.v) z.tcs:=by rw[trow_same hztk k3,set_self hzt'];exact hzt
 have r1:=trow_set hrow hztk 0 (by omega) (.int .i64 1) (q2:={qz.reg 0 cv with d:={(qz.reg 0 cv).d with st:=1}}) rfl
 refine gRet1 hs rfl rfl (hex (z.upd tk {qz.reg 0 cv with d:={(qz.reg 0 cv).d with st:=1}} (z.tcs.set (tk*8+0) (.int .i64 1)) z.m) true _ (MO.upd_ok zo (zo).m k1 (by rw[zA,hztl];exact r1)) (MO.upd_val zv (Int.le_refl _) (MO.m_val zv) ⟨by dsimp only;omega,k2.n,by rw[k2.pc];exact hqzv.pc,by rw[k2.cnt];exact hqzv.cnt,by rw[k2.han];exact hqzv.han,k2.sav,by rw[k2.trp];exact hqzv.trp,by rw[k2.cod];exact hqzv.cod,k2.cv⟩) ((MO.upd_vs (MeO.like.refl _)).trans zvs) ?_)
 refine MO.close_ (L:=[]) (m:=z.m) hztk ?_
 rw[hW,zA,show ThO.hp {qz.reg 0 cv with d:={(qz.reg 0 cv).d with st:=1}}=⟨some gq,103,cv.cs++qz.cs.drop 2⟩ by unfold ThO.hp;rw[←hgq];rfl]
 exact hm
end Go.Proofs.YtbjffoojenpmfaaGreat
