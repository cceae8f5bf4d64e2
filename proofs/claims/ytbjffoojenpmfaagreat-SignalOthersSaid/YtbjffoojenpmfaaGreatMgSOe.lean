/- Texts put together: Six, Sif, Sig, Eng18, Shu, Shv, Shw, Shx, Shy, Sib, Sih, Sij, Sik, Sil, Sim, Sia, Sin. -/
import Derived.Test.YtbjffoojenpmfaaGreatMgSOd
set_option maxRecDepth 20000
set_option maxHeartbeats 64000000
namespace Go.Proofs.YtbjffoojenpmfaaGreat
open Go.RowKit
structure RV where
 r:RD
 eA:Option Addr
 ec:Nat
 n:Nat
 es:List Value
 jA:Option Addr
 jd:Nat
 js:List Int
def RV.cs(z:RV):List Value:=z.r.cs (.slice z.eA z.n z.ec) (.slice z.jA 4 z.jd)
def RV.v(z:RV):Value:= .agg z.cs.toArray
structure RV.inv [HB](z:RV)(w0:World)(B:Int)(X:List Hp)(w:World):Prop where
 i:RnI w0 B X z.r w
 e:St X (fun v=>Rd v v.heap.size z.eA z.es) w
 el:z.es.length=z.n*18
 one:z.es.all (·.oneCell')=true
 j:St X (fun v=>Rd v v.heap.size z.jA (ints z.js)) w
 jl:z.js.length=4
theorem RV.inv.step [HB]{z:RV}{w0 w w':World}{B:Int}{X X':List Hp}(h:z.inv w0 B X w)(hm:Mm (own X) w X' w'):z.inv w0 B X' w':=⟨h.i.step hm,h.e.step hm,h.el,h.one,h.j.step hm,h.jl⟩
theorem RV.inv.sub [HB]{z:RV}{w0 w:World}{B:Int}{X X':List Hp}(h:z.inv w0 B X w)(hs:X'.Sublist X):z.inv w0 B X' w:=⟨h.i.sub hs,h.e.sub hs,h.el,h.one,h.j.sub hs,h.jl⟩
theorem RV.inv.up [HB]{z:RV}{w0 w:World}{B C:Int}{X:List Hp}(h:z.inv w0 B X w)(hBC:B≤C):z.inv w0 C X w:=⟨h.i.up hBC,h.e,h.el,h.one,h.j,h.jl⟩
def runV(f:Nat→Option Addr × Nat × Nat)(k:Int):List Value:=[.slice (f 0).1 (f 0).2.1 (f 0).2.2,.slice (f 1).1 (f 1).2.1 (f 1).2.2,.slice (f 2).1 (f 2).2.1 (f 2).2.2,.slice (f 3).1 (f 3).2.1 (f 3).2.2,.int .u16 k,.slice (f 4).1 (f 4).2.1 (f 4).2.2,.slice (f 5).1 (f 5).2.1 (f 5).2.2,.slice (f 6).1 (f 6).2.1 (f 6).2.2,.slice (f 7).1 (f 7).2.1 (f 7).2.2,.slice (f 8).1 (f 8).2.1 (f 8).2.2,.slice (f 9).1 (f 9).2.1 (f 9).2.2,.slice (f 10).1 (f 10).2.1 (f 10).2.2,.slice (f 11).1 (f 11).2.1 (f 11).2.2,.slice (f 12).1 (f 12).2.1 (f 12).2.2,.slice (f 13).1 (f 13).2.1 (f 13).2.2,.slice (f 14).1 (f 14).2.1 (f 14).2.2,.slice (f 15).1 (f 15).2.1 (f 15).2.2,.slice (f 16).1 (f 16).2.1 (f 16).2.2]
def RV.f(z:RV):Nat→Option Addr × Nat × Nat
 |0=>(z.r.p.cA,z.r.p.code.length,z.r.p.cc)
 |1=>(z.r.p.sA,z.r.p.ss.length,z.r.p.sc)
 |2=>(z.r.p.dA,z.r.p.ws.length,z.r.p.dc)
 |3=>((z.r.y.bA.map fun g=>⟨g,0,none⟩),z.r.y.bs.length,z.r.y.bc)
 |4=>((z.r.y.m.cA.map fun g=>⟨g,0,none⟩),z.r.y.m.xs.length,z.r.y.m.cc)
 |5=>((z.r.y.m.lA.map fun g=>⟨g,0,none⟩),z.r.y.m.ls.length,z.r.y.m.lc)
 |6=>((z.r.y.tA.map fun g=>⟨g,0,none⟩),z.r.y.ts.length,z.r.y.tc)
 |7=>(z.r.o.ck.A,z.r.o.ck.xs.length,z.r.o.ck.c)
 |8=>(z.r.o.rn.A,z.r.o.rn.xs.length,z.r.o.rn.c)
 |9=>(z.r.o.ins.A,z.r.o.ins.qs.length,z.r.o.ins.c)
 |10=>(z.r.o.f.dA,z.r.o.f.ds.length,z.r.o.f.dc)
 |11=>(z.r.o.f.oA,z.r.o.f.os.length,z.r.o.f.oc)
 |12=>(z.r.o.us.A,z.r.o.us.us.length,z.r.o.us.c)
 |13=>(z.r.k.o.A,z.r.k.o.n,z.r.k.o.c)
 |14=>(z.r.k.qA,z.r.k.qs.length,z.r.k.qc)
 |15=>(z.eA,z.n,z.ec)
 |16=>(z.jA,4,z.jd)
 |_=>(none,0,0)
theorem RV.cs_f(z:RV):z.cs=runV z.f z.r.y.key:=rfl
def nof:Nat→Option Addr × Nat × Nat:=fun _=>(none,0,0)
theorem zrow_on{A:Option Nat}{n c s:Nat}{xs cs:List Value}{ty:TypeId}(h:Row A n c s xs cs):On [⟨A,ty,cs⟩] (fun v=>Rd v v.heap.size (ad A) xs):=fun _ _ _ _ hm hM=>hm.rd_row (hM _ (List.mem_singleton.2 rfl)) h
theorem gpSif0_{G H:Prop}(k:H)(s:Bx H→G:=by intro k_;(repeat(first|(refine ovR_ ?_;(try clear hs a);intro a hs)|((with_reducible apply lCons);first|(refine dv hs gw_ rfl rfl da_ ?_;(try clear hs hm a);rintro _ w_ ⟨g_,rfl,-,hm⟩ a hs)|(refine stn hs rfl rfl ds_ ?_;(try clear hs hm a);rintro-w_ hm a hs))|refine sc_ ?_));have m_:=hm;have s_:=hs;clear hs;(try clear hm);revert m_ s_ a;(try revert w_);(repeat revert g_);exact k_.h):G:=s ⟨k⟩
def NumC(c:CN):Prop:=c.t=0∧c.r=0∧c.o=0
theorem numsC_num{q:List Int}:∀c∈numsC q,NumC c:=fun c hc=>by
 obtain⟨v,_,rfl⟩:=List.mem_map.1 hc
 exact⟨rfl,rfl,rfl⟩
theorem proper_c(x:LS)(f:FV)(wB:World)(hx:x.ok wB)(hf:f.ok wB)(hnum:∀d∈f.ds,∀c∈d.xs,NumC c)(hfn:f.ds.length≤1000)(hfl:∀d∈f.ds,d.xs.length≤1000):Ret Tryz.prog 84 [x.s,f.v] wB (fun u w'=>u= .bool true∧Pu wB w'):=by
 have kp:∀(v:Int)(w'':World),Pu wB w''→Ret Tryz.prog 61 [x.s,cnV 0 v 0 0] w'' (fun u w'=>u= .bool true∧Pu w'' w'):=fun v w'' hf=>rprp_c x 0 v 0 0 w'' (hx.pu hf) (.inl rfl)
 obtain⟨A,n,c,bs,key,B,d,ss⟩:=x
 unfold LS.s cnV at*
 unfold FV.v
 dsimp only at*
 refine enterR Tryz.func84 rfl rfl rfl fun a hs hm=>?_
 refine gsce98_ ?_;clear hs hm a;intros;rename_i a hm hs
 refine cLoop (X:=Nat) (fun k a w'=>k≤f.ds.length∧Sl Tryz.f84.ntmps [(0,.slice B n d),(10,.slice f.dA f.ds.length f.dc),(11,.int .i64 (f.ds.length:Int)),(12,.int .i64 (k:Int))] a∧Mm (fun _=>False) wB [] w') (fun k=>f.ds.length-k) 0 ⟨Nat.zero_le _,(sb_ hs),hm.sub sub_⟩ ?_
 clear hs hm a
 rintro k a w' ⟨hk,hs,hm⟩
 by_cases hlt:k<f.ds.length
 ·obtain⟨b1,o1,hA,hb1,r1⟩:=hf.d.ro (by rw[List.length_map];omega)
  have hcell:(f.ds.map CnS.v)[k]?=some (.slice (f.ds[k]).A (f.ds[k]).xs.length (f.ds[k]).c):=by rw[List.getElem?_map,List.getElem?_eq_getElem hlt];rfl
  have hqo:=hf.dd _ (List.getElem_mem hlt)
  have hqn:=hnum _ (List.getElem_mem hlt)
  have hql:=hfl _ (List.getElem_mem hlt)
  generalize f.ds[k]=q at hcell hqo hqn hql
  rw[hA]at hs
  refine gsce98_ ?_;clear hs hm a;intros;rename_i a hm hs
  rw[←hA]at hs
  refine cLoop (X:=Nat) (fun i a w'=>i≤q.xs.length∧Sl Tryz.f84.ntmps [(0,.slice B n d),(10,.slice f.dA f.ds.length f.dc),(11,.int .i64 (f.ds.length:Int)),(12,.int .i64 (k:Int)),(16,.slice q.A q.xs.length q.c),(17,.int .i64 (q.xs.length:Int)),(18,.int .i64 (i:Int))] a∧Mm (fun _=>False) wB [] w') (fun i=>q.xs.length-i) 0 ⟨Nat.zero_le _,(sb_ hs),hm.sub sub_⟩ ?_
  clear hs hm a
  rintro i a w' ⟨hi,hs,hm⟩
  by_cases hlt2:i<q.xs.length
  ·obtain⟨b2,o2,hA2,hb2,r2⟩:=Rd.ro hqo (by rw[cns_len];omega)
   have r3:=r2.flat CN.cs_len hlt2
   obtain⟨n1,n2,n3⟩:=hqn _ (List.getElem_mem hlt2)
   generalize q.xs[i]=z at r3 n1 n2 n3
   unfold CN.cs at r3
   rw[n1,n2,n3]at r3
   rw[hA2]at hs
   clear r1
   repeat(first|(refine gpSif0_ ?_;clear hs hm a;intros;rename_i a hm hs)|refine sc_ ?_|((with_reducible apply lCons);first|(refine dvc hs hm gw_ rfl rfl rfl rfl rfl (pl 61 rfl) (kp _ _ hm.fr) ?_;clear hs hm a;intro w hm a hs)))
   rw[←hA2]at hs
   exact⟨i+1,by omega,by omega,(sb_ hs),hm.sub sub_⟩
  ·obtain rfl:i=q.xs.length:=by omega
   refine gsce98_ ?_;clear hs hm a;intros;rename_i a hm hs
   exact zb7e7_
 ·obtain rfl:k=f.ds.length:=by omega
  refine gsce98_ ?_;clear hs hm a;intros;rename_i a hm hs
  exact gRet1 hs rfl rfl ⟨rfl,hm.fr⟩
def kso:List Int:=List.replicate 4 (-1)
def KSN(go gq:Nat):KS:=⟨RW.is ⟨some go,4,ints kso,kso⟩,some ⟨gq,0,none⟩,4,[nilS,nilS,nilS,nilS]⟩
def ksh(go gq:Nat):List Hp:=[⟨some go,3,ints kso⟩,⟨some gq,22,[nS,nS,nS,nS]⟩]
theorem KSN_on(go gq:Nat):On (ksh go gq) (KSN go gq).ok:=fun S w0 w M hm hM=>by
 have hro:(RW.mk (some go) 4 (ints kso) kso).ok:=row_lit (k:=4) rfl (by omega)
 have hrq:Row (some gq) 4 4 1 ([nilS,nilS,nilS,nilS].map IS.v) [nS,nS,nS,nS]:=⟨(fun e=>by cases e),Nat.le_refl _,by unfold maxLen;omega,rfl,rfl,rfl⟩
 exact ks_mk hm (hM _ (List.mem_cons_self ..)) hro (hM _ (List.mem_cons_of_mem _ (List.mem_cons_self ..))) hrq fun q hq=>by
  have:q=nilS:=by simpa using hq
  subst this
  exact nilS_ok _
theorem KSN_va(go gq:Nat):VA (KSN go gq).ab:=newA_va
theorem rnwN_c(wB:World):Ret Tryz.prog 86 [] wB (fun u w'=>∃go gq:Nat,u= .agg #[.slice (some ⟨go,0,none⟩) 4 4,.slice (some ⟨gq,0,none⟩) 4 4]∧New wB w' (ksh go gq)∧Pu wB w'):=by
 refine enterR Tryz.func86 rfl rfl rfl fun a hs hm=>?_
 refine gsdfd4_ ?_;clear hs hm a;intros;rename_i a hm hs
 obtain⟨g0,rfl⟩:=hs.pp 0
 refine cMid (fun a w=>∃(g1 go gq:Nat),Sl Tryz.f86.ntmps [(0,pt g0),(1,pt g1)] a∧Mm (fun _=>False) wB [⟨some g1,84,[.slice (some ⟨go,0,none⟩) 4 4,.slice (some ⟨gq,0,none⟩) 4 4]⟩,⟨some gq,22,[nS,nS,nS,nS]⟩,⟨some go,3,ints (List.replicate 4 0)⟩,⟨some g0,84,[nS,nS]⟩] w) ?_ ?_
 ·skip
  refine cDrawT (n:=5) (.e [(0,.x<| .e [(1,.x<| .t 2<| .o 3<| .o 4<| .d),(3,.o 1<| .x<| .t 2<| .o 4<| .d)]),(1,.x<| .e [(0,.x<| .t 2<| .o 3<| .o 4<| .d),(3,.o 0<| .x<| .t 2<| .o 4<| .d)]),(3,.e [(0,.x<| .o 1<| .x<| .t 2<| .o 4<| .d),(1,.x<| .o 0<| .x<| .t 2<| .o 4<| .d)])]) [] hm rfl rfl ?_
  clear hm;intro t_ w1_ hm
  repeat' (first|(refine dg9546_ ?_;clear t_ hs hm a;intros;rename_i a hm hs t_)|refine tE t_ ?_|refine tC ?_ ?_|exact tN|intro t_|(refine oDo (i:=0) hs rfl (Wnt.none rfl) rfl rfl (by exact d_makeSlice (n:=4) hs rfl rfl rfl tab rfl rfl rfl rfl rfl (by omega) rfl hm) ?_;clear hs;rintro _ w1 ⟨go,rfl,-,hm⟩ a hs;replace t_:=tX t_;refine⟨(hm.sub sub_),?_⟩)|(refine oDo (i:=1) hs rfl (Wnt.none rfl) rfl rfl (by exact d_makeSlice (n:=4) hs rfl rfl rfl tab rfl rfl rfl rfl rfl (by omega) rfl hm) ?_;clear hs;rintro _ w1 ⟨gq,rfl,-,hm⟩ a hs;replace t_:=tX t_;refine⟨(hm.sub sub_),?_⟩)|(refine tD t_ ?_;(obtain⟨g1,rfl⟩:=hs.pp 1);(refine And.intro rfl ⟨g1,go,gq,(sb_ hs),?_⟩);(first|exact hm.sel [0,1,2,3] (by decide) rfl|exact hm.sel [0,2,1,3] (by decide) rfl|exact hm.sel [1,0,2,3] (by decide) rfl|exact hm.sel [2,0,1,3] (by decide) rfl|exact hm.sel [1,2,0,3] (by decide) rfl|exact hm.sel [2,1,0,3] (by decide) rfl))|fail)
 clear hs hm a
 rintro a w ⟨g1,go,gq,hs,hm⟩
 refine gsdfd4_ ?_;clear hs hm a;intros;rename_i a hm hs
 refine cLoop (X:=Nat × List Int) (fun X a w'=>Sl Tryz.f86.ntmps [(0,pt g0),(1,pt g1),(8,.int .i64 4),(9,.int .i64 (X.1:Int))] a∧Mm (fun _=>False) wB [⟨some g1,84,[.slice (some ⟨go,0,none⟩) 4 4,.slice (some ⟨gq,0,none⟩) 4 4]⟩,⟨some gq,22,[nS,nS,nS,nS]⟩,⟨some go,3,ints X.2⟩,⟨some g0,84,[nS,nS]⟩] w'∧X.1≤4∧X.2.length=4∧X.2.take X.1=List.replicate X.1 (-1)) (fun X=>4-X.1) (0,List.replicate 4 0) ⟨(sb_ hs),hm,Nat.zero_le _,rfl,rfl⟩ ?_
 clear hs hm a
 rintro⟨i,os⟩ a w' ⟨hs,hm,hi,hl,ht⟩
 dsimp only at*
 by_cases hlt:i<4
 ·have hix:i<(ints os).length:=by rw[ints_len];omega
  refine gsdfd4_ ?_;clear hs hm a;intros;rename_i a hm hs
  refine⟨(i+1,os.set i (-1)),by dsimp only;omega,(sb_ hs),?_,by dsimp only;omega,by dsimp only;rw[List.length_set];exact hl,?_⟩
  ·dsimp only
   rw[show ints (os.set i (-1))=(ints os).set i (.int .i64 (-1)) by simp[ints,List.map_set]]
   exact hm
  ·dsimp only
   rw[take_set_snoc _ _ _ (by omega),ht,List.replicate_succ']
 ·obtain rfl:i=4:=by omega
  have hos:os=kso:=by unfold kso;rw[←ht,List.take_of_length_le (by omega)]
  refine gsdfd4_ ?_;clear hs hm a;intros;rename_i a hm hs
  rw[hos]at hm
  exact gRetN tab hs rfl (.cons (.cells rfl rfl rfl rfl (hm.ro (k:=0) (n:=2) (g:=g0) mem_ (cutF_ok rfl))) .nil) ⟨go,gq,rfl,(hm.sel [2,1] (by decide) rfl).new (List.Sublist.refl _),hm.fr⟩
structure BjX where
 k:Nat
 A:Option Nat
 c:Nat
 cs:List Value
theorem beginN_c [HB](p:PV)(A:Option Addr)(c:Nat)(bs:List Int)(key:Int)(o:OV)(wB:World)(hp:p.ok wB)(hpv:p.val)(hA:Rd wB wB.heap.size A (ints bs))(hnc:p.ss.length≤c)(hg:LGap bs p.ss)(hkey:0≤key∧key≤65535)(ho:o.ok wB)(hov:o.val)(hnum:∀d∈o.f.ds,∀c∈d.xs,NumC c):Ret Tryz.prog 49 [p.v,.agg #[.slice A p.ss.length c,.int .u16 key],o.v] wB (fun u w'=>∃(y:MO)(oy:OV)(go gq:Nat)(R:List Hp)(jA:Option Nat)(jc:Nat)(jcs:List Value),u= .tuple #[.agg #[.slice p.cA p.code.length p.cc,.slice p.sA p.ss.length p.sc,.slice p.dA p.ws.length p.dc,slv y.bA y.bs.length y.bc,.int .u16 y.key,slv y.m.cA y.m.xs.length y.m.cc,slv y.m.lA y.m.ls.length y.m.lc,slv y.tA y.ts.length y.tc,.slice oy.ck.A oy.ck.xs.length oy.ck.c,.slice oy.rn.A oy.rn.xs.length oy.rn.c,.slice oy.ins.A oy.ins.qs.length oy.ins.c,.slice oy.f.dA oy.f.ds.length oy.f.dc,.slice oy.f.oA oy.f.os.length oy.f.oc,.slice oy.us.A oy.us.us.length oy.us.c,.slice (some ⟨go,0,none⟩) 4 4,.slice (some ⟨gq,0,none⟩) 4 4,nS,slv jA 4 jc],.int .i64 0]∧y.ok∧y.d.val p.ss 0∧On R oy.ok∧oy.val∧Row jA 4 jc 1 (ints kso) jcs∧New wB w' (⟨jA,3,jcs⟩::(y.hps++(R++ksh go gq)))∧Pu wB w'):=by
 have h4:=hpv.sz.four
 have hfn:=hov.f.n
 rw[FV.len_]at hfn
 have kst:=fun w'' (hf:Pu wB w'')=>start_c p A c bs key w'' (hp.pu hf) hpv (hf.rd' hA) hnc hg hkey
 have kov:=fun w'' (hf:Pu wB w'')=>oval_c o w'' (ho.pu hf) hov
 have koc:=fun w'' (hf:Pu wB w'')=>ocpy_c o w'' (ho.pu hf) hov
 have kpr:=fun w'' (hf:Pu wB w'')=>proper_c ⟨A,p.ss.length,c,bs,key,p.sA,p.sc,p.ss⟩ o.f w'' ⟨hg.len,rfl,hf.rd' hA,hf.rd' hp.s,(fun y hy=>by
  have hy':y∈bs:=hy
  obtain⟨i,hi,rfl⟩:=List.getElem_of_mem hy'
  have h1:=hg.b i hi
  have h2:=hpv.sz.bd (p.ss[i]'(by rw[←hg.len];exact hi)) (List.getElem_mem _)
  rw[getI (l:=bs) (k:=i) hi,getI (l:=p.ss) (k:=i) (by rw[←hg.len];exact hi)]at h1
  omega),hpv.sz.bd,h4⟩ (ho.pu hf).f hnum (by omega) (fun d hd=>by have:=(hov.f.d _ (FV.mem_ hd)).1;omega)
 unfold PV.v OV.v LS.s FV.v at*
 dsimp only at*
 refine enterR Tryz.func49 rfl rfl rfl fun a hs hm=>?_
 refine gsce98_ ?_;clear hs hm a;intros;rename_i a hm hs
 refine st hs rfl rfl rfl (d_call hs rfl rfl rfl (pl 82 rfl) ((kst _ hm.fr))) ?_;clear hs a;rintro _ w1 ⟨y,rfl,yo,yv,hN,hf⟩ a hs
 replace hm:=gainE hm hf hN
 clear hN hf
 unfold MO.v at hs
 simp only[List.cons_append,List.nil_append]at hm
 repeat(first|(refine gpSif0_ ?_;clear hs hm a;intros;rename_i a hm hs)|refine sc_ ?_|((with_reducible apply lCons);first|(refine dvc hs hm gw_ rfl rfl rfl rfl rfl (pl 83 rfl) (kov _ hm.fr) ?_;clear hs hm a;intro w hm a hs)|(refine dvc hs hm gw_ rfl rfl rfl rfl rfl (pl 84 rfl) (kpr _ hm.fr) ?_;clear hs hm a;intro w hm a hs)))
 obtain⟨g3,rfl⟩:=hs.pp 3
 obtain⟨g5,rfl⟩:=hs.pp 5
 obtain⟨g6,rfl⟩:=hs.pp 6
 obtain⟨g8,rfl⟩:=hs.pp 8
 refine cMid (fun a w=>∃(g10:Nat)(oy:OV)(go gq:Nat)(R:List Hp),On R oy.ok∧oy.val∧Sl Tryz.f49.ntmps [(6,pt g6),(10,pt g10)] a∧Mm (fun _=>False) wB ([⟨some g10,87,(p.cl (y.cl (slv y.tA y.ts.length y.tc::oy.cl (oy.f.cl [.slice oy.us.A oy.us.us.length oy.us.c,.slice (some ⟨go,0,none⟩) 4 4,.slice (some ⟨gq,0,none⟩) 4 4,nS,nS]))))⟩,⟨some g6,87,[nS,nS,nS,nS,.int .u16 0,nS,nS,nS,nS,nS,nS,nS,nS,nS,nS,nS,nS,nS]⟩]++(y.hps++(R++ksh go gq))) w) ?_ ?_
 ·with_reducible repeat(first|apply gThen|apply wp_seq)
  refine cDrawT (n:=8) (.s [0,1,2]<| .e [(3,.x<| .e [(4,.x<| .t 5<| .o 6<| .o 7<| .d),(6,.o 4<| .x<| .t 5<| .o 7<| .d)]),(6,.o 3<| .x<| .o 4<| .x<| .t 5<| .o 7<| .d)]) [⟨some g8,32,(y.cl [slv y.tA y.ts.length y.tc])⟩,⟨some g5,81,(o.cl (o.f.cl [.slice o.us.A o.us.us.length o.us.c]))⟩,⟨some g3,38,(p.cl [])⟩] hm rfl rfl ?_
  clear hm;intro t_ w1_ hm
  repeat' (first|(refine dg9546_ ?_;clear t_ hs hm a;intros;rename_i a hm hs t_)|refine tE t_ ?_|refine tC ?_ ?_|exact tN|intro t_|(refine oDo (i:=3) hs rfl (Wnt.none rfl) rfl rfl (by exact d_call hs rfl rfl rfl (pl 85 rfl) ((koc _ hm.fr))) ?_;clear hs;rintro _ w1 ⟨oy,R,rfl,oo,hN,ov,-,-,hf⟩ a hs;(replace hm:=gainE hm hf hN);(clear hN hf);(simp only[List.cons_append,List.nil_append,List.append_assoc]at hm);replace t_:=tX t_;refine⟨(hm.sub sub_),?_⟩)|(refine oDo (i:=4) hs rfl (Wnt.none rfl) rfl rfl (by exact d_call hs rfl rfl rfl (pl 86 rfl) ((rnwN_c _))) ?_;clear hs;rintro _ w1 ⟨go,gq,rfl,hN,hf⟩ a hs;(replace hm:=gainE hm hf hN);(clear hN hf);(simp only[List.cons_append,List.nil_append,List.append_assoc]at hm);replace t_:=tX t_;refine⟨(hm.sub sub_),?_⟩)|(refine tD t_ ?_;(obtain⟨g10,rfl⟩:=hs.pp 10);(exact And.intro rfl ⟨g10,oy,go,gq,R,oo,ov,(sb_ hs),hm.sub (List.Sublist.cons_cons _ (List.Sublist.cons _ (List.Sublist.cons_cons _ (List.Sublist.cons _ (List.Sublist.cons _ (List.Sublist.cons _ (List.Sublist.refl _)))))))⟩))|fail)
 clear hs hm a
 rintro a w ⟨g10,oy,go,gq,R,oo,ov,hs,hm⟩
 refine gsce98_ ?_;clear hs hm a;intros;rename_i a hm hs
 replace hm:=(hm.zero 3).perm (List.Perm.swap _ _ _)
 refine cLoop (X:=BjX) (fun X a w'=>X.k≤4∧Row X.A X.k X.c 1 (ints (List.replicate X.k (-1))) X.cs∧Sl Tryz.f49.ntmps [(6,pt g6),(10,pt g10),(39,.int .i64 (X.k:Int))] a∧Mm (fun _=>False) wB (⟨some g10,87,(p.cl (y.cl (slv y.tA y.ts.length y.tc::oy.cl (oy.f.cl [.slice oy.us.A oy.us.us.length oy.us.c,.slice (some ⟨go,0,none⟩) 4 4,.slice (some ⟨gq,0,none⟩) 4 4,nS,slv X.A X.k X.c]))))⟩::⟨X.A,3,X.cs⟩::⟨some g6,87,[nS,nS,nS,nS,.int .u16 0,nS,nS,nS,nS,nS,nS,nS,nS,nS,nS,nS,nS,nS]⟩::(y.hps++(R++ksh go gq))) w') (fun X=>4-X.k) ⟨0,none,0,[]⟩ ⟨Nat.zero_le _,Row.empty 1,(sb_ hs),hm⟩ ?_
 clear hs hm a
 rintro⟨k,jA,jc,jcs⟩ a w' ⟨hk,hjr,hs,hm⟩
 dsimp only at hk hjr hs hm
 by_cases hlt:k<4
 ·refine gsce98_ ?_;clear hs hm a;intros;rename_i a hm hs
  refine dv hs (Wnt.none rfl) rfl rfl (d_append (A:=jA) (n:=k) (c:=jc) (news:=[.int .i64 (-1)]) hs rfl rfl rfl rfl rfl tab rfl rfl rfl rfl rfl hm mem_ hjr rfl (hm.ro (n:=1) mem_ (cutF_ok rfl)) rfl (by show(k+1)*8≤_;omega) (by omega)) ?_
  clear hs
  rintro _ w4 ⟨jA2,jc2,jcs2,rfl,hjr2,hM⟩ a hs
  replace hm:=hM _ rep_
  clear hM
  rw[ints_snoc',←List.replicate_succ']at hjr2
  refine gsce98_ ?_;clear hs hm a;intros;rename_i a hm hs
  exact⟨⟨k+1,jA2,jc2,jcs2⟩,by dsimp only;omega,by dsimp only;omega,hjr2,(sb_ hs),hm.sub (List.Sublist.cons _ (List.Sublist.refl _))⟩
 ·obtain rfl:k=4:=by omega
  refine gsce98_ ?_;clear hs hm a;intros;rename_i a hm hs
  exact gRetN tab hs rfl (.cons (.cells rfl rfl rfl rfl (hm.ro (k:=0) (n:=18) (g:=g6) mem_ (cutF_ok rfl))) (.cons (.tmp rfl) .nil)) ⟨y,oy,go,gq,R,jA,jc,jcs,rfl,yo,yv,oo,ov,hjr,hm.new (List.Sublist.cons _ (List.Sublist.cons_cons _ (List.Sublist.cons _ (List.Sublist.refl _)))),hm.fr⟩
theorem begin_c [HB](w0:World)(p:PV)(A:Option Addr)(c:Nat)(bs:List Int)(key:Int)(o:OV)(X:List Hp)(wB:World)(hM:Mm (own X) wB X wB)(hw:w0.heap.size≤wB.heap.size)(hp:St X p.ok wB)(hpv:p.val)(hA:Rd wB wB.heap.size A (ints bs))(hnc:p.ss.length≤c)(hg:LGap bs p.ss)(hkey:0≤key∧key≤65535)(ho:o.ok wB)(hov:o.val)(hnum:∀d∈o.f.ds,∀c∈d.xs,NumC c):Ret Tryz.prog 49 [p.v,.agg #[.slice A p.ss.length c,.int .u16 key],o.v] wB (fun u w'=>∃z:RV,u= .tuple #[z.v,.int .i64 0]∧z.inv w0 0 X w'∧z.r.p=p∧Pu wB w'):=by
 refine(beginN_c p A c bs key o wB hp.now hpv hA hnc hg hkey ho hov hnum).mono fun u w' ⟨y,oy,go,gq,R,jA,jc,jcs,hu,yo,yv,oo,ov,hjr,hN,hf⟩=>?_
 have hG:=gainE hM hf hN
 have hY:Mm (own X) wB (X++y.hps) w':=hG.sub (List.Sublist.append (List.Sublist.refl _) (List.Sublist.cons _ (List.sublist_append_left _ _)))
 have hR:Mm (own X) wB (X++R) w':=hG.sub (List.Sublist.append (List.Sublist.refl _) (List.Sublist.cons _ ((List.sublist_append_left _ _).trans (List.sublist_append_right _ _))))
 have hK:Mm (own X) wB (X++ksh go gq) w':=hG.sub (List.Sublist.append (List.Sublist.refl _) (List.Sublist.cons _ ((List.sublist_append_right _ _).trans (List.sublist_append_right _ _))))
 have hJ:Mm (own X) wB (X++[⟨jA,3,jcs⟩]) w':=hG.sub (List.Sublist.append (List.Sublist.refl _) (List.Sublist.cons_cons _ (List.nil_sublist _)))
 have hYn:New wB w' y.hps:=⟨fun x hx=>hN.me x (List.mem_cons_of_mem _ (List.mem_append_left _ hx)),hN.dj.sub (List.Sublist.cons _ (List.sublist_append_left _ _)),fun x hx g e=>hN.fresh x (List.mem_cons_of_mem _ (List.mem_append_left _ hx)) g e⟩
 refine⟨⟨⟨p,y,oy,KSN go gq⟩,none,0,0,[],ad jA,jc,kso⟩,hu,⟨⟨Nat.le_trans hw hf.size,hp.pu hM hf,hpv,St.of_on hY (on_new hYn.dj fun x hx g e=>Nat.le_trans hw (hYn.fresh x hx g e)),yo,yv,St.of_on hR oo,ov,St.of_on hK (KSN_on go gq),KSN_va go gq,fun g h1 h2=>hY.own2 h2 h1⟩,(fun _ _ _ h=>by cases h),rfl,rfl,St.of_on hJ (zrow_on hjr),rfl⟩,rfl,hf⟩
theorem chcell(r:Nat)(h:r<6):∃v:Int,([.int .i64 0,.int .i64 1,.int .i64 2,.int .i64 3,.int .i64 7,.int .i64 63]:List Value)[r]?=some (.int .i64 v):=by
 rcases(by omega:r=0∨r=1∨r=2∨r=3∨r=4∨r=5)with rfl|rfl|rfl|rfl|rfl|rfl
 ·exact⟨0,rfl⟩
 ·exact⟨1,rfl⟩
 ·exact⟨2,rfl⟩
 ·exact⟨3,rfl⟩
 ·exact⟨7,rfl⟩
 ·exact⟨63,rfl⟩
theorem cho_c(gd:Nat)(A:Option Addr)(n c at_:Nat)(xs:List Int)(wB:World)(h:Dk gd A n c at_ xs wB):
  Ret Tryz.prog 53 [pt gd] wB (fun u w'=>∃(th br:Int)(sg:Bool),u= .agg #[.int .i64 th,.int .i64 br,.bool sg]∧DkR gd A n c xs wB w'):=by
 refine enterR Tryz.func53 rfl rfl rfl fun a hs hm=>?_
 clear hm
 have hm:=h.in_
 refine gsce98_ ?_;clear hs hm a;intros;rename_i a hm hs
 obtain⟨g2,rfl⟩:=hs.pp 2
 refine cMid (fun a w=>∃(th br:Int)(sg:Bool)(a1:Nat),Sl Tryz.f53.ntmps [(2,pt g2)] a∧Mm (own [dk gd A n c at_]) wB [⟨some g2,124,[.int .i64 th,.int .i64 br,.bool sg]⟩,dk gd A n c a1] w) ?_ ?_
 ·with_reducible repeat(first|apply gThen|apply wp_seq)
  refine cDrawT (n:=12) (.s [0,3,7]<| .e [(1,.x<| .e [(2,.o 4<| .x<| .t 5<| .e [(6,.o 8<| .x<| .s [9,10]<| .o 11<| .d),(8,.x<| .t 9<| .o 6<| .t 10<| .o 11<| .d)]),(4,.x<| .e [(2,.t 5<| .e [(6,.o 8<| .x<| .s [9,10]<| .o 11<| .d),(8,.x<| .t 9<| .o 6<| .t 10<| .o 11<| .d)]),(8,.x<| .t 9<| .o 2<| .t 5<| .o 6<| .t 10<| .o 11<| .d)])]),(2,.o 1<| .x<| .o 4<| .x<| .t 5<| .e [(6,.o 8<| .x<| .s [9,10]<| .o 11<| .d),(8,.x<| .t 9<| .o 6<| .t 10<| .o 11<| .d)])]) [] hm rfl rfl ?_
  clear hm;intro t_ w1_ hm
  repeat' (first|(refine dg9546_ ?_;clear t_ hs hm a;intros;rename_i a hm hs t_)|refine tE t_ ?_|refine tC ?_ ?_|exact tN|intro t_|(refine oDo (i:=1) hs rfl (Wnt.none rfl) rfl rfl (by exact d_call hs rfl rfl rfl (pl 21 rfl) ((nxt_c gd A n c _ xs 4 _ (h.now hm mem_) (by omega) (by omega)))) ?_;clear hs;rintro _ w1 ⟨r1,rfl,b1,a1,k1,hf⟩ a hs;(replace hm:=hm.dkt rep_ k1 hf);(clear hf);replace t_:=tX t_;refine⟨(hm.sub sub_),?_⟩)|(refine oDo (i:=4) hs rfl (Wnt.none rfl) rfl rfl (by exact d_call hs rfl rfl rfl (pl 21 rfl) ((nxt_c gd A n c _ xs 6 _ (h.now hm mem_) (by omega) (by omega)))) ?_;clear hs;rintro _ w1 ⟨r2,rfl,b2,a2,k2,hf⟩ a hs;(replace hm:=hm.dkt rep_ k2 hf);(clear hf);(obtain⟨bv,hcell⟩:=chcell r2 (by omega));replace t_:=tX t_;refine⟨(hm.sub sub_),?_⟩)|(refine oDo (i:=8) hs rfl (Wnt.none rfl) rfl rfl (by exact d_call hs rfl rfl rfl (pl 21 rfl) ((nxt_c gd A n c _ xs 4 _ (h.now hm mem_) (by omega) (by omega)))) ?_;clear hs;rintro _ w1 ⟨r3,rfl,b3,a3,k3,hf⟩ a hs;(replace hm:=hm.dkt rep_ k3 hf);(clear hf);replace t_:=tX t_;refine⟨(hm.sub sub_),?_⟩)|(refine tD t_ ?_;(exact And.intro rfl ⟨_,_,_,_,(sb_ hs),hm.sub sub_⟩))|fail)
 clear hs hm a
 rintro a w ⟨th,br,sg,a1,hs,hm⟩
 refine gsce98_ ?_;clear hs hm a;intros;rename_i a hm hs
 exact gRetN tab hs rfl (.cons (.cells rfl rfl rfl rfl (hm.ro (k:=0) (n:=3) (g:=g2) mem_ (cutF_ok rfl))) .nil) ⟨th,br,sg,rfl,_,h.now hm mem_,Dk.out hm⟩
theorem out_c(gd:Nat)(A:Option Addr)(n c at_:Nat)(xs:List Int)(wB:World)(h:Dk gd A n c at_ xs wB):
  Ret Tryz.prog 51 [pt gd] wB (fun u w'=>∃(o:OV)(R:List Hp)(a1:Nat),u=o.v∧On R o.ok∧o.val∧(∀d∈o.f.ds,∀c∈d.xs,NumC c)∧Mm (own [dk gd A n c at_]) wB (dk gd A n c a1::R) w'):=by
 refine enterR Tryz.func51 rfl rfl rfl fun a hs hm=>?_
 clear hm
 have hm:=h.in_
 refine gsce98_ ?_;clear hs hm a;intros;rename_i w a hm hs
 refine st hs rfl rfl rfl (d_call hs rfl rfl rfl (pl 78 rfl) ((wds_c gd A n c _ xs 5 _ (h.now hm mem_) (by omega)))) ?_;clear hs a;rintro _ w1 ⟨a1,A1,c1,cs1,y1,rfl,r1,l1,b1,hk⟩ a hs
 replace hm:=hm.deck (R:=[⟨A1,23,cs1⟩]) hk rfl rep_
 clear hk
 simp only[List.cons_append,List.nil_append]at hm
 refine gsce98_ ?_;clear hs hm a;intros;rename_i w a hm hs
 refine st hs rfl rfl rfl (d_call hs rfl rfl rfl (pl 78 rfl) ((wds_c gd A n c _ xs 3 _ (h.now hm mem_) (by omega)))) ?_;clear hs a;rintro _ w1 ⟨a2,A2,c2,cs2,y2,rfl,r2,l2,b2,hk⟩ a hs
 replace hm:=hm.deck (R:=[⟨A2,23,cs2⟩]) hk rfl rep_
 clear hk
 simp only[List.cons_append,List.nil_append]at hm
 refine gsce98_ ?_;clear hs hm a;intros;rename_i w a hm hs
 refine st hs rfl rfl rfl (d_call hs rfl rfl rfl (pl 78 rfl) ((wds_c gd A n c _ xs 8 _ (h.now hm mem_) (by omega)))) ?_;clear hs a;rintro _ w1 ⟨a3,A3,c3,cs3,y3,rfl,r3,l3,b3,hk⟩ a hs
 replace hm:=hm.deck (R:=[⟨A3,23,cs3⟩]) hk rfl rep_
 clear hk
 simp only[List.cons_append,List.nil_append]at hm
 refine gsce98_ ?_;clear hs hm a;intros;rename_i w a hm hs
 refine st hs rfl rfl rfl (d_call hs rfl rfl rfl (pl 78 rfl) ((wds_c gd A n c _ xs 4 _ (h.now hm mem_) (by omega)))) ?_;clear hs a;rintro _ w1 ⟨a4,A4,c4,cs4,y4,rfl,r4,l4,b4,hk⟩ a hs
 replace hm:=hm.deck (R:=[⟨A4,23,cs4⟩]) hk rfl rep_
 clear hk
 simp only[List.cons_append,List.nil_append]at hm
 refine gsce98_ ?_;clear hs hm a;intros;rename_i w a hm hs
 refine st hs rfl rfl rfl (d_call hs rfl rfl rfl (pl 78 rfl) ((wds_c gd A n c _ xs 5 _ (h.now hm mem_) (by omega)))) ?_;clear hs a;rintro _ w1 ⟨a5,A5,c5,cs5,y5,rfl,r5,l5,b5,hk⟩ a hs
 replace hm:=hm.deck (R:=[⟨A5,23,cs5⟩]) hk rfl rep_
 clear hk
 simp only[List.cons_append,List.nil_append]at hm
 refine gsce98_ ?_;clear hs hm a;intros;rename_i w a hm hs
 refine st hs rfl rfl rfl (d_call hs rfl rfl rfl (pl 78 rfl) ((wds_c gd A n c _ xs 5 _ (h.now hm mem_) (by omega)))) ?_;clear hs a;rintro _ w1 ⟨a6,A6,c6,cs6,y6,rfl,r6,l6,b6,hk⟩ a hs
 replace hm:=hm.deck (R:=[⟨A6,23,cs6⟩]) hk rfl rep_
 clear hk
 simp only[List.cons_append,List.nil_append]at hm
 refine gsce98_ ?_;clear hs hm a;intros;rename_i a hm hs
 obtain⟨g10,rfl⟩:=hs.qq 10
 obtain⟨g15,rfl⟩:=hs.qq 15
 obtain⟨g2,rfl⟩:=hs.pp 2
 have q1:WV.fit ⟨ad A1,c1,y1⟩:=⟨r1.le,by dsimp only;omega,b1⟩
 have q2:WV.fit ⟨ad A2,c2,y2⟩:=⟨r2.le,by dsimp only;omega,b2⟩
 have q3:WV.fit ⟨ad A3,c3,y3⟩:=⟨r3.le,by dsimp only;omega,b3⟩
 have q4:WV.fit ⟨ad A4,c4,y4⟩:=⟨r4.le,by dsimp only;omega,b4⟩
 have q5:WV.fit ⟨ad A5,c5,y5⟩:=⟨r5.le,by dsimp only;omega,b5⟩
 have q6:WV.fit ⟨ad A6,c6,y6⟩:=⟨r6.le,by dsimp only;omega,b6⟩
 have kb:=obeg_c (some ⟨g10,0,none⟩) 2 [⟨ad A1,c1,y1⟩,⟨ad A2,c2,y2⟩] ⟨some ⟨g15,0,none⟩,2,[⟨ad A3,c3,y3⟩,⟨ad A4,c4,y4⟩]⟩ ⟨ad A5,c5,y5⟩ ⟨ad A6,c6,y6⟩ _ (hm.rd (g:=g10) mem_ (List.prefix_refl _)) (fun q hq=>by
  simp only[List.mem_cons,List.not_mem_nil,or_false]at hq
  rcases hq with rfl|rfl
  ·exact hm.rd_row mem_ r1
  ·exact hm.rd_row mem_ r2) (by show 2≤4;omega) (fun q hq=>by
  simp only[List.mem_cons,List.not_mem_nil,or_false]at hq
  rcases hq with rfl|rfl
  ·exact q1
  ·exact q2) ⟨hm.rd (g:=g15) mem_ (List.prefix_refl _),fun q hq=>by
  simp only[List.mem_cons,List.not_mem_nil,or_false]at hq
  rcases hq with rfl|rfl
  ·exact hm.rd_row mem_ r3
  ·exact hm.rd_row mem_ r4⟩ ⟨Nat.le_refl _,fun q hq=>by
  simp only[List.mem_cons,List.not_mem_nil,or_false]at hq
  rcases hq with rfl|rfl
  ·exact q3
  ·exact q4⟩ (hm.rd_row mem_ r5) q5 (hm.rd_row mem_ r6) q6
 unfold InL.v WV.v at kb
 dsimp only at kb
 refine st hs rfl rfl rfl (d_call hs rfl rfl rfl (pl 88 rfl) ((kb))) ?_;clear hs a;rintro _ w1 ⟨o,R,rfl,oo,hN,ov,ods,hf⟩ a hs
 replace hm:=gainE hm hf hN
 clear hf hN
 unfold OV.v at hs
 simp only[List.cons_append,List.nil_append]at hm
 refine gsce98_ ?_;clear hs hm a;intros;rename_i a hm hs
 refine gRetN tab hs rfl (.cons (.cells rfl rfl rfl rfl (hm.ro (k:=0) (n:=6) (g:=g2) mem_ (cutF_ok rfl))) .nil) ⟨o,R,a6,rfl,oo,ov,fun d hd z hz=>?_,hm.sub ?_⟩
 ·have h1:d.xs∈o.f.d'.ds:=List.mem_map.2 ⟨d,hd,rfl⟩
  rw[ods]at h1
  obtain⟨q,_,hq⟩:=List.mem_map.1 h1
  rw[←hq]at hz
  exact numsC_num z hz
 ·repeat(first|exact List.Sublist.cons_cons _ (List.Sublist.refl _)|apply List.Sublist.cons)
section
variable {P:Program} {a:Act} {w w0:World} {S:Nat→Prop} {M M1:List Hp} {Q:Exit→Act→World→Prop} {ops:Array Oper} {l:Array Bool} {n:Nat}
theorem wpAnyH_imp{Q:Exit→Act→World→Prop}{A B:World→Prop}(h:∀w,B w→A w):∀(n:Nat)(l:Array Bool)(a:Act)(w:World),wpAnyH P .any ops Q B n l a w→wpAnyH P .any ops Q A n l a w
 |0,_,_,_,hB=>hB
 |n+1,_,_,_,hB=>⟨hB.1,fun i hi=>wpOp_mono (fun _ _ hk=>⟨h _ hk.1,wpAnyH_imp h n _ _ _ hk.2⟩) (hB.2 i hi)⟩
theorem hRebase(hm:Mm S w0 M w)(k:Drawn P ops Q (fun w'=>Mm (own M) w M1 w') n l a w):Drawn P ops Q (fun w'=>Mm S w0 M1 w') n l a w:=
 ⟨wpAnyH_imp (fun _ h=>hm.trans h) n l a w k.h⟩
end
theorem gcShu0_{G H:Prop}(k:H)(s:Bx H→G:=by intro k_;(repeat(first|(refine ov701a_ ?_;(try clear hs a);intro a hs)|((with_reducible apply lCons);first|(refine dv hs gw_ rfl rfl da_ ?_;(try clear hs hm a);rintro _ w_ ⟨g_,rfl,-,hm⟩ a hs)|(refine stn hs rfl rfl ds_ ?_;(try clear hs hm a);rintro-w_ hm a hs))|refine sc_ ?_|((with_reducible apply lCons);first|(refine dvc hs hm gw_ rfl rfl rfl rfl rfl (pl 123 rfl) (kvl _ _ _) ?_;(try clear hs hm a);intro w_ hm a hs))));(first|(have m_:=hm;have s_:=hs;clear hs;(try clear hm);revert m_ s_ a)|((first|refine rexc_ hs hm ?_|refine rexl_ hs hm ?_|refine rexg_ hs hm ?_|refine rexq_ hs hm ?_);intro a hm hs;revert hm hs a));(try revert w_);(repeat revert g_);exact k_.h):G:=s ⟨k⟩
theorem gcShu1_{G H:Prop}(k:H)(s:Bx H→G:=by intro k_;(repeat(first|(refine oq8d44_ ?_;(try clear hs a);intro a hs)|((with_reducible apply lCons);first|(refine dv hs gw_ rfl rfl da_ ?_;(try clear hs hm a);rintro _ w_ ⟨g_,rfl,-,hm⟩ a hs)|(refine stn hs rfl rfl ds_ ?_;(try clear hs hm a);rintro-w_ hm a hs))|((with_reducible apply qNil);(try clear hm);intro w_ hm)|refine cQ_ ?_|refine sc_ ?_|((with_reducible apply lCons);first|(refine dvc hs hm gw_ rfl rfl rfl rfl rfl (pl 123 rfl) (kvl _ _ _) ?_;(try clear hs hm a);intro w_ hm a hs))|((with_reducible apply qCons);first|(refine qwc hs gw_ rfl rfl rfl rfl rfl (pl 123 rfl) (fun w hm=>kvl _ _ _) ?_;(try clear hs a);intro a hs))));(first|(have m_:=hm;have s_:=hs;clear hs;(try clear hm);revert m_ s_ a)|((first|refine rexc_ hs hm ?_|refine rexl_ hs hm ?_|refine rexg_ hs hm ?_|refine rexq_ hs hm ?_);intro a hm hs;revert hm hs a));(try revert w_);(repeat revert g_);exact k_.h):G:=s ⟨k⟩
theorem valR_st(M:List Hp)(n:Int)(ok:Bool)(w:World):St M (valR n ok).ok w:=fun w' _ _=>valR_ok n ok w'
structure SpX where
 k:Nat
theorem MO.thr{y:MO}{w:World}{gt:Nat}(h:y.mv.ok w)(hg:y.tA=some gt){k:Nat}(hk:k<y.ts.length):Ro w gt (k*8) (y.ts[k]).v:=by
 obtain⟨bt,ot,hbt,-,rt⟩:=h.t.ro (by rw[flat_len ThV.v 8 ThV.len];show 0<(y.ts.map ThO.tv).length*8;rw[List.length_map];omega)
 have hbt':ad y.tA=some ⟨bt,ot,none⟩:=hbt
 rw[hg]at hbt'
 obtain⟨rfl,rfl⟩:gt=bt∧0=ot:=by unfold ad at hbt';simpa using hbt'
 have r1:=rt.flat ThV.len (show k<y.mv.ts.length by show k<(y.ts.map ThO.tv).length;rw[List.length_map];exact hk)
 rw[show y.mv.ts[k]'(by show k<(y.ts.map ThO.tv).length;rw[List.length_map];exact hk)=ThO.tv y.ts[k] by show(y.ts.map ThO.tv)[k]'_=_;rw[List.getElem_map]]at r1
 rw[Nat.zero_add]at r1
 exact r1
theorem RnI.gt [HB]{w0 w:World}{B:Int}{M:List Hp}{r:RD}(h:RnI w0 B M r w):r.y.ts.length=4∧∃gt,r.y.tA=some gt∧¬own M gt∧r.y.mv.ok w:=by
 have h4:r.y.ts.length=4:=by have:=h.yv.t;rwa[MO.d_len]at this
 obtain⟨gt,hgt⟩:=h.yo.t.some_ (by omega)
 exact⟨h4,gt,hgt,h.yd gt ⟨_,List.mem_cons_self ..,hgt⟩,MO.of_new h.y.now h.yo⟩
theorem perf0_c [HB](w0:World)(B:Int)(r:RD)(gr gj jc:Nat)(e:Value)(js:List Int)(jv:List Value)(X:List Hp)(q:RqV)(wB:World)(hM:Mm (own (r.hp gr e (.slice (some ⟨gj,0,none⟩) 4 jc)::⟨some gj,3,jv⟩::X)) wB (r.hp gr e (.slice (some ⟨gj,0,none⟩) 4 jc)::⟨some gj,3,jv⟩::X) wB)(hI:RnI w0 B (r.hp gr e (.slice (some ⟨gj,0,none⟩) 4 jc)::⟨some gj,3,jv⟩::X) r wB)(hjs:Row (some gj) 4 jc 1 (ints js) jv)(hq:q.ok wB)(hqn:q.no (r.hp gr e (.slice (some ⟨gj,0,none⟩) 4 jc)::⟨some gj,3,jv⟩::X))(hqv:q.val)(hqk:q.kin)(hst:q.stop=1)(ha:q.call=0):Ret Tryz.prog 113 [pt gr,q.v] wB (fun u w'=>∃(o':OV)(k':KS)(js':List Int)(jv':List Value)(x:RsV),u=x.v∧Row (some gj) 4 jc 1 (ints js') jv'∧RnI w0 B (RD.hp gr {r with o:=o',k:=k'} e (.slice (some ⟨gj,0,none⟩) 4 jc)::⟨some gj,3,jv'⟩::X) {r with o:=o',k:=k'} w'∧St (RD.hp gr {r with o:=o',k:=k'} e (.slice (some ⟨gj,0,none⟩) 4 jc)::⟨some gj,3,jv'⟩::X) x.ok w'∧x.fit∧Mm (own (r.hp gr e (.slice (some ⟨gj,0,none⟩) 4 jc)::⟨some gj,3,jv⟩::X)) wB (RD.hp gr {r with o:=o',k:=k'} e (.slice (some ⟨gj,0,none⟩) 4 jc)::⟨some gj,3,jv'⟩::X) w'):=by
 obtain⟨M0,hM0⟩:∃M0,r.hp gr e (.slice (some ⟨gj,0,none⟩) 4 jc)::⟨some gj,3,jv⟩::X=M0:=⟨_,rfl⟩
 rw[hM0]at hI hM hqn ⊢
 have hm0:Mm (own M0) wB (r.hp gr e (.slice (some ⟨gj,0,none⟩) 4 jc)::⟨some gj,3,jv⟩::X) wB:=by rw[hM0];exact hM
 unfold RD.hp RD.cs at hm0
 have hqth:0≤q.th∧q.th<4:=by have:=hqv.th;omega
 have kvl:∀(n:Int)(b:Bool)(w'':World),Ret Tryz.prog 123 [.int .i64 n,.bool b] w'' (fun u w'=>u= .agg #[.int .u8 0,.int .u16 (IntKind.u16.wrap (failF n b)),.int .i64 0,.int .i64 0,nS,.int .i64 (-1),.bool false]∧Pu w'' w'):=fun n b w''=>vlu_c n b w''
 obtain⟨th,stop,trap,cnt,pc,call,ra,rd⟩:=q
 have hra:ra.ok wB:=hq.a
 have hrav:∀c∈ra.xs,c.val:=hqv.av
 have hran:=hqk.n
 have hnra:∀b o n,ra.A=some ⟨b,o,n⟩→¬own M0 b:=fun b o n e=>hqn b o n (.inl e)
 dsimp only at hst ha hqth hran
 subst hst ha
 unfold RqV.v
 dsimp only
 refine enterR Tryz.func113 rfl rfl rfl fun a hs hm=>?_
 clear hm
 have hm:=hm0
 refine gcShu0_ ?_;clear hs hm a;intros;rename_i a hm hs
 obtain⟨g4,rfl⟩:=hs.pp 4
 have hm':=hm.sub (M':=⟨some gr,87,(r.p.cl (r.y.cl (slv r.y.tA r.y.ts.length r.y.tc::r.o.cl (r.o.f.cl [.slice r.o.us.A r.o.us.us.length r.o.us.c,.slice r.k.o.A r.k.o.n r.k.o.c,.slice r.k.qA r.k.qs.length r.k.qc,e,.slice (some ⟨gj,0,none⟩) 4 jc]))))⟩::⟨some gj,3,jv⟩::X) sub_
 exact gRetN tab hs rfl (.cons (.cells rfl rfl rfl rfl (hm.ro (k:=0) (n:=7) (g:=g4) mem_ (cutF_ok rfl))) .nil) ⟨r.o,r.k,js,jv,valR 0 true,rfl,hjs,hI.step hm',valR_st _ _ _ _,valR_fit _ _,hm'⟩
theorem perf12_c [HB](w0:World)(B:Int)(r:RD)(gr gj jc:Nat)(e:Value)(js:List Int)(jv:List Value)(X:List Hp)(q:RqV)(wB:World)(hM:Mm (own (r.hp gr e (.slice (some ⟨gj,0,none⟩) 4 jc)::⟨some gj,3,jv⟩::X)) wB (r.hp gr e (.slice (some ⟨gj,0,none⟩) 4 jc)::⟨some gj,3,jv⟩::X) wB)(hI:RnI w0 B (r.hp gr e (.slice (some ⟨gj,0,none⟩) 4 jc)::⟨some gj,3,jv⟩::X) r wB)(hjs:Row (some gj) 4 jc 1 (ints js) jv)(hq:q.ok wB)(hqn:q.no (r.hp gr e (.slice (some ⟨gj,0,none⟩) 4 jc)::⟨some gj,3,jv⟩::X))(hqv:q.val)(hqk:q.kin)(hst:q.stop=1)(ha:q.call=12):Ret Tryz.prog 113 [pt gr,q.v] wB (fun u w'=>∃(o':OV)(k':KS)(js':List Int)(jv':List Value)(x:RsV),u=x.v∧Row (some gj) 4 jc 1 (ints js') jv'∧RnI w0 B (RD.hp gr {r with o:=o',k:=k'} e (.slice (some ⟨gj,0,none⟩) 4 jc)::⟨some gj,3,jv'⟩::X) {r with o:=o',k:=k'} w'∧St (RD.hp gr {r with o:=o',k:=k'} e (.slice (some ⟨gj,0,none⟩) 4 jc)::⟨some gj,3,jv'⟩::X) x.ok w'∧x.fit∧Mm (own (r.hp gr e (.slice (some ⟨gj,0,none⟩) 4 jc)::⟨some gj,3,jv⟩::X)) wB (RD.hp gr {r with o:=o',k:=k'} e (.slice (some ⟨gj,0,none⟩) 4 jc)::⟨some gj,3,jv'⟩::X) w'):=by
 obtain⟨M0,hM0⟩:∃M0,r.hp gr e (.slice (some ⟨gj,0,none⟩) 4 jc)::⟨some gj,3,jv⟩::X=M0:=⟨_,rfl⟩
 rw[hM0]at hI hM hqn ⊢
 have hm0:Mm (own M0) wB (r.hp gr e (.slice (some ⟨gj,0,none⟩) 4 jc)::⟨some gj,3,jv⟩::X) wB:=by rw[hM0];exact hM
 unfold RD.hp RD.cs at hm0
 have hqth:0≤q.th∧q.th<4:=by have:=hqv.th;omega
 have kvl:∀(n:Int)(b:Bool)(w'':World),Ret Tryz.prog 123 [.int .i64 n,.bool b] w'' (fun u w'=>u= .agg #[.int .u8 0,.int .u16 (IntKind.u16.wrap (failF n b)),.int .i64 0,.int .i64 0,nS,.int .i64 (-1),.bool false]∧Pu w'' w'):=fun n b w''=>vlu_c n b w''
 obtain⟨th,stop,trap,cnt,pc,call,ra,rd⟩:=q
 have hra:ra.ok wB:=hq.a
 have hrav:∀c∈ra.xs,c.val:=hqv.av
 have hran:=hqk.n
 have hnra:∀b o n,ra.A=some ⟨b,o,n⟩→¬own M0 b:=fun b o n e=>hqn b o n (.inl e)
 dsimp only at hst ha hqth hran
 subst hst ha
 unfold RqV.v
 dsimp only
 refine enterR Tryz.func113 rfl rfl rfl fun a hs hm=>?_
 clear hm
 have hm:=hm0
 refine gcShu0_ ?_;clear hs hm a;intros;rename_i a hm hs
 obtain⟨g4,rfl⟩:=hs.pp 4
 have hm':=hm.sub (M':=⟨some gr,87,(r.p.cl (r.y.cl (slv r.y.tA r.y.ts.length r.y.tc::r.o.cl (r.o.f.cl [.slice r.o.us.A r.o.us.us.length r.o.us.c,.slice r.k.o.A r.k.o.n r.k.o.c,.slice r.k.qA r.k.qs.length r.k.qc,e,.slice (some ⟨gj,0,none⟩) 4 jc]))))⟩::⟨some gj,3,jv⟩::X) sub_
 exact gRetN tab hs rfl (.cons (.cells rfl rfl rfl rfl (hm.ro (k:=0) (n:=7) (g:=g4) mem_ (cutF_ok rfl))) .nil) ⟨r.o,r.k,js,jv,valR 0 true,rfl,hjs,hI.step hm',valR_st _ _ _ _,valR_fit _ _,hm'⟩
theorem perf15_c [HB](w0:World)(B:Int)(r:RD)(gr gj jc:Nat)(e:Value)(js:List Int)(jv:List Value)(X:List Hp)(q:RqV)(wB:World)(hM:Mm (own (r.hp gr e (.slice (some ⟨gj,0,none⟩) 4 jc)::⟨some gj,3,jv⟩::X)) wB (r.hp gr e (.slice (some ⟨gj,0,none⟩) 4 jc)::⟨some gj,3,jv⟩::X) wB)(hI:RnI w0 B (r.hp gr e (.slice (some ⟨gj,0,none⟩) 4 jc)::⟨some gj,3,jv⟩::X) r wB)(hjs:Row (some gj) 4 jc 1 (ints js) jv)(hq:q.ok wB)(hqn:q.no (r.hp gr e (.slice (some ⟨gj,0,none⟩) 4 jc)::⟨some gj,3,jv⟩::X))(hqv:q.val)(hqk:q.kin)(hst:q.stop=1)(ha:q.call=15):Ret Tryz.prog 113 [pt gr,q.v] wB (fun u w'=>∃(o':OV)(k':KS)(js':List Int)(jv':List Value)(x:RsV),u=x.v∧Row (some gj) 4 jc 1 (ints js') jv'∧RnI w0 B (RD.hp gr {r with o:=o',k:=k'} e (.slice (some ⟨gj,0,none⟩) 4 jc)::⟨some gj,3,jv'⟩::X) {r with o:=o',k:=k'} w'∧St (RD.hp gr {r with o:=o',k:=k'} e (.slice (some ⟨gj,0,none⟩) 4 jc)::⟨some gj,3,jv'⟩::X) x.ok w'∧x.fit∧Mm (own (r.hp gr e (.slice (some ⟨gj,0,none⟩) 4 jc)::⟨some gj,3,jv⟩::X)) wB (RD.hp gr {r with o:=o',k:=k'} e (.slice (some ⟨gj,0,none⟩) 4 jc)::⟨some gj,3,jv'⟩::X) w'):=by
 obtain⟨M0,hM0⟩:∃M0,r.hp gr e (.slice (some ⟨gj,0,none⟩) 4 jc)::⟨some gj,3,jv⟩::X=M0:=⟨_,rfl⟩
 rw[hM0]at hI hM hqn ⊢
 have hm0:Mm (own M0) wB (r.hp gr e (.slice (some ⟨gj,0,none⟩) 4 jc)::⟨some gj,3,jv⟩::X) wB:=by rw[hM0];exact hM
 unfold RD.hp RD.cs at hm0
 have hqth:0≤q.th∧q.th<4:=by have:=hqv.th;omega
 have kvl:∀(n:Int)(b:Bool)(w'':World),Ret Tryz.prog 123 [.int .i64 n,.bool b] w'' (fun u w'=>u= .agg #[.int .u8 0,.int .u16 (IntKind.u16.wrap (failF n b)),.int .i64 0,.int .i64 0,nS,.int .i64 (-1),.bool false]∧Pu w'' w'):=fun n b w''=>vlu_c n b w''
 obtain⟨th,stop,trap,cnt,pc,call,ra,rd⟩:=q
 have hra:ra.ok wB:=hq.a
 have hrav:∀c∈ra.xs,c.val:=hqv.av
 have hran:=hqk.n
 have hnra:∀b o n,ra.A=some ⟨b,o,n⟩→¬own M0 b:=fun b o n e=>hqn b o n (.inl e)
 dsimp only at hst ha hqth hran
 subst hst ha
 unfold RqV.v
 dsimp only
 refine enterR Tryz.func113 rfl rfl rfl fun a hs hm=>?_
 clear hm
 have hm:=hm0
 refine gcShu0_ ?_;clear hs hm a;intros;rename_i a hm hs
 obtain⟨g4,rfl⟩:=hs.pp 4
 have hm':=hm.sub (M':=⟨some gr,87,(r.p.cl (r.y.cl (slv r.y.tA r.y.ts.length r.y.tc::r.o.cl (r.o.f.cl [.slice r.o.us.A r.o.us.us.length r.o.us.c,.slice r.k.o.A r.k.o.n r.k.o.c,.slice r.k.qA r.k.qs.length r.k.qc,e,.slice (some ⟨gj,0,none⟩) 4 jc]))))⟩::⟨some gj,3,jv⟩::X) sub_
 exact gRetN tab hs rfl (.cons (.cells rfl rfl rfl rfl (hm.ro (k:=0) (n:=7) (g:=g4) mem_ (cutF_ok rfl))) .nil) ⟨r.o,r.k,js,jv,valR 0 true,rfl,hjs,hI.step hm',valR_st _ _ _ _,valR_fit _ _,hm'⟩
theorem perf8_c [HB](w0:World)(B:Int)(r:RD)(gr gj jc:Nat)(e:Value)(js:List Int)(jv:List Value)(X:List Hp)(q:RqV)(wB:World)(hM:Mm (own (r.hp gr e (.slice (some ⟨gj,0,none⟩) 4 jc)::⟨some gj,3,jv⟩::X)) wB (r.hp gr e (.slice (some ⟨gj,0,none⟩) 4 jc)::⟨some gj,3,jv⟩::X) wB)(hI:RnI w0 B (r.hp gr e (.slice (some ⟨gj,0,none⟩) 4 jc)::⟨some gj,3,jv⟩::X) r wB)(hjs:Row (some gj) 4 jc 1 (ints js) jv)(hq:q.ok wB)(hqn:q.no (r.hp gr e (.slice (some ⟨gj,0,none⟩) 4 jc)::⟨some gj,3,jv⟩::X))(hqv:q.val)(hqk:q.kin)(hst:q.stop=1)(ha:q.call=8):Ret Tryz.prog 113 [pt gr,q.v] wB (fun u w'=>∃(o':OV)(k':KS)(js':List Int)(jv':List Value)(x:RsV),u=x.v∧Row (some gj) 4 jc 1 (ints js') jv'∧RnI w0 B (RD.hp gr {r with o:=o',k:=k'} e (.slice (some ⟨gj,0,none⟩) 4 jc)::⟨some gj,3,jv'⟩::X) {r with o:=o',k:=k'} w'∧St (RD.hp gr {r with o:=o',k:=k'} e (.slice (some ⟨gj,0,none⟩) 4 jc)::⟨some gj,3,jv'⟩::X) x.ok w'∧x.fit∧Mm (own (r.hp gr e (.slice (some ⟨gj,0,none⟩) 4 jc)::⟨some gj,3,jv⟩::X)) wB (RD.hp gr {r with o:=o',k:=k'} e (.slice (some ⟨gj,0,none⟩) 4 jc)::⟨some gj,3,jv'⟩::X) w'):=by
 obtain⟨M0,hM0⟩:∃M0,r.hp gr e (.slice (some ⟨gj,0,none⟩) 4 jc)::⟨some gj,3,jv⟩::X=M0:=⟨_,rfl⟩
 rw[hM0]at hI hM hqn ⊢
 have hm0:Mm (own M0) wB (r.hp gr e (.slice (some ⟨gj,0,none⟩) 4 jc)::⟨some gj,3,jv⟩::X) wB:=by rw[hM0];exact hM
 unfold RD.hp RD.cs at hm0
 have hqth:0≤q.th∧q.th<4:=by have:=hqv.th;omega
 have kvl:∀(n:Int)(b:Bool)(w'':World),Ret Tryz.prog 123 [.int .i64 n,.bool b] w'' (fun u w'=>u= .agg #[.int .u8 0,.int .u16 (IntKind.u16.wrap (failF n b)),.int .i64 0,.int .i64 0,nS,.int .i64 (-1),.bool false]∧Pu w'' w'):=fun n b w''=>vlu_c n b w''
 have klk:∀(w:World)(M':List Hp)(k:Int),Mm (own M0) wB M' w→Ret Tryz.prog 124 [.agg #[.slice r.k.o.A r.k.o.n r.k.o.c,.slice r.k.qA r.k.qs.length r.k.qc],.int .i64 k,.int .i64 q.th] w (fun u w'=>∃(y:KS)(h:Int),u= .tuple #[.agg #[.slice y.o.A y.o.n y.o.c,.slice y.qA y.qs.length y.qc],.int .i64 h]∧LkR y w w'∧Pu w w'):=fun w M' k hm=>rtkA_c r.k k q.th w (hI.k.at_ hm) hI.kv hqth
 obtain⟨th,stop,trap,cnt,pc,call,ra,rd⟩:=q
 have hra:ra.ok wB:=hq.a
 have hrav:∀c∈ra.xs,c.val:=hqv.av
 have hran:=hqk.n
 have hnra:∀b o n,ra.A=some ⟨b,o,n⟩→¬own M0 b:=fun b o n e=>hqn b o n (.inl e)
 dsimp only at hst ha hqth hran
 subst hst ha
 dsimp only at klk
 have hal:0<ra.xs.length:=by rw[hran];decide
 obtain⟨b1,o1,hA,hb1,r1⟩:=Rd.ro hra (by rw[cns_len];omega)
 have hnb1:=hnra b1 o1 none hA
 have r2:=r1.flat CN.cs_len hal
 have hcv:=(hrav _ (List.getElem_mem hal)).v
 generalize ra.xs[0]'hal=c0 at r2 hcv
 unfold CN.cs at r2
 have hwr:IntKind.i64.wrap c0.v=c0.v:=wrap_idP (by omega)
 clear r1
 unfold RqV.v
 dsimp only
 rw[hA]
 refine enterR Tryz.func113 rfl rfl rfl fun a hs hm=>?_
 clear hm
 have hm:=hm0
 refine gsc5af_ ?_;clear hs hm a;intros;rename_i a hm hs
 obtain⟨g3,rfl⟩:=hs.pp 3
 obtain⟨g4,rfl⟩:=hs.pp 4
 refine cMid (fun a w=>∃(z:KS)(h:Int)(g5:Nat),RnI w0 B (⟨some g5,84,[.slice z.o.A z.o.n z.o.c,.slice z.qA z.qs.length z.qc]⟩::⟨some g4,175,[.int .u8 0,.int .u16 0,.int .i64 0,.int .i64 0,nS,.int .i64 0,.bool false]⟩::⟨some gr,87,(r.p.cl (r.y.cl (slv r.y.tA r.y.ts.length r.y.tc::r.o.cl (r.o.f.cl [.slice r.o.us.A r.o.us.us.length r.o.us.c,.slice r.k.o.A r.k.o.n r.k.o.c,.slice r.k.qA r.k.qs.length r.k.qc,e,.slice (some ⟨gj,0,none⟩) 4 jc]))))⟩::⟨some gj,3,jv⟩::X) {r with k:=z} w∧Sl Tryz.f113.ntmps [(0,pt gr),(4,pt g4),(5,pt g5),(6,.int .i64 h)] a∧Mm (own M0) wB (⟨some g5,84,[.slice z.o.A z.o.n z.o.c,.slice z.qA z.qs.length z.qc]⟩::⟨some g4,175,[.int .u8 0,.int .u16 0,.int .i64 0,.int .i64 0,nS,.int .i64 0,.bool false]⟩::⟨some gr,87,(r.p.cl (r.y.cl (slv r.y.tA r.y.ts.length r.y.tc::r.o.cl (r.o.f.cl [.slice r.o.us.A r.o.us.us.length r.o.us.c,.slice r.k.o.A r.k.o.n r.k.o.c,.slice r.k.qA r.k.qs.length r.k.qc,e,.slice (some ⟨gj,0,none⟩) 4 jc]))))⟩::⟨some gj,3,jv⟩::X) w) ?_ ?_
 ·with_reducible repeat(first|apply gThen|apply wp_seq)
  refine cDrawT (n:=19) (.s [0,1,2,3,4,5,6,7,8,9,10,11]<| .e [(12,.x<| .s [13,14,15]<| .o 16<| .o 17<| .t 18<| .d),(16,.o 12<| .x<| .s [13,14,15]<| .o 17<| .t 18<| .d)]) [⟨some g3,173,[.int .i64 th,.int .i64 1,.int .i64 trap,.int .i64 cnt,.int .i64 pc,.int .i64 8,.slice (some ⟨b1,o1,none⟩) ra.xs.length ra.c,.slice rd.A rd.xs.length rd.c]⟩,⟨some gr,87,(r.p.cl (r.y.cl (slv r.y.tA r.y.ts.length r.y.tc::r.o.cl (r.o.f.cl [.slice r.o.us.A r.o.us.us.length r.o.us.c,.slice r.k.o.A r.k.o.n r.k.o.c,.slice r.k.qA r.k.qs.length r.k.qc,e,.slice (some ⟨gj,0,none⟩) 4 jc]))))⟩] hm rfl rfl ?_
  clear hm;intro t_ w1_ hm
  repeat' (first|(refine dgd799_ ?_;clear t_ hs hm a;intros;rename_i a hm hs t_)|refine tE t_ ?_|refine tC ?_ ?_|exact tN|intro t_|(refine oDo (i:=12) hs rfl (Wnt.none rfl) rfl rfl (by exact d_call hs rfl rfl rfl (pl 124 rfl) ((klk _ _ _ hm))) ?_;clear hs;rintro _ w1 ⟨z,h,rfl,hk,hf⟩ a hs;(have hI1:=(hI.step hm).set_k hm hf hk);(replace hm:=hm.pu hf);(clear hf hk);replace t_:=tX t_;refine⟨(hm.sub sub_),?_⟩;(refine hRebase hm ?_);(have hmB:=hm);(replace hm:=hmB.rebase))|(refine tD t_ ?_;(obtain⟨g5,rfl⟩:=hs.pp 5);(exact And.intro rfl ⟨z,h,g5,(hI1.step hm).sub sub_,(sb_ hs),(hmB.trans hm).sub sub_⟩))|fail)
 clear hs hm a
 rintro a w ⟨z,h,g5,hI1,hs,hm⟩
 have hmB:=hm
 replace hm:=hm.rebase
 by_cases h2:h=2
 ·subst h2
  refine gcShu0_ ?_;clear hs hm a;intros;rename_i a hm hs
  have hm':=(hmB.trans hm).sub (M':=⟨some gr,87,(r.p.cl (r.y.cl (slv r.y.tA r.y.ts.length r.y.tc::r.o.cl (r.o.f.cl [.slice r.o.us.A r.o.us.us.length r.o.us.c,.slice z.o.A z.o.n z.o.c,.slice z.qA z.qs.length z.qc,e,.slice (some ⟨gj,0,none⟩) 4 jc]))))⟩::⟨some gj,3,jv⟩::X) sub_
  exact gRetN tab hs rfl (.cons (.cells rfl rfl rfl rfl (hm.ro (k:=0) (n:=7) (g:=g4) mem_ (cutF_ok rfl))) .nil) ⟨r.o,z,js,jv,valR 0 false,rfl,hjs,(hI1.step hm).sub (M1:=⟨some gr,87,(r.p.cl (r.y.cl (slv r.y.tA r.y.ts.length r.y.tc::r.o.cl (r.o.f.cl [.slice r.o.us.A r.o.us.us.length r.o.us.c,.slice z.o.A z.o.n z.o.c,.slice z.qA z.qs.length z.qc,e,.slice (some ⟨gj,0,none⟩) 4 jc]))))⟩::⟨some gj,3,jv⟩::X) sub_,valR_st _ _ _ _,valR_fit _ _,hm'⟩
 by_cases h1:h=1
 ·subst h1
  refine gcShu0_ ?_;clear hs hm a;intros;rename_i a hm hs
  have hm':=(hmB.trans hm).sub (M':=⟨some gr,87,(r.p.cl (r.y.cl (slv r.y.tA r.y.ts.length r.y.tc::r.o.cl (r.o.f.cl [.slice r.o.us.A r.o.us.us.length r.o.us.c,.slice z.o.A z.o.n z.o.c,.slice z.qA z.qs.length z.qc,e,.slice (some ⟨gj,0,none⟩) 4 jc]))))⟩::⟨some gj,3,jv⟩::X) sub_
  exact gRetN tab hs rfl (.cons (.cells rfl rfl rfl rfl (hm.ro (k:=0) (n:=7) (g:=g4) mem_ (cutF_ok rfl))) .nil) ⟨r.o,z,js,jv,{valR 0 true with wait:=true},rfl,hjs,(hI1.step hm).sub (M1:=⟨some gr,87,(r.p.cl (r.y.cl (slv r.y.tA r.y.ts.length r.y.tc::r.o.cl (r.o.f.cl [.slice r.o.us.A r.o.us.us.length r.o.us.c,.slice z.o.A z.o.n z.o.c,.slice z.qA z.qs.length z.qc,e,.slice (some ⟨gj,0,none⟩) 4 jc]))))⟩::⟨some gj,3,jv⟩::X) sub_,fun _ _ _=>valR_ok 0 true _,⟨(valR_fit 0 true).v,(valR_fit 0 true).d,(valR_fit 0 true).dv,(valR_fit 0 true).sp⟩,hm'⟩
 refine gcShu0_ ?_;clear hs hm a;intros;rename_i a hm hs
 have hm':=(hmB.trans hm).sub (M':=⟨some gr,87,(r.p.cl (r.y.cl (slv r.y.tA r.y.ts.length r.y.tc::r.o.cl (r.o.f.cl [.slice r.o.us.A r.o.us.us.length r.o.us.c,.slice z.o.A z.o.n z.o.c,.slice z.qA z.qs.length z.qc,e,.slice (some ⟨gj,0,none⟩) 4 jc]))))⟩::⟨some gj,3,jv⟩::X) sub_
 exact gRetN tab hs rfl (.cons (.cells rfl rfl rfl rfl (hm.ro (k:=0) (n:=7) (g:=g4) mem_ (cutF_ok rfl))) .nil) ⟨r.o,z,js,jv,valR 0 true,rfl,hjs,(hI1.step hm).sub (M1:=⟨some gr,87,(r.p.cl (r.y.cl (slv r.y.tA r.y.ts.length r.y.tc::r.o.cl (r.o.f.cl [.slice r.o.us.A r.o.us.us.length r.o.us.c,.slice z.o.A z.o.n z.o.c,.slice z.qA z.qs.length z.qc,e,.slice (some ⟨gj,0,none⟩) 4 jc]))))⟩::⟨some gj,3,jv⟩::X) sub_,valR_st _ _ _ _,valR_fit _ _,hm'⟩
theorem perf9_c [HB](w0:World)(B:Int)(r:RD)(gr gj jc:Nat)(e:Value)(js:List Int)(jv:List Value)(X:List Hp)(q:RqV)(wB:World)(hM:Mm (own (r.hp gr e (.slice (some ⟨gj,0,none⟩) 4 jc)::⟨some gj,3,jv⟩::X)) wB (r.hp gr e (.slice (some ⟨gj,0,none⟩) 4 jc)::⟨some gj,3,jv⟩::X) wB)(hI:RnI w0 B (r.hp gr e (.slice (some ⟨gj,0,none⟩) 4 jc)::⟨some gj,3,jv⟩::X) r wB)(hjs:Row (some gj) 4 jc 1 (ints js) jv)(hq:q.ok wB)(hqn:q.no (r.hp gr e (.slice (some ⟨gj,0,none⟩) 4 jc)::⟨some gj,3,jv⟩::X))(hqv:q.val)(hqk:q.kin)(hst:q.stop=1)(ha:q.call=9):Ret Tryz.prog 113 [pt gr,q.v] wB (fun u w'=>∃(o':OV)(k':KS)(js':List Int)(jv':List Value)(x:RsV),u=x.v∧Row (some gj) 4 jc 1 (ints js') jv'∧RnI w0 B (RD.hp gr {r with o:=o',k:=k'} e (.slice (some ⟨gj,0,none⟩) 4 jc)::⟨some gj,3,jv'⟩::X) {r with o:=o',k:=k'} w'∧St (RD.hp gr {r with o:=o',k:=k'} e (.slice (some ⟨gj,0,none⟩) 4 jc)::⟨some gj,3,jv'⟩::X) x.ok w'∧x.fit∧Mm (own (r.hp gr e (.slice (some ⟨gj,0,none⟩) 4 jc)::⟨some gj,3,jv⟩::X)) wB (RD.hp gr {r with o:=o',k:=k'} e (.slice (some ⟨gj,0,none⟩) 4 jc)::⟨some gj,3,jv'⟩::X) w'):=by
 obtain⟨M0,hM0⟩:∃M0,r.hp gr e (.slice (some ⟨gj,0,none⟩) 4 jc)::⟨some gj,3,jv⟩::X=M0:=⟨_,rfl⟩
 rw[hM0]at hI hM hqn ⊢
 have hm0:Mm (own M0) wB (r.hp gr e (.slice (some ⟨gj,0,none⟩) 4 jc)::⟨some gj,3,jv⟩::X) wB:=by rw[hM0];exact hM
 unfold RD.hp RD.cs at hm0
 have hqth:0≤q.th∧q.th<4:=by have:=hqv.th;omega
 have kvl:∀(n:Int)(b:Bool)(w'':World),Ret Tryz.prog 123 [.int .i64 n,.bool b] w'' (fun u w'=>u= .agg #[.int .u8 0,.int .u16 (IntKind.u16.wrap (failF n b)),.int .i64 0,.int .i64 0,nS,.int .i64 (-1),.bool false]∧Pu w'' w'):=fun n b w''=>vlu_c n b w''
 have klk:∀(w:World)(M':List Hp)(k:Int),Mm (own M0) wB M' w→Ret Tryz.prog 112 [.agg #[.slice r.k.o.A r.k.o.n r.k.o.c,.slice r.k.qA r.k.qs.length r.k.qc],.int .i64 k,.int .i64 q.th] w (fun u w'=>∃(y:KS)(n:Int)(b:Bool),u= .tuple #[.agg #[.slice y.o.A y.o.n y.o.c,.slice y.qA y.qs.length y.qc],.int .i64 n,.bool b]∧LkR y w w'∧Pu w w'):=fun w M' k hm=>rgvA_c r.k k q.th w (hI.k.at_ hm) hI.kv
 obtain⟨th,stop,trap,cnt,pc,call,ra,rd⟩:=q
 have hra:ra.ok wB:=hq.a
 have hrav:∀c∈ra.xs,c.val:=hqv.av
 have hran:=hqk.n
 have hnra:∀b o n,ra.A=some ⟨b,o,n⟩→¬own M0 b:=fun b o n e=>hqn b o n (.inl e)
 dsimp only at hst ha hqth hran
 subst hst ha
 dsimp only at klk
 have hal:0<ra.xs.length:=by rw[hran];decide
 obtain⟨b1,o1,hA,hb1,r1⟩:=Rd.ro hra (by rw[cns_len];omega)
 have hnb1:=hnra b1 o1 none hA
 have r2:=r1.flat CN.cs_len hal
 have hcv:=(hrav _ (List.getElem_mem hal)).v
 generalize ra.xs[0]'hal=c0 at r2 hcv
 unfold CN.cs at r2
 have hwr:IntKind.i64.wrap c0.v=c0.v:=wrap_idP (by omega)
 clear r1
 unfold RqV.v
 dsimp only
 rw[hA]
 refine enterR Tryz.func113 rfl rfl rfl fun a hs hm=>?_
 clear hm
 have hm:=hm0
 refine gsc5af_ ?_;clear hs hm a;intros;rename_i a hm hs
 obtain⟨g3,rfl⟩:=hs.pp 3
 obtain⟨g4,rfl⟩:=hs.pp 4
 refine cMid (fun a w=>∃(z:KS)(n:Int)(b:Bool)(g5:Nat),RnI w0 B (⟨some g5,84,[.slice z.o.A z.o.n z.o.c,.slice z.qA z.qs.length z.qc]⟩::⟨some g4,175,[.int .u8 0,.int .u16 0,.int .i64 0,.int .i64 0,nS,.int .i64 0,.bool false]⟩::⟨some gr,87,(r.p.cl (r.y.cl (slv r.y.tA r.y.ts.length r.y.tc::r.o.cl (r.o.f.cl [.slice r.o.us.A r.o.us.us.length r.o.us.c,.slice r.k.o.A r.k.o.n r.k.o.c,.slice r.k.qA r.k.qs.length r.k.qc,e,.slice (some ⟨gj,0,none⟩) 4 jc]))))⟩::⟨some gj,3,jv⟩::X) {r with k:=z} w∧Sl Tryz.f113.ntmps [(0,pt gr),(4,pt g4),(8,pt g5),(10,.bool b)] a∧Mm (own M0) wB (⟨some g5,84,[.slice z.o.A z.o.n z.o.c,.slice z.qA z.qs.length z.qc]⟩::⟨some g4,175,[.int .u8 0,.int .u16 0,.int .i64 0,.int .i64 0,nS,.int .i64 0,.bool false]⟩::⟨some gr,87,(r.p.cl (r.y.cl (slv r.y.tA r.y.ts.length r.y.tc::r.o.cl (r.o.f.cl [.slice r.o.us.A r.o.us.us.length r.o.us.c,.slice r.k.o.A r.k.o.n r.k.o.c,.slice r.k.qA r.k.qs.length r.k.qc,e,.slice (some ⟨gj,0,none⟩) 4 jc]))))⟩::⟨some gj,3,jv⟩::X) w) ?_ ?_
 ·with_reducible repeat(first|apply gThen|apply wp_seq)
  refine cDrawT (n:=21) (.s [0,1,2,3,4,5,6,7,8,9,10,11]<| .e [(12,.x<| .s [13,14,15,16]<| .o 17<| .o 18<| .s [19,20]<| .d),(17,.o 12<| .x<| .s [13,14,15,16]<| .o 18<| .s [19,20]<| .d)]) [⟨some g3,173,[.int .i64 th,.int .i64 1,.int .i64 trap,.int .i64 cnt,.int .i64 pc,.int .i64 9,.slice (some ⟨b1,o1,none⟩) ra.xs.length ra.c,.slice rd.A rd.xs.length rd.c]⟩,⟨some gr,87,(r.p.cl (r.y.cl (slv r.y.tA r.y.ts.length r.y.tc::r.o.cl (r.o.f.cl [.slice r.o.us.A r.o.us.us.length r.o.us.c,.slice r.k.o.A r.k.o.n r.k.o.c,.slice r.k.qA r.k.qs.length r.k.qc,e,.slice (some ⟨gj,0,none⟩) 4 jc]))))⟩] hm rfl rfl ?_
  clear hm;intro t_ w1_ hm
  repeat' (first|(refine dgd799_ ?_;clear t_ hs hm a;intros;rename_i a hm hs t_)|refine tE t_ ?_|refine tC ?_ ?_|exact tN|intro t_|(refine oDo (i:=12) hs rfl (Wnt.none rfl) rfl rfl (by exact d_call hs rfl rfl rfl (pl 112 rfl) ((klk _ _ _ hm))) ?_;clear hs;rintro _ w1 ⟨z,n,b,rfl,hk,hf⟩ a hs;(have hI1:=(hI.step hm).set_k hm hf hk);(replace hm:=hm.pu hf);(clear hf hk);replace t_:=tX t_;refine⟨(hm.sub sub_),?_⟩;(refine hRebase hm ?_);(have hmB:=hm);(replace hm:=hmB.rebase))|(refine tD t_ ?_;(obtain⟨g5,rfl⟩:=hs.pp 8);(exact And.intro rfl ⟨z,n,b,g5,(hI1.step hm).sub sub_,(sb_ hs),(hmB.trans hm).sub sub_⟩))|fail)
 clear hs hm a
 rintro a w ⟨z,n,b,g5,hI1,hs,hm⟩
 have hmB:=hm
 replace hm:=hm.rebase
 refine gcShu0_ ?_;clear hs hm a;intros;rename_i a hm hs
 have hm':=(hmB.trans hm).sub (M':=⟨some gr,87,(r.p.cl (r.y.cl (slv r.y.tA r.y.ts.length r.y.tc::r.o.cl (r.o.f.cl [.slice r.o.us.A r.o.us.us.length r.o.us.c,.slice z.o.A z.o.n z.o.c,.slice z.qA z.qs.length z.qc,e,.slice (some ⟨gj,0,none⟩) 4 jc]))))⟩::⟨some gj,3,jv⟩::X) sub_
 exact gRetN tab hs rfl (.cons (.cells rfl rfl rfl rfl (hm.ro (k:=0) (n:=7) (g:=g4) mem_ (cutF_ok rfl))) .nil) ⟨r.o,z,js,jv,valR 0 b,rfl,hjs,(hI1.step hm).sub (M1:=⟨some gr,87,(r.p.cl (r.y.cl (slv r.y.tA r.y.ts.length r.y.tc::r.o.cl (r.o.f.cl [.slice r.o.us.A r.o.us.us.length r.o.us.c,.slice z.o.A z.o.n z.o.c,.slice z.qA z.qs.length z.qc,e,.slice (some ⟨gj,0,none⟩) 4 jc]))))⟩::⟨some gj,3,jv⟩::X) sub_,valR_st _ _ _ _,valR_fit _ _,hm'⟩
theorem perf10_c [HB](w0:World)(B:Int)(r:RD)(gr gj jc:Nat)(e:Value)(js:List Int)(jv:List Value)(X:List Hp)(q:RqV)(wB:World)(hM:Mm (own (r.hp gr e (.slice (some ⟨gj,0,none⟩) 4 jc)::⟨some gj,3,jv⟩::X)) wB (r.hp gr e (.slice (some ⟨gj,0,none⟩) 4 jc)::⟨some gj,3,jv⟩::X) wB)(hI:RnI w0 B (r.hp gr e (.slice (some ⟨gj,0,none⟩) 4 jc)::⟨some gj,3,jv⟩::X) r wB)(hjs:Row (some gj) 4 jc 1 (ints js) jv)(hq:q.ok wB)(hqn:q.no (r.hp gr e (.slice (some ⟨gj,0,none⟩) 4 jc)::⟨some gj,3,jv⟩::X))(hqv:q.val)(hqk:q.kin)(hst:q.stop=1)(ha:q.call=10):Ret Tryz.prog 113 [pt gr,q.v] wB (fun u w'=>∃(o':OV)(k':KS)(js':List Int)(jv':List Value)(x:RsV),u=x.v∧Row (some gj) 4 jc 1 (ints js') jv'∧RnI w0 B (RD.hp gr {r with o:=o',k:=k'} e (.slice (some ⟨gj,0,none⟩) 4 jc)::⟨some gj,3,jv'⟩::X) {r with o:=o',k:=k'} w'∧St (RD.hp gr {r with o:=o',k:=k'} e (.slice (some ⟨gj,0,none⟩) 4 jc)::⟨some gj,3,jv'⟩::X) x.ok w'∧x.fit∧Mm (own (r.hp gr e (.slice (some ⟨gj,0,none⟩) 4 jc)::⟨some gj,3,jv⟩::X)) wB (RD.hp gr {r with o:=o',k:=k'} e (.slice (some ⟨gj,0,none⟩) 4 jc)::⟨some gj,3,jv'⟩::X) w'):=by
 obtain⟨M0,hM0⟩:∃M0,r.hp gr e (.slice (some ⟨gj,0,none⟩) 4 jc)::⟨some gj,3,jv⟩::X=M0:=⟨_,rfl⟩
 rw[hM0]at hI hM hqn ⊢
 have hm0:Mm (own M0) wB (r.hp gr e (.slice (some ⟨gj,0,none⟩) 4 jc)::⟨some gj,3,jv⟩::X) wB:=by rw[hM0];exact hM
 unfold RD.hp RD.cs at hm0
 have hqth:0≤q.th∧q.th<4:=by have:=hqv.th;omega
 have kvl:∀(n:Int)(b:Bool)(w'':World),Ret Tryz.prog 123 [.int .i64 n,.bool b] w'' (fun u w'=>u= .agg #[.int .u8 0,.int .u16 (IntKind.u16.wrap (failF n b)),.int .i64 0,.int .i64 0,nS,.int .i64 (-1),.bool false]∧Pu w'' w'):=fun n b w''=>vlu_c n b w''
 obtain⟨th,stop,trap,cnt,pc,call,ra,rd⟩:=q
 have hra:ra.ok wB:=hq.a
 have hrav:∀c∈ra.xs,c.val:=hqv.av
 have hran:=hqk.n
 have hnra:∀b o n,ra.A=some ⟨b,o,n⟩→¬own M0 b:=fun b o n e=>hqn b o n (.inl e)
 dsimp only at hst ha hqth hran
 subst hst ha
 unfold RqV.v
 dsimp only
 obtain⟨h4,gt,hgt,hngt,hmv⟩:=hI.gt
 refine enterR Tryz.func113 rfl rfl rfl fun a hs hm=>?_
 clear hm
 have hm:=hm0
 refine gsc5af_ ?_;clear hs hm a;intros;rename_i a hm hs
 obtain⟨g4,rfl⟩:=hs.pp 4
 refine cLoop (X:=SpX) (fun Y a w=>Y.k≤r.y.ts.length∧Sl Tryz.f113.ntmps [(0,pt gr),(4,pt g4),(87,slv r.y.tA r.y.ts.length r.y.tc),(88,.int .i64 (r.y.ts.length:Int)),(89,.int .i64 (Y.k:Int))] a∧Mm (own M0) wB (⟨some g4,175,[.int .u8 0,.int .u16 0,.int .i64 0,.int .i64 0,nS,.int .i64 0,.bool false]⟩::⟨some gr,87,(r.p.cl (r.y.cl (slv r.y.tA r.y.ts.length r.y.tc::r.o.cl (r.o.f.cl [.slice r.o.us.A r.o.us.us.length r.o.us.c,.slice r.k.o.A r.k.o.n r.k.o.c,.slice r.k.qA r.k.qs.length r.k.qc,e,.slice (some ⟨gj,0,none⟩) 4 jc]))))⟩::⟨some gj,3,jv⟩::X) w) (fun Y=>r.y.ts.length-Y.k) ⟨0⟩ ⟨Nat.zero_le _,(sb_ hs),hm.sub sub_⟩ ?_
 clear hs hm a
 rintro⟨k⟩ a w ⟨hk,hs,hm⟩
 dsimp only at hk hs hm
 by_cases hlt:k<r.y.ts.length
 ·have r3:=MO.thr hmv hgt hlt
  generalize r.y.ts[k]=qk at r3
  unfold ThO.v at r3
  rw[hgt]at hs
  by_cases hz:qk.d.st=0
  ·rw[hz]at r3
   refine gcShu0_ ?_;clear hs hm a;intros;rename_i a hm hs
   have hm':=hm.sub (M':=⟨some gr,87,(r.p.cl (r.y.cl (slv r.y.tA r.y.ts.length r.y.tc::r.o.cl (r.o.f.cl [.slice r.o.us.A r.o.us.us.length r.o.us.c,.slice r.k.o.A r.k.o.n r.k.o.c,.slice r.k.qA r.k.qs.length r.k.qc,e,.slice (some ⟨gj,0,none⟩) 4 jc]))))⟩::⟨some gj,3,jv⟩::X) sub_
   exact gRetN tab hs rfl (.cons (.cells rfl rfl rfl rfl (hm.ro (k:=0) (n:=7) (g:=g4) mem_ (cutF_ok rfl))) .nil) ⟨r.o,r.k,js,jv,{valR (k:Int) true with spawn:=(k:Int)},rfl,hjs,hI.step hm',fun _ _ _=>valR_ok (k:Int) true _,⟨(valR_fit (k:Int) true).v,(valR_fit (k:Int) true).d,(valR_fit (k:Int) true).dv,by dsimp only;omega⟩,hm'⟩
  ·refine gsc5af_ ?_;clear hs hm a;intros;rename_i a hm hs
   rw[←hgt]at hs
   exact⟨⟨k+1⟩,by dsimp only;omega,⟨by dsimp only;omega,(sb_ hs),hm.sub sub_⟩⟩
 ·obtain rfl:k=r.y.ts.length:=by omega
  refine gcShu0_ ?_;clear hs hm a;intros;rename_i a hm hs
  have hm':=hm.sub (M':=⟨some gr,87,(r.p.cl (r.y.cl (slv r.y.tA r.y.ts.length r.y.tc::r.o.cl (r.o.f.cl [.slice r.o.us.A r.o.us.us.length r.o.us.c,.slice r.k.o.A r.k.o.n r.k.o.c,.slice r.k.qA r.k.qs.length r.k.qc,e,.slice (some ⟨gj,0,none⟩) 4 jc]))))⟩::⟨some gj,3,jv⟩::X) sub_
  exact z78f3_
theorem perf11_c [HB](w0:World)(B:Int)(r:RD)(gr gj jc:Nat)(e:Value)(js:List Int)(jv:List Value)(X:List Hp)(q:RqV)(wB:World)(hM:Mm (own (r.hp gr e (.slice (some ⟨gj,0,none⟩) 4 jc)::⟨some gj,3,jv⟩::X)) wB (r.hp gr e (.slice (some ⟨gj,0,none⟩) 4 jc)::⟨some gj,3,jv⟩::X) wB)(hI:RnI w0 B (r.hp gr e (.slice (some ⟨gj,0,none⟩) 4 jc)::⟨some gj,3,jv⟩::X) r wB)(hjs:Row (some gj) 4 jc 1 (ints js) jv)(hq:q.ok wB)(hqn:q.no (r.hp gr e (.slice (some ⟨gj,0,none⟩) 4 jc)::⟨some gj,3,jv⟩::X))(hqv:q.val)(hqk:q.kin)(hst:q.stop=1)(ha:q.call=11):Ret Tryz.prog 113 [pt gr,q.v] wB (fun u w'=>∃(o':OV)(k':KS)(js':List Int)(jv':List Value)(x:RsV),u=x.v∧Row (some gj) 4 jc 1 (ints js') jv'∧RnI w0 B (RD.hp gr {r with o:=o',k:=k'} e (.slice (some ⟨gj,0,none⟩) 4 jc)::⟨some gj,3,jv'⟩::X) {r with o:=o',k:=k'} w'∧St (RD.hp gr {r with o:=o',k:=k'} e (.slice (some ⟨gj,0,none⟩) 4 jc)::⟨some gj,3,jv'⟩::X) x.ok w'∧x.fit∧Mm (own (r.hp gr e (.slice (some ⟨gj,0,none⟩) 4 jc)::⟨some gj,3,jv⟩::X)) wB (RD.hp gr {r with o:=o',k:=k'} e (.slice (some ⟨gj,0,none⟩) 4 jc)::⟨some gj,3,jv'⟩::X) w'):=by
 obtain⟨M0,hM0⟩:∃M0,r.hp gr e (.slice (some ⟨gj,0,none⟩) 4 jc)::⟨some gj,3,jv⟩::X=M0:=⟨_,rfl⟩
 rw[hM0]at hI hM hqn ⊢
 have hm0:Mm (own M0) wB (r.hp gr e (.slice (some ⟨gj,0,none⟩) 4 jc)::⟨some gj,3,jv⟩::X) wB:=by rw[hM0];exact hM
 unfold RD.hp RD.cs at hm0
 have hqth:0≤q.th∧q.th<4:=by have:=hqv.th;omega
 have kvl:∀(n:Int)(b:Bool)(w'':World),Ret Tryz.prog 123 [.int .i64 n,.bool b] w'' (fun u w'=>u= .agg #[.int .u8 0,.int .u16 (IntKind.u16.wrap (failF n b)),.int .i64 0,.int .i64 0,nS,.int .i64 (-1),.bool false]∧Pu w'' w'):=fun n b w''=>vlu_c n b w''
 obtain⟨th,stop,trap,cnt,pc,call,ra,rd⟩:=q
 have hra:ra.ok wB:=hq.a
 have hrav:∀c∈ra.xs,c.val:=hqv.av
 have hran:=hqk.n
 have hnra:∀b o n,ra.A=some ⟨b,o,n⟩→¬own M0 b:=fun b o n e=>hqn b o n (.inl e)
 dsimp only at hst ha hqth hran
 subst hst ha
 have hal:0<ra.xs.length:=by rw[hran];decide
 obtain⟨b1,o1,hA,hb1,r1⟩:=Rd.ro hra (by rw[cns_len];omega)
 have hnb1:=hnra b1 o1 none hA
 have r2:=r1.flat CN.cs_len hal
 have hcv:=(hrav _ (List.getElem_mem hal)).v
 generalize ra.xs[0]'hal=c0 at r2 hcv
 unfold CN.cs at r2
 have hwr:IntKind.i64.wrap c0.v=c0.v:=wrap_idP (by omega)
 clear r1
 unfold RqV.v
 dsimp only
 rw[hA]
 obtain⟨h4,gt,hgt,hngt,hmv⟩:=hI.gt
 obtain⟨kk,hkk⟩:∃kk:Nat,c0.v=(kk:Int):=⟨c0.v.toNat,by omega⟩
 rw[hkk]at r2 hwr hcv
 obtain⟨tk,rfl⟩:∃tk:Nat,th=(tk:Int):=⟨th.toNat,by omega⟩
 have hjl:=hjs.len
 have hjc:=hjs.le
 by_cases e1:kk=tk
 ·subst e1
  refine enterR Tryz.func113 rfl rfl rfl fun a hs hm=>?_
  clear hm
  have hm:=hm0
  rw[hgt]at hm
  refine gcShu1_ ?_;clear hs hm a;intros;rename_i a hm hs
  try rw[hwr]at hs
  refine gcShu1_ ?_;clear hs hm a;intros;rename_i a hm hs
  obtain⟨g4,rfl⟩:=hs.pp 4
  rw[←hgt]at hm
  have hm':=hm.sub (M':=⟨some gr,87,(r.p.cl (r.y.cl (slv r.y.tA r.y.ts.length r.y.tc::r.o.cl (r.o.f.cl [.slice r.o.us.A r.o.us.us.length r.o.us.c,.slice r.k.o.A r.k.o.n r.k.o.c,.slice r.k.qA r.k.qs.length r.k.qc,e,.slice (some ⟨gj,0,none⟩) 4 jc]))))⟩::⟨some gj,3,jv⟩::X) sub_
  exact z78f3_
 by_cases e2:4≤kk
 ·skip
  refine enterR Tryz.func113 rfl rfl rfl fun a hs hm=>?_
  clear hm
  have hm:=hm0
  rw[hgt]at hm
  refine gcShu1_ ?_;clear hs hm a;intros;rename_i a hm hs
  try rw[hwr]at hs
  refine gcShu1_ ?_;clear hs hm a;intros;rename_i a hm hs
  obtain⟨g4,rfl⟩:=hs.pp 4
  rw[←hgt]at hm
  have hm':=hm.sub (M':=⟨some gr,87,(r.p.cl (r.y.cl (slv r.y.tA r.y.ts.length r.y.tc::r.o.cl (r.o.f.cl [.slice r.o.us.A r.o.us.us.length r.o.us.c,.slice r.k.o.A r.k.o.n r.k.o.c,.slice r.k.qA r.k.qs.length r.k.qc,e,.slice (some ⟨gj,0,none⟩) 4 jc]))))⟩::⟨some gj,3,jv⟩::X) sub_
  exact z78f3_
 have hlt:kk<r.y.ts.length:=by omega
 have r3:=MO.thr hmv hgt hlt
 generalize r.y.ts[kk]=qk at r3
 unfold ThO.v at r3
 by_cases e3:qk.d.st=0
 ·rw[e3]at r3
  refine enterR Tryz.func113 rfl rfl rfl fun a hs hm=>?_
  clear hm
  have hm:=hm0
  rw[hgt]at hm
  refine gcShu1_ ?_;clear hs hm a;intros;rename_i a hm hs
  try rw[hwr]at hs
  refine gcShu1_ ?_;clear hs hm a;intros;rename_i a hm hs
  obtain⟨g4,rfl⟩:=hs.pp 4
  rw[←hgt]at hm
  have hm':=hm.sub (M':=⟨some gr,87,(r.p.cl (r.y.cl (slv r.y.tA r.y.ts.length r.y.tc::r.o.cl (r.o.f.cl [.slice r.o.us.A r.o.us.us.length r.o.us.c,.slice r.k.o.A r.k.o.n r.k.o.c,.slice r.k.qA r.k.qs.length r.k.qc,e,.slice (some ⟨gj,0,none⟩) 4 jc]))))⟩::⟨some gj,3,jv⟩::X) sub_
  exact z78f3_
 by_cases e4:qk.d.st=4
 ·rw[e4]at r3
  refine enterR Tryz.func113 rfl rfl rfl fun a hs hm=>?_
  clear hm
  have hm:=hm0
  rw[hgt]at hm
  refine gcShu1_ ?_;clear hs hm a;intros;rename_i a hm hs
  try rw[hwr]at hs
  refine gcShu1_ ?_;clear hs hm a;intros;rename_i a hm hs
  obtain⟨g4,rfl⟩:=hs.pp 4
  rw[←hgt]at hm
  have hm':=hm.sub (M':=⟨some gr,87,(r.p.cl (r.y.cl (slv r.y.tA r.y.ts.length r.y.tc::r.o.cl (r.o.f.cl [.slice r.o.us.A r.o.us.us.length r.o.us.c,.slice r.k.o.A r.k.o.n r.k.o.c,.slice r.k.qA r.k.qs.length r.k.qc,e,.slice (some ⟨gj,0,none⟩) 4 jc]))))⟩::⟨some gj,3,jv⟩::X) sub_
  exact gRetN tab hs rfl (.cons (.cells rfl rfl rfl rfl (hm.ro (k:=0) (n:=7) (g:=g4) mem_ (cutF_ok rfl))) .nil) ⟨r.o,r.k,js,jv,valR (IntKind.i64.wrap qk.d.cod) true,rfl,hjs,hI.step hm',valR_st _ _ _ _,valR_fit _ _,hm'⟩
 refine enterR Tryz.func113 rfl rfl rfl fun a hs hm=>?_
 clear hm
 have hm:=hm0
 rw[hgt]at hm
 refine gq20dc_ ?_;clear hs hm a;intros;rename_i a hm hs
 try rw[hwr]at hs
 refine gq20dc_ ?_;clear hs hm a;intros;rename_i a hm hs
 obtain⟨g3,rfl⟩:=hs.pp 3
 obtain⟨g4,rfl⟩:=hs.pp 4
 refine cMid (fun a w=>Sl Tryz.f113.ntmps [(0,pt gr),(4,pt g4)] a∧Mm (own M0) wB (⟨some g4,175,[.int .u8 0,.int .u16 0,.int .i64 0,.int .i64 0,nS,.int .i64 0,.bool false]⟩::⟨some gr,87,(r.p.cl (r.y.cl (slv (some gt) r.y.ts.length r.y.tc::r.o.cl (r.o.f.cl [.slice r.o.us.A r.o.us.us.length r.o.us.c,.slice r.k.o.A r.k.o.n r.k.o.c,.slice r.k.qA r.k.qs.length r.k.qc,e,.slice (some ⟨gj,0,none⟩) 4 jc]))))⟩::⟨some gj,3,(jv.set tk (.int .i64 (kk:Int)))⟩::X) w) ?_ ?_
 ·with_reducible repeat(first|apply gThen|apply wp_seq)
  refine cDrawT (n:=9) (.s [0,1,2,3,4,5,6,7]<| .o 8<| .d) [⟨some g3,173,[.int .i64 (tk:Int),.int .i64 1,.int .i64 trap,.int .i64 cnt,.int .i64 pc,.int .i64 11,.slice (some ⟨b1,o1,none⟩) ra.xs.length ra.c,.slice rd.A rd.xs.length rd.c]⟩,⟨some gr,87,(r.p.cl (r.y.cl (slv (some gt) r.y.ts.length r.y.tc::r.o.cl (r.o.f.cl [.slice r.o.us.A r.o.us.us.length r.o.us.c,.slice r.k.o.A r.k.o.n r.k.o.c,.slice r.k.qA r.k.qs.length r.k.qc,e,.slice (some ⟨gj,0,none⟩) 4 jc]))))⟩] hm rfl rfl ?_
  clear hm;intro t_ w1_ hm
  repeat' (first|(refine dgd799_ ?_;clear t_ hs hm a;intros;rename_i a hm hs t_)|refine tE t_ ?_|refine tC ?_ ?_|exact tN|intro t_|(refine tD t_ ?_;(exact And.intro rfl ⟨(sb_ hs),hm.sub sub_⟩))|fail)
 clear hs hm a
 rintro a w ⟨hs,hm⟩
 rw[←hgt]at hm
 refine gcShu0_ ?_;clear hs hm a;intros;rename_i a hm hs
 have hm':=hm.sub (M':=⟨some gr,87,(r.p.cl (r.y.cl (slv r.y.tA r.y.ts.length r.y.tc::r.o.cl (r.o.f.cl [.slice r.o.us.A r.o.us.us.length r.o.us.c,.slice r.k.o.A r.k.o.n r.k.o.c,.slice r.k.qA r.k.qs.length r.k.qc,e,.slice (some ⟨gj,0,none⟩) 4 jc]))))⟩::⟨some gj,3,(jv.set tk (.int .i64 (kk:Int)))⟩::X) sub_
 exact gRetN tab hs rfl (.cons (.cells rfl rfl rfl rfl (hm.ro (k:=0) (n:=7) (g:=g4) mem_ (cutF_ok rfl))) .nil) ⟨r.o,r.k,js.set tk (kk:Int),jv.set tk (.int .i64 (kk:Int)),{valR 0 true with wait:=true},rfl,by rw[show ints (js.set tk (kk:Int))=(ints js).set tk (.int .i64 (kk:Int))from List.map_set];exact hjs.set _ _,hI.step hm',fun _ _ _=>valR_ok 0 true _,⟨(valR_fit 0 true).v,(valR_fit 0 true).d,(valR_fit 0 true).dv,(valR_fit 0 true).sp⟩,hm'⟩
theorem perfDo_c [HB](w0:World)(B:Int)(r:RD)(gr gj jc:Nat)(e:Value)(js:List Int)(jv:List Value)(X:List Hp)(q:RqV)(wB:World)(hM:Mm (own (r.hp gr e (.slice (some ⟨gj,0,none⟩) 4 jc)::⟨some gj,3,jv⟩::X)) wB (r.hp gr e (.slice (some ⟨gj,0,none⟩) 4 jc)::⟨some gj,3,jv⟩::X) wB)(hI:RnI w0 B (r.hp gr e (.slice (some ⟨gj,0,none⟩) 4 jc)::⟨some gj,3,jv⟩::X) r wB)(hjs:Row (some gj) 4 jc 1 (ints js) jv)(hq:q.ok wB)(hqn:q.no (r.hp gr e (.slice (some ⟨gj,0,none⟩) 4 jc)::⟨some gj,3,jv⟩::X))(hqv:q.val)(hqk:q.kin)(hst:q.stop=1)(ha:actsF q.call):Ret Tryz.prog 113 [pt gr,q.v] wB (fun u w'=>∃(o':OV)(k':KS)(js':List Int)(jv':List Value)(x:RsV),u=x.v∧Row (some gj) 4 jc 1 (ints js') jv'∧RnI w0 B (RD.hp gr {r with o:=o',k:=k'} e (.slice (some ⟨gj,0,none⟩) 4 jc)::⟨some gj,3,jv'⟩::X) {r with o:=o',k:=k'} w'∧St (RD.hp gr {r with o:=o',k:=k'} e (.slice (some ⟨gj,0,none⟩) 4 jc)::⟨some gj,3,jv'⟩::X) x.ok w'∧x.fit∧Mm (own (r.hp gr e (.slice (some ⟨gj,0,none⟩) 4 jc)::⟨some gj,3,jv⟩::X)) wB (RD.hp gr {r with o:=o',k:=k'} e (.slice (some ⟨gj,0,none⟩) 4 jc)::⟨some gj,3,jv'⟩::X) w'):=by
 obtain⟨M0,hM0⟩:∃M0,r.hp gr e (.slice (some ⟨gj,0,none⟩) 4 jc)::⟨some gj,3,jv⟩::X=M0:=⟨_,rfl⟩
 rw[hM0]at hI hM hqn ⊢
 have hm0:Mm (own M0) wB (r.hp gr e (.slice (some ⟨gj,0,none⟩) 4 jc)::⟨some gj,3,jv⟩::X) wB:=by rw[hM0];exact hM
 unfold RD.hp RD.cs at hm0
 have hqth:0≤q.th∧q.th<4:=by have:=hqv.th;omega
 have kvl:∀(n:Int)(b:Bool)(w'':World),Ret Tryz.prog 123 [.int .i64 n,.bool b] w'' (fun u w'=>u= .agg #[.int .u8 0,.int .u16 (IntKind.u16.wrap (failF n b)),.int .i64 0,.int .i64 0,nS,.int .i64 (-1),.bool false]∧Pu w'' w'):=fun n b w''=>vlu_c n b w''
 have kdo:=fun w (M':List Hp) (hm:Mm (own M0) wB M' w)=>do_c r.o q w (hI.o.at_ hm) hI.ov (hq.own hqn hm) hqv hqk hst ha
 have hac:q.call=1∨q.call=2∨q.call=3∨q.call=4∨q.call=5∨q.call=6∨q.call=7∨q.call=13∨q.call=14:=by unfold actsF at ha;omega
 obtain⟨th,stop,trap,cnt,pc,call,ra,rd⟩:=q
 have hra:ra.ok wB:=hq.a
 have hrav:∀c∈ra.xs,c.val:=hqv.av
 have hran:=hqk.n
 have hnra:∀b o n,ra.A=some ⟨b,o,n⟩→¬own M0 b:=fun b o n e=>hqn b o n (.inl e)
 dsimp only at hst ha hqth hran
 subst hst
 unfold RqV.v at kdo ⊢
 unfold OV.v RsV.v at kdo
 dsimp only at kdo ⊢
 dsimp only at hac
 have c0:call≠0:=by omega
 have c8:call≠8:=by omega
 have c9:call≠9:=by omega
 have c10:call≠10:=by omega
 have c11:call≠11:=by omega
 have c12:call≠12:=by omega
 have c15:call≠15:=by omega
 clear hac
 refine enterR Tryz.func113 rfl rfl rfl fun a hs hm=>?_
 clear hm
 have hm:=hm0
 refine gsc5af_ ?_;clear hs hm a;intros;rename_i a hm hs
 obtain⟨g3,rfl⟩:=hs.pp 3
 obtain⟨g4,rfl⟩:=hs.pp 4
 refine cMid (fun a w=>∃(y:OV)(z:RsV)(R:List Hp)(g17 g18:Nat),On R y.ok∧On R z.ok∧y.val∧z.fit∧Sl Tryz.f113.ntmps [(0,pt gr),(4,pt g4),(17,pt g17),(18,pt g18)] a∧Mm (own M0) wB (⟨some g18,175,[.int .u8 z.val.t,.int .u16 z.val.v,.int .i64 z.val.r,.int .i64 z.val.o,.slice z.d.A z.d.xs.length z.d.c,.int .i64 z.spawn,.bool z.wait]⟩::⟨some g17,81,(y.cl (y.f.cl [.slice y.us.A y.us.us.length y.us.c]))⟩::⟨some g4,175,[.int .u8 0,.int .u16 0,.int .i64 0,.int .i64 0,nS,.int .i64 0,.bool false]⟩::⟨some gr,87,(r.p.cl (r.y.cl (slv r.y.tA r.y.ts.length r.y.tc::r.o.cl (r.o.f.cl [.slice r.o.us.A r.o.us.us.length r.o.us.c,.slice r.k.o.A r.k.o.n r.k.o.c,.slice r.k.qA r.k.qs.length r.k.qc,e,.slice (some ⟨gj,0,none⟩) 4 jc]))))⟩::⟨some gj,3,jv⟩::(X++R)) w) ?_ ?_
 ·with_reducible repeat(first|apply gThen|apply wp_seq)
  refine cDrawT (n:=15) (.s [0,1,2,3,4]<| .e [(5,.x<| .s [6,7,8,9]<| .e [(10,.o 11<| .o 12<| .o 13<| .t 14<| .d),(11,.o 10<| .o 12<| .o 13<| .t 14<| .d)]),(10,.e [(5,.x<| .s [6,7,8,9]<| .o 11<| .o 12<| .o 13<| .t 14<| .d),(11,.o 5<| .x<| .s [6,7,8,9]<| .o 12<| .o 13<| .t 14<| .d)]),(11,.e [(5,.x<| .s [6,7,8,9]<| .o 10<| .o 12<| .o 13<| .t 14<| .d),(10,.o 5<| .x<| .s [6,7,8,9]<| .o 12<| .o 13<| .t 14<| .d)])]) [⟨some g3,173,[.int .i64 th,.int .i64 1,.int .i64 trap,.int .i64 cnt,.int .i64 pc,.int .i64 call,.slice ra.A ra.xs.length ra.c,.slice rd.A rd.xs.length rd.c]⟩,⟨some gr,87,(r.p.cl (r.y.cl (slv r.y.tA r.y.ts.length r.y.tc::r.o.cl (r.o.f.cl [.slice r.o.us.A r.o.us.us.length r.o.us.c,.slice r.k.o.A r.k.o.n r.k.o.c,.slice r.k.qA r.k.qs.length r.k.qc,e,.slice (some ⟨gj,0,none⟩) 4 jc]))))⟩] hm rfl rfl ?_
  clear hm;intro t_ w1_ hm
  repeat' (first|(refine dgd799_ ?_;clear t_ hs hm a;intros;rename_i a hm hs t_)|refine tE t_ ?_|refine tC ?_ ?_|exact tN|intro t_|(refine oDo (i:=5) hs rfl (Wnt.none rfl) rfl rfl (by exact d_call hs rfl rfl rfl (pl 125 rfl) ((kdo _ _ hm))) ?_;clear hs;rintro _ w1 ⟨y,z,R,rfl,hyo,hzo,hN,hyv,hzf,hsp,hwt,hf⟩ a hs;(replace hm:=gainE hm hf hN);(clear hf hN);(simp only[List.cons_append,List.nil_append]at hm);replace t_:=tX t_;refine⟨(hm.sub sub_),?_⟩)|(refine tD t_ ?_;(obtain⟨g17,rfl⟩:=hs.pp 17);(obtain⟨g18,rfl⟩:=hs.pp 18);(refine And.intro rfl ⟨y,z,R,g17,g18,hyo,hzo,hyv,hzf,(sb_ hs),?_⟩);(first|(apply Mm.sub hm;(repeat(first|exact List.Sublist.refl _|exact List.nil_sublist _|apply List.Sublist.cons_cons|apply List.Sublist.cons));done)|(apply Mm.sub (hm.perm (List.Perm.swap _ _ _));(repeat(first|exact List.Sublist.refl _|exact List.nil_sublist _|apply List.Sublist.cons_cons|apply List.Sublist.cons));done)))|fail)
 clear hs hm a
 rintro a w ⟨y,z,R,g17,g18,hyo,hzo,hyv,hzf,hs,hm⟩
 refine gsc5af_ ?_;clear hs hm a;intros;rename_i a hm hs
 have hmX:=hm.sub (M':=⟨some gr,87,(r.p.cl (r.y.cl (slv r.y.tA r.y.ts.length r.y.tc::y.cl (y.f.cl [.slice y.us.A y.us.us.length y.us.c,.slice r.k.o.A r.k.o.n r.k.o.c,.slice r.k.qA r.k.qs.length r.k.qc,e,.slice (some ⟨gj,0,none⟩) 4 jc]))))⟩::⟨some gj,3,jv⟩::(X++R)) sub_
 exact gRetN tab hs rfl (.cons (.cells rfl rfl rfl rfl (hm.ro (k:=0) (n:=7) (g:=g4) mem_ (cutF_ok rfl))) .nil) ⟨y,r.k,js,jv,z,rfl,hjs,hI.set_o2 (M:=⟨some gr,87,(r.p.cl (r.y.cl (slv r.y.tA r.y.ts.length r.y.tc::y.cl (y.f.cl [.slice y.us.A y.us.us.length y.us.c,.slice r.k.o.A r.k.o.n r.k.o.c,.slice r.k.qA r.k.qs.length r.k.qc,e,.slice (some ⟨gj,0,none⟩) 4 jc]))))⟩::⟨some gj,3,jv⟩::X) hmX hyo hyv,St.of_on (M:=⟨some gr,87,(r.p.cl (r.y.cl (slv r.y.tA r.y.ts.length r.y.tc::y.cl (y.f.cl [.slice y.us.A y.us.us.length y.us.c,.slice r.k.o.A r.k.o.n r.k.o.c,.slice r.k.qA r.k.qs.length r.k.qc,e,.slice (some ⟨gj,0,none⟩) 4 jc]))))⟩::⟨some gj,3,jv⟩::X) hmX hzo,hzf,hmX.sub (List.Sublist.cons_cons _ (List.Sublist.cons_cons _ (List.sublist_append_left _ _)))⟩
theorem perform_c [HB](w0:World)(B:Int)(r:RD)(gr gj jc:Nat)(e:Value)(js:List Int)(jv:List Value)(X:List Hp)(q:RqV)(wB:World)(hM:Mm (own (r.hp gr e (.slice (some ⟨gj,0,none⟩) 4 jc)::⟨some gj,3,jv⟩::X)) wB (r.hp gr e (.slice (some ⟨gj,0,none⟩) 4 jc)::⟨some gj,3,jv⟩::X) wB)(hI:RnI w0 B (r.hp gr e (.slice (some ⟨gj,0,none⟩) 4 jc)::⟨some gj,3,jv⟩::X) r wB)(hjs:Row (some gj) 4 jc 1 (ints js) jv)(hq:q.ok wB)(hqn:q.no (r.hp gr e (.slice (some ⟨gj,0,none⟩) 4 jc)::⟨some gj,3,jv⟩::X))(hqv:q.val)(hqk:q.kin)(hst:q.stop=1):Ret Tryz.prog 113 [pt gr,q.v] wB (fun u w'=>∃(o':OV)(k':KS)(js':List Int)(jv':List Value)(x:RsV),u=x.v∧Row (some gj) 4 jc 1 (ints js') jv'∧RnI w0 B (RD.hp gr {r with o:=o',k:=k'} e (.slice (some ⟨gj,0,none⟩) 4 jc)::⟨some gj,3,jv'⟩::X) {r with o:=o',k:=k'} w'∧St (RD.hp gr {r with o:=o',k:=k'} e (.slice (some ⟨gj,0,none⟩) 4 jc)::⟨some gj,3,jv'⟩::X) x.ok w'∧x.fit∧Mm (own (r.hp gr e (.slice (some ⟨gj,0,none⟩) 4 jc)::⟨some gj,3,jv⟩::X)) wB (RD.hp gr {r with o:=o',k:=k'} e (.slice (some ⟨gj,0,none⟩) 4 jc)::⟨some gj,3,jv'⟩::X) w'):=by
 have hcl:=hqv.call
 by_cases ha:actsF q.call
 ·exact perfDo_c w0 B r gr gj jc e js jv X q wB hM hI hjs hq hqn hqv hqk hst ha
 have hc:q.call=0∨q.call=12∨q.call=15∨q.call=8∨q.call=9∨q.call=10∨q.call=11:=by unfold actsF at ha;omega
 rcases hc with e1|e1|e1|e1|e1|e1|e1
 ·exact perf0_c w0 B r gr gj jc e js jv X q wB hM hI hjs hq hqn hqv hqk hst e1
 ·exact perf12_c w0 B r gr gj jc e js jv X q wB hM hI hjs hq hqn hqv hqk hst e1
 ·exact perf15_c w0 B r gr gj jc e js jv X q wB hM hI hjs hq hqn hqv hqk hst e1
 ·exact perf8_c w0 B r gr gj jc e js jv X q wB hM hI hjs hq hqn hqv hqk hst e1
 ·exact perf9_c w0 B r gr gj jc e js jv X q wB hM hI hjs hq hqn hqv hqk hst e1
 ·exact perf10_c w0 B r gr gj jc e js jv X q wB hM hI hjs hq hqn hqv hqk hst e1
 ·exact perf11_c w0 B r gr gj jc e js jv X q wB hM hI hjs hq hqn hqv hqk hst e1
theorem dgShv0_{G H:Prop}(k:H)(s:Bx H→G:=by intro k_;(repeat(first|(refine tTake t_ hs rfl (by kernel_rfl) gw_ rfl rfl (by intro w hm;replace hm:Mm _ _ _ w:=hm;(first|exact kvR_|exact kb2_|exact r_loadO hs rfl rfl tab rfl rfl rfl hm (by repeat(first|exact mH|apply mT)) (by assumption)|exact r_loadO hs rfl rfl tab rfl rfl rfl hm (by repeat(first|exact mH|apply mT)) (by assumption))) (hm.sub sub_) ?_;(try clear t_ hs a);intro t_ a hs)|(refine tTakeN t_ hs rfl (by kernel_rfl) rfl rfl rfl rfl rfl rfl rfl (hm.sub sub_) ?_;(try clear t_ hs a);intro t_ a hs)|(refine tTakeU t_ hs rfl (by kernel_rfl) rfl rfl rfl rfl rfl rfl (hm.sub sub_) ?_;(try clear t_ hs a);intro t_ a hs)|(refine tE1 t_ ?_;(try clear t_);intro t_)|(refine nx_ t_ rfl ?_;have t_:=t_;first|(refine oDo hs rfl gw_ rfl rfl da_ ?_;(try clear hs hm a);rintro _ w_ ⟨g_,rfl,-,hm⟩ a hs;refine⟨(hm.sub sub_),?_⟩)|(refine oDoN hs rfl gw_ rfl ds_ ?_;(try clear hs hm a);rintro-w_ hm a hs;refine⟨(hm.sub sub_),?_⟩)|(refine oDoV hs rfl gw_ rfl rfl (by(first|exact klR_|exact r_loadO hs rfl rfl tab rfl rfl rfl hm (by repeat(first|exact mH|apply mT)) (by assumption)|exact r_loadO hs rfl rfl tab rfl rfl rfl hm (by repeat(first|exact mH|apply mT)) (by assumption))) ?_;(try clear hs a);intro a hs;refine⟨(hm.sub sub_),?_⟩))));have y_:=t_;clear t_;(first|(have m_:=hm;have s_:=hs;have z_:=y_;clear hs;(try clear hm);revert m_ s_ z_ a)|((first|refine rexd_ hs hm ?_|refine rexb_ hs hm ?_);intro a hm hs;have z_:=y_;revert hm hs z_ a));(try revert w_);(repeat revert g_);exact k_.h):G:=s ⟨k⟩
theorem dgShv1_{G H:Prop}(k:H)(s:Bx H→G:=by intro k_;(repeat(first|(refine tTakeB false t_ hs rfl (by kernel_rfl) (by kernel_rfl) gw_ rfl rfl (by intro w _;(first|exact kvR_|exact kb2_|exact r_loadO hs rfl rfl tab rfl rfl rfl hm (by repeat(first|exact mH|apply mT)) (by assumption)|exact r_loadO hs rfl rfl tab rfl rfl rfl hm (by repeat(first|exact mH|apply mT)) (by assumption))) bu_ ?_;(try clear t_ hs a);intro t_ a hs)|(refine tTakeB true t_ hs rfl (by kernel_rfl) (by kernel_rfl) gw_ rfl rfl (by intro w hm;replace hm:Mm _ _ _ w:=hm rfl;(first|exact klR_|exact r_loadO hs rfl rfl tab rfl rfl rfl hm (by repeat(first|exact mH|apply mT)) (by assumption)|exact r_loadO hs rfl rfl tab rfl rfl rfl hm (by repeat(first|exact mH|apply mT)) (by assumption))) bu_ ?_;(try clear t_ hs a);intro t_ a hs)|(refine tE1B t_ ?_;(try clear t_);intro t_)|(refine nx_ t_ rfl ?_;have t_:=t_;first|(refine oDoB hs rfl gw_ rfl rfl da_ ?_;(try clear hs hm a);rintro _ w_ ⟨g_,rfl,-,hm⟩ a hs;refine⟨bu_,?_⟩)|(refine oDoNB hs rfl gw_ rfl ds_ ?_;(try clear hs hm a);rintro-w_ hm a hs;refine⟨bu_,?_⟩)|(refine oDoVB hs rfl gw_ rfl rfl (by(first|exact klR_|exact r_loadO hs rfl rfl tab rfl rfl rfl hm (by repeat(first|exact mH|apply mT)) (by assumption)|exact r_loadO hs rfl rfl tab rfl rfl rfl hm (by repeat(first|exact mH|apply mT)) (by assumption))) ?_;(try clear hs a);intro a hs;refine⟨bu_,?_⟩))));have y_:=t_;clear t_;(first|(have m_:=hm;have s_:=hs;have z_:=y_;clear hs;(try clear hm);revert m_ s_ z_ a)|((first|refine rexd_ hs hm ?_|refine rexb_ hs hm ?_);intro a hm hs;have z_:=y_;revert hm hs z_ a));(try revert w_);(repeat revert g_);exact k_.h):G:=s ⟨k⟩
theorem own_pm{A B:List Hp}(h:A.Perm B):own A=own B:=funext fun g=>propext ⟨fun⟨x,hx,e⟩=>⟨x,h.mem_iff.1 hx,e⟩,fun⟨x,hx,e⟩=>⟨x,h.mem_iff.2 hx,e⟩⟩
theorem RnI.pm [HB]{w0 w:World}{B:Int}{M M1:List Hp}{r:RD}(h:RnI w0 B M r w)(hp:M.Perm M1):RnI w0 B M1 r w:=h.mono fun g hg=>by rw[own_pm hp];exact hg
def RqV.bd(q:RqV)(w:World):Prop:=∀b o n,q.a.A=some ⟨b,o,n⟩∨q.d.A=some ⟨b,o,n⟩→b<w.heap.size
theorem RqV.no.step{q:RqV}{M M':List Hp}{w w':World}(h:q.no M)(hb:q.bd w)(hm:Mm (own M) w M' w'):q.no M':=fun b o n e hg=>by
 rcases hm.own_ hg with h1|h1
 ·have:=hb b o n e;omega
 ·exact h b o n e h1
structure RS where
 r:RD
 js:List Int
 jv:List Value
 rA:Option Nat
 n:Nat
 rc:Nat
 es:List Value
 rcs:List Value
def RS.M(z:RS)(gr gj jc:Nat)(X:List Hp):List Hp:=z.r.hp gr (slv z.rA z.n z.rc) (.slice (some ⟨gj,0,none⟩) 4 jc)::⟨some gj,3,z.jv⟩::⟨z.rA,177,z.rcs⟩::X
structure RS.inv [HB](z:RS)(w0:World)(B:Int)(gr gj jc:Nat)(X:List Hp)(w:World):Prop where
 j:Row (some gj) 4 jc 1 (ints z.js) z.jv
 i:RnI w0 B (z.M gr gj jc X) z.r w
 row:Row z.rA z.n z.rc 18 z.es z.rcs
 one:z.es.all (·.oneCell')=true
theorem wakeS_c [HB](w0:World)(B:Int)(z:RS)(gr gj jc:Nat)(X:List Hp)(t c:Int)(wB:World)(hM:Mm (own (z.M gr gj jc X)) wB (z.M gr gj jc X) wB)(hI:z.inv w0 B gr gj jc X wB)(hB:B≤1000000000)(hn:z.n≤1000):Ret Tryz.prog 115 [pt gr,.int .i64 t,.int .u16 c] wB (fun _ w'=>∃y:RS,y.inv w0 B gr gj jc X w'∧Mm (own (z.M gr gj jc X)) wB (y.M gr gj jc X) w'∧y.n=z.n+1∧y.js=z.js∧y.jv=z.jv∧y.r.p=z.r.p):=by
 obtain⟨r,js,jv,rA,n,rc,es,rcs⟩:=z
 obtain⟨hj,hi,hrow,h1c⟩:=hI
 unfold RS.M at*
 dsimp only at*
 have hp:∀(a b c:Hp),(a::b::c::X).Perm (a::c::b::X):=fun a b c=>List.Perm.cons a (List.Perm.swap c b X)
 rw[own_pm (hp _ _ _)]at hM ⊢
 refine(wake_c w0 B r gr rA n rc es rcs (.slice (some ⟨gj,0,none⟩) 4 jc) (⟨some gj,3,jv⟩::X) t c wB (hM.perm (hp _ _ _)) (hi.pm (hp _ _ _)) hB hrow hn).mono fun u w' h=>?_
 obtain⟨y,rA',rc',es',rcs',h1,h2,h2b,h3⟩:=h
 exact⟨⟨{r with y:=y},js,jv,rA',n+1,rc',es',rcs'⟩,⟨hj,h1.pm (hp _ _ _),h2,h2b h1c⟩,h3.perm (hp _ _ _),rfl,rfl,rfl,rfl⟩
theorem calledN_c [HB](w0:World)(B:Int)(z:RS)(gr gj jc:Nat)(X:List Hp)(q:RqV)(wB:World)(hM:Mm (own (z.M gr gj jc X)) wB (z.M gr gj jc X) wB)(hI:z.inv w0 B gr gj jc X wB)(hB:B≤1000000000)(hn:z.n≤900)(hq:q.ok wB)(hqn:q.no (z.M gr gj jc X))(hqb:q.bd wB)(hqv:q.val)(hqk:q.kin)(hst:q.stop=1)(ha:q.call≠9):Ret Tryz.prog 92 [pt gr,q.v] wB (fun _ w'=>∃y:RS,y.inv w0 B gr gj jc X w'∧Mm (own (z.M gr gj jc X)) wB (y.M gr gj jc X) w'∧y.n≤z.n+2∧y.r.p=z.r.p):=by
 obtain⟨r,js,jv,rA,n,rc,es,rcs⟩:=z
 obtain⟨hj,hi,hrow,h1c⟩:=hI
 unfold RS.M at*
 dsimp only at*
 have hm0:=hM
 obtain⟨M0,hM0⟩:∃M0,r.hp gr (slv rA n rc) (.slice (some ⟨gj,0,none⟩) 4 jc)::⟨some gj,3,jv⟩::⟨rA,177,rcs⟩::X=M0:=⟨_,rfl⟩
 rw[hM0]at hi hM hqn ⊢
 replace hm0:Mm (own M0) wB (r.hp gr (slv rA n rc) (.slice (some ⟨gj,0,none⟩) 4 jc)::⟨some gj,3,jv⟩::⟨rA,177,rcs⟩::X) wB:=by rw[hM0];exact hM
 unfold RD.hp RD.cs at hm0
 have kpf:∀(w:World)(P:Hp),Mm (own M0) wB (P::r.hp gr (slv rA n rc) (.slice (some ⟨gj,0,none⟩) 4 jc)::⟨some gj,3,jv⟩::⟨rA,177,rcs⟩::X) w→Ret Tryz.prog 113 [pt gr,q.v] w (fun u w'=>∃(o':OV)(k':KS)(js':List Int)(jv':List Value)(x:RsV),u=x.v∧Row (some gj) 4 jc 1 (ints js') jv'∧RnI w0 B (RD.hp gr {r with o:=o',k:=k'} (slv rA n rc) (.slice (some ⟨gj,0,none⟩) 4 jc)::⟨some gj,3,jv'⟩::⟨rA,177,rcs⟩::P::X) {r with o:=o',k:=k'} w'∧St (RD.hp gr {r with o:=o',k:=k'} (slv rA n rc) (.slice (some ⟨gj,0,none⟩) 4 jc)::⟨some gj,3,jv'⟩::⟨rA,177,rcs⟩::P::X) x.ok w'∧x.fit∧Mm (own M0) wB (RD.hp gr {r with o:=o',k:=k'} (slv rA n rc) (.slice (some ⟨gj,0,none⟩) 4 jc)::⟨some gj,3,jv'⟩::⟨rA,177,rcs⟩::P::X) w'):=fun w P hm=>by
  have hm':=hm.perm (M':=r.hp gr (slv rA n rc) (.slice (some ⟨gj,0,none⟩) 4 jc)::⟨some gj,3,jv⟩::⟨rA,177,rcs⟩::P::X) ((List.perm_middle (l₁:=[_,_,_])))
  refine(perform_c w0 B r gr gj jc (slv rA n rc) js jv (⟨rA,177,rcs⟩::P::X) q w hm'.rebase (hi.step hm') hj (hq.own hqn hm) (hqn.step hqb hm') hqv hqk hst).mono fun u w' h=>?_
  obtain⟨o',k',js',jv',x,h1,h2,h3,h4,h5,h6⟩:=h
  exact⟨o',k',js',jv',x,h1,h2,h3,h4,h5,hm'.trans h6⟩
 unfold RD.hp RD.cs RsV.v at kpf
 try dsimp only at kpf
 have kpt:=fun(r':RD) (hp:r'.p=r.p) (M':List Hp) (x:RsV) (w1:World) (hmB:Mm (own M0) wB M' w1) (hI1:RnI w0 B M' r' w1) (hx:St M' x.ok w1) (hxf:x.fit) (w:World) (M'':List Hp) (hm:Mm (own M') w1 M'' w)=>rput_c r'.p r'.y B q x w (hI1.p.at_ hm) hI1.pv (MO.of_new (hI1.y.at_ hm) hI1.yo) hI1.yo hI1.yv hB (hq.own hqn (hmB.trans hm)) hqv hqk hst (hx.at_ hm) hxf
 unfold PV.v MO.v RsV.v at kpt
 try dsimp only at kpt
 obtain⟨th,stop,trap,cnt,pc,call,ra,rd⟩:=q
 have hra:ra.ok wB:=hq.a
 have hrav:∀c∈ra.xs,c.val:=hqv.av
 have hran:=hqk.n
 have hnra:∀b o n,ra.A=some ⟨b,o,n⟩→¬own M0 b:=fun b o n e=>hqn b o n (.inl e)
 dsimp only at hst ha hran
 subst hst
 unfold RqV.v at kpf kpt ⊢
 try dsimp only at kpf kpt ⊢
 refine enterR Tryz.func92 rfl rfl rfl fun a hs hm=>?_
 clear hm
 have hm:=hm0
 refine gsc5af_ ?_;clear hs hm a;intros;rename_i a hm hs
 obtain⟨g3,rfl⟩:=hs.pp 3
 obtain⟨nx,hnx⟩:∃nx:Int,nx=-1:=⟨_,rfl⟩
 rw[←hnx]at hs
 replace hm:=hm.sub (M':=⟨some g3,173,[.int .i64 th,.int .i64 1,.int .i64 trap,.int .i64 cnt,.int .i64 pc,.int .i64 call,.slice ra.A ra.xs.length ra.c,.slice rd.A rd.xs.length rd.c]⟩::⟨some gr,87,(r.p.cl (r.y.cl (slv r.y.tA r.y.ts.length r.y.tc::r.o.cl (r.o.f.cl [.slice r.o.us.A r.o.us.us.length r.o.us.c,.slice r.k.o.A r.k.o.n r.k.o.c,.slice r.k.qA r.k.qs.length r.k.qc,slv rA n rc,.slice (some ⟨gj,0,none⟩) 4 jc]))))⟩::⟨some gj,3,jv⟩::⟨rA,177,rcs⟩::X) sub_
 refine st hs rfl rfl rfl (d_call hs rfl rfl rfl (pl 113 rfl) ((kpf _ _ hm))) ?_;clear hs a;rintro _ w1 ⟨o',k',js',jv',x,rfl,hj',hI1,hxo,hxf,hmB⟩ a hs
 have kput:=kpt {r with o:=o',k:=k'} rfl _ x w1 hmB hI1 hxo hxf
 try dsimp only at kput
 clear kpt kpf
 replace hm:=hmB.rebase
 refine gsc5af_ ?_;clear hs hm a;intros;rename_i a hm hs
 obtain⟨g5,rfl⟩:=hs.pp 5
 refine cMid (fun a w=>∃(y:MO)(R:List Hp),y.ok∧y.d.val r.p.ss B∧(y=r.y∨y.hps=R)∧(∀x∈R,∀g,x.g=some g→w0.heap.size≤g)∧Sl Tryz.f92.ntmps [(0,pt gr),(3,pt g3),(4,.int .i64 nx),(5,pt g5)] a∧Mm (own (⟨some gr,87,(r.p.cl (r.y.cl (slv r.y.tA r.y.ts.length r.y.tc::o'.cl (o'.f.cl [.slice o'.us.A o'.us.us.length o'.us.c,.slice k'.o.A k'.o.n k'.o.c,.slice k'.qA k'.qs.length k'.qc,slv rA n rc,.slice (some ⟨gj,0,none⟩) 4 jc]))))⟩::⟨some gj,3,jv'⟩::⟨rA,177,rcs⟩::⟨some g3,173,[.int .i64 th,.int .i64 1,.int .i64 trap,.int .i64 cnt,.int .i64 pc,.int .i64 call,.slice ra.A ra.xs.length ra.c,.slice rd.A rd.xs.length rd.c]⟩::X)) w1 (⟨some g5,175,[.int .u8 x.val.t,.int .u16 x.val.v,.int .i64 x.val.r,.int .i64 x.val.o,.slice x.d.A x.d.xs.length x.d.c,.int .i64 x.spawn,.bool x.wait]⟩::⟨some gr,87,(r.p.cl (y.cl (slv y.tA y.ts.length y.tc::o'.cl (o'.f.cl [.slice o'.us.A o'.us.us.length o'.us.c,.slice k'.o.A k'.o.n k'.o.c,.slice k'.qA k'.qs.length k'.qc,slv rA n rc,.slice (some ⟨gj,0,none⟩) 4 jc]))))⟩::⟨some gj,3,jv'⟩::⟨rA,177,rcs⟩::⟨some g3,173,[.int .i64 th,.int .i64 1,.int .i64 trap,.int .i64 cnt,.int .i64 pc,.int .i64 call,.slice ra.A ra.xs.length ra.c,.slice rd.A rd.xs.length rd.c]⟩::(X++R)) w) ?_ ?_
 ·with_reducible repeat(first|apply gThen|apply wp_seq)
  refine cDrawTB (n:=18) (.s [0,1,2,3,4,5,6,7,8,9,10]<| .o 11<| .x<| .s [12,13,14,15,16]<| .o 17<| .d) 17 [⟨some g5,175,[.int .u8 x.val.t,.int .u16 x.val.v,.int .i64 x.val.r,.int .i64 x.val.o,.slice x.d.A x.d.xs.length x.d.c,.int .i64 x.spawn,.bool x.wait]⟩,⟨some gr,87,(r.p.cl (r.y.cl (slv r.y.tA r.y.ts.length r.y.tc::o'.cl (o'.f.cl [.slice o'.us.A o'.us.us.length o'.us.c,.slice k'.o.A k'.o.n k'.o.c,.slice k'.qA k'.qs.length k'.qc,slv rA n rc,.slice (some ⟨gj,0,none⟩) 4 jc]))))⟩,⟨some g3,173,[.int .i64 th,.int .i64 1,.int .i64 trap,.int .i64 cnt,.int .i64 pc,.int .i64 call,.slice ra.A ra.xs.length ra.c,.slice rd.A rd.xs.length rd.c]⟩] hm rfl rfl ?_
  clear hm;intro t_ w1_ hm
  repeat' (first|(refine dg95fa_ ?_;clear t_ hs hm a;intros;rename_i a hm hs t_)|refine tEB t_ ?_|refine tCB ?_ ?_|exact tNB|intro t_|(refine oDoB (i:=11) hs rfl (Wnt.none rfl) rfl rfl (by exact d_call hs rfl rfl rfl (pl 114 rfl) ((kput _ _ hm))) ?_;clear hs;rintro _ w2 ⟨y,b,rfl,yo,yv,hz,hf⟩ a hs;(obtain⟨R,hN,hzR⟩:=zR hz);(have hRf:=fun x hx g hg=>Nat.le_trans hI1.sz (Nat.le_trans hm.fr.size (hN.fresh x hx g hg)));(replace hm:=gainE hm hf hN);(clear hf hN hz);(simp only[List.cons_append,List.nil_append]at hm);replace t_:=tX t_;refine⟨bu_,?_⟩)|(refine tDB t_ ?_;(exact And.intro rfl ⟨y,R,yo,yv,hzR,hRf,(sb_ hs),hm⟩))|fail)
 clear hs hm a kput
 rintro a w ⟨y,R,yo,yv,hzR,hRf,hs,hm⟩
 with_reducible repeat(first|apply gThen|apply wp_seq)
 refine cMid (fun a w=>∃(rA':Option Nat)(rc':Nat)(rcs':List Value),Row rA' (n+1) rc' 18 (es++[.int .i64 2,.int .i64 th,.int .i64 0,.int .i64 th,.int .i64 1,.int .i64 trap,.int .i64 cnt,.int .i64 pc,.int .i64 call,.slice ra.A ra.xs.length ra.c,.slice rd.A rd.xs.length rd.c,.int .u8 x.val.t,.int .u16 x.val.v,.int .i64 x.val.r,.int .i64 x.val.o,.slice x.d.A x.d.xs.length x.d.c,.int .i64 x.spawn,.bool x.wait]) rcs'∧Sl Tryz.f92.ntmps [(0,pt gr),(4,.int .i64 nx)] a∧Mm (own (⟨some gr,87,(r.p.cl (r.y.cl (slv r.y.tA r.y.ts.length r.y.tc::o'.cl (o'.f.cl [.slice o'.us.A o'.us.us.length o'.us.c,.slice k'.o.A k'.o.n k'.o.c,.slice k'.qA k'.qs.length k'.qc,slv rA n rc,.slice (some ⟨gj,0,none⟩) 4 jc]))))⟩::⟨some gj,3,jv'⟩::⟨rA,177,rcs⟩::⟨some g3,173,[.int .i64 th,.int .i64 1,.int .i64 trap,.int .i64 cnt,.int .i64 pc,.int .i64 call,.slice ra.A ra.xs.length ra.c,.slice rd.A rd.xs.length rd.c]⟩::X)) w1 (⟨some gr,87,(r.p.cl (y.cl (slv y.tA y.ts.length y.tc::o'.cl (o'.f.cl [.slice o'.us.A o'.us.us.length o'.us.c,.slice k'.o.A k'.o.n k'.o.c,.slice k'.qA k'.qs.length k'.qc,slv rA' (n+1) rc',.slice (some ⟨gj,0,none⟩) 4 jc]))))⟩::⟨some gj,3,jv'⟩::⟨rA',177,rcs'⟩::(X++R)) w) ?_ ?_
 ·with_reducible repeat(first|apply gThen|apply wp_seq)
  refine cDrawTB (n:=15) (.s [0,1,2,3,4,5,6,7,8,9]<| .o 10<| .o 11<| .x<| .s [12,13]<| .o 14<| .d) 14 [⟨some g5,175,[.int .u8 x.val.t,.int .u16 x.val.v,.int .i64 x.val.r,.int .i64 x.val.o,.slice x.d.A x.d.xs.length x.d.c,.int .i64 x.spawn,.bool x.wait]⟩,⟨some gr,87,(r.p.cl (y.cl (slv y.tA y.ts.length y.tc::o'.cl (o'.f.cl [.slice o'.us.A o'.us.us.length o'.us.c,.slice k'.o.A k'.o.n k'.o.c,.slice k'.qA k'.qs.length k'.qc,slv rA n rc,.slice (some ⟨gj,0,none⟩) 4 jc]))))⟩,⟨some g3,173,[.int .i64 th,.int .i64 1,.int .i64 trap,.int .i64 cnt,.int .i64 pc,.int .i64 call,.slice ra.A ra.xs.length ra.c,.slice rd.A rd.xs.length rd.c]⟩] hm rfl rfl ?_
  clear hm;intro t_ w1_ hm
  repeat' (first|(refine dg95fa_ ?_;clear t_ hs hm a;intros;rename_i a hm hs t_)|refine tEB t_ ?_|refine tCB ?_ ?_|exact tNB|intro t_|(refine oDoB (i:=11) hs rfl (Wnt.none rfl) rfl rfl (by exact d_append (A:=rA) (n:=n) (c:=rc) (news:=[.int .i64 2,.int .i64 th,.int .i64 0,.int .i64 th,.int .i64 1,.int .i64 trap,.int .i64 cnt,.int .i64 pc,.int .i64 call,.slice ra.A ra.xs.length ra.c,.slice rd.A rd.xs.length rd.c,.int .u8 x.val.t,.int .u16 x.val.v,.int .i64 x.val.r,.int .i64 x.val.o,.slice x.d.A x.d.xs.length x.d.c,.int .i64 x.spawn,.bool x.wait]) hs rfl rfl rfl rfl rfl tab rfl rfl rfl rfl rfl hm mem_ hrow rfl (hm.ro (n:=18) mem_ (cutF_ok rfl)) rfl (by show(n+1)*184≤_;omega) (by omega)) ?_;clear hs;rintro _ w2 ⟨rA',rc',rcs',rfl,hr',hM'⟩ a hs;(replace hm:=hM' _ rep_);(clear hM');replace t_:=tX t_;refine⟨bu_,?_⟩)|(refine tDB t_ ?_;(exact And.intro rfl ⟨rA',rc',rcs',hr',(sb_ hs),hm.sub sub_⟩))|fail)
 clear hs hm a
 rintro a w ⟨rA',rc',rcs',hr',hs,hm⟩
 have hI2:=hI1.set_y2 (M:=⟨some gr,87,(r.p.cl (y.cl (slv y.tA y.ts.length y.tc::o'.cl (o'.f.cl [.slice o'.us.A o'.us.us.length o'.us.c,.slice k'.o.A k'.o.n k'.o.c,.slice k'.qA k'.qs.length k'.qc,slv rA' (n+1) rc',.slice (some ⟨gj,0,none⟩) 4 jc]))))⟩::⟨some gj,3,jv'⟩::⟨rA',177,rcs'⟩::X) hm hRf hzR yo yv
 have hm2:=(hmB.trans hm).sub (M':=⟨some gr,87,(r.p.cl (y.cl (slv y.tA y.ts.length y.tc::o'.cl (o'.f.cl [.slice o'.us.A o'.us.us.length o'.us.c,.slice k'.o.A k'.o.n k'.o.c,.slice k'.qA k'.qs.length k'.qc,slv rA' (n+1) rc',.slice (some ⟨gj,0,none⟩) 4 jc]))))⟩::⟨some gj,3,jv'⟩::⟨rA',177,rcs'⟩::X) (List.Sublist.cons_cons _ (List.Sublist.cons_cons _ (List.Sublist.cons_cons _ (List.sublist_append_left _ _))))
 obtain⟨Z,hZ⟩:∃Z:RS,Z=⟨{r with o:=o',k:=k',y:=y},js',jv',rA',n+1,rc',es++[.int .i64 2,.int .i64 th,.int .i64 0,.int .i64 th,.int .i64 1,.int .i64 trap,.int .i64 cnt,.int .i64 pc,.int .i64 call,.slice ra.A ra.xs.length ra.c,.slice rd.A rd.xs.length rd.c,.int .u8 x.val.t,.int .u16 x.val.v,.int .i64 x.val.r,.int .i64 x.val.o,.slice x.d.A x.d.xs.length x.d.c,.int .i64 x.spawn,.bool x.wait],rcs'⟩:=⟨_,rfl⟩
 have hZM:Mm (own M0) wB (Z.M gr gj jc X) w:=by rw[hZ];exact hm2
 have hZi:Z.inv w0 B gr gj jc X w:=by rw[hZ];exact⟨hj',hI2,hr',by rw[List.all_append,h1c];rfl⟩
 have hZn:Z.n=n+1:=by rw[hZ]
 have hZp:Z.r.p=r.p:=by rw[hZ]
 clear hm2 hI2 hZ
 refine gsc5af_ ?_;clear hs hm a;intros;rename_i w a hm hs
 refine gEnd tab hs rfl .nil ?_
 exact⟨Z,hZi,hZM,by omega,hZp⟩
theorem called9_c [HB](w0:World)(B:Int)(z:RS)(gr gj jc:Nat)(X:List Hp)(q:RqV)(wB:World)(hM:Mm (own (z.M gr gj jc X)) wB (z.M gr gj jc X) wB)(hI:z.inv w0 B gr gj jc X wB)(hB:B≤1000000000)(hn:z.n≤900)(hq:q.ok wB)(hqn:q.no (z.M gr gj jc X))(hqb:q.bd wB)(hqv:q.val)(hqk:q.kin)(hst:q.stop=1)(ha:q.call=9):Ret Tryz.prog 92 [pt gr,q.v] wB (fun _ w'=>∃y:RS,y.inv w0 B gr gj jc X w'∧Mm (own (z.M gr gj jc X)) wB (y.M gr gj jc X) w'∧y.n≤z.n+2∧y.r.p=z.r.p):=by
 obtain⟨r,js,jv,rA,n,rc,es,rcs⟩:=z
 obtain⟨hj,hi,hrow,h1c⟩:=hI
 unfold RS.M at*
 dsimp only at*
 have hm0:=hM
 obtain⟨M0,hM0⟩:∃M0,r.hp gr (slv rA n rc) (.slice (some ⟨gj,0,none⟩) 4 jc)::⟨some gj,3,jv⟩::⟨rA,177,rcs⟩::X=M0:=⟨_,rfl⟩
 rw[hM0]at hi hM hqn ⊢
 replace hm0:Mm (own M0) wB (r.hp gr (slv rA n rc) (.slice (some ⟨gj,0,none⟩) 4 jc)::⟨some gj,3,jv⟩::⟨rA,177,rcs⟩::X) wB:=by rw[hM0];exact hM
 unfold RD.hp RD.cs at hm0
 have kpf:∀(w:World)(P:Hp),Mm (own M0) wB (P::r.hp gr (slv rA n rc) (.slice (some ⟨gj,0,none⟩) 4 jc)::⟨some gj,3,jv⟩::⟨rA,177,rcs⟩::X) w→Ret Tryz.prog 113 [pt gr,q.v] w (fun u w'=>∃(o':OV)(k':KS)(js':List Int)(jv':List Value)(x:RsV),u=x.v∧Row (some gj) 4 jc 1 (ints js') jv'∧RnI w0 B (RD.hp gr {r with o:=o',k:=k'} (slv rA n rc) (.slice (some ⟨gj,0,none⟩) 4 jc)::⟨some gj,3,jv'⟩::⟨rA,177,rcs⟩::P::X) {r with o:=o',k:=k'} w'∧St (RD.hp gr {r with o:=o',k:=k'} (slv rA n rc) (.slice (some ⟨gj,0,none⟩) 4 jc)::⟨some gj,3,jv'⟩::⟨rA,177,rcs⟩::P::X) x.ok w'∧x.fit∧Mm (own M0) wB (RD.hp gr {r with o:=o',k:=k'} (slv rA n rc) (.slice (some ⟨gj,0,none⟩) 4 jc)::⟨some gj,3,jv'⟩::⟨rA,177,rcs⟩::P::X) w'):=fun w P hm=>by
  have hm':=hm.perm (M':=r.hp gr (slv rA n rc) (.slice (some ⟨gj,0,none⟩) 4 jc)::⟨some gj,3,jv⟩::⟨rA,177,rcs⟩::P::X) ((List.perm_middle (l₁:=[_,_,_])))
  refine(perform_c w0 B r gr gj jc (slv rA n rc) js jv (⟨rA,177,rcs⟩::P::X) q w hm'.rebase (hi.step hm') hj (hq.own hqn hm) (hqn.step hqb hm') hqv hqk hst).mono fun u w' h=>?_
  obtain⟨o',k',js',jv',x,h1,h2,h3,h4,h5,h6⟩:=h
  exact⟨o',k',js',jv',x,h1,h2,h3,h4,h5,hm'.trans h6⟩
 unfold RD.hp RD.cs RsV.v at kpf
 try dsimp only at kpf
 have kpt:=fun(r':RD) (hp:r'.p=r.p) (M':List Hp) (x:RsV) (w1:World) (hmB:Mm (own M0) wB M' w1) (hI1:RnI w0 B M' r' w1) (hx:St M' x.ok w1) (hxf:x.fit) (w:World) (M'':List Hp) (hm:Mm (own M') w1 M'' w)=>rput_c r'.p r'.y B q x w (hI1.p.at_ hm) hI1.pv (MO.of_new (hI1.y.at_ hm) hI1.yo) hI1.yo hI1.yv hB (hq.own hqn (hmB.trans hm)) hqv hqk hst (hx.at_ hm) hxf
 unfold PV.v MO.v RsV.v at kpt
 try dsimp only at kpt
 have klk:∀(w:World)(M':List Hp)(k:Int),Mm (own M0) wB M' w→Ret Tryz.prog 112 [.agg #[.slice r.k.o.A r.k.o.n r.k.o.c,.slice r.k.qA r.k.qs.length r.k.qc],.int .i64 k,.int .i64 q.th] w (fun u w'=>∃(y:KS)(n:Int)(b:Bool),u= .tuple #[.agg #[.slice y.o.A y.o.n y.o.c,.slice y.qA y.qs.length y.qc],.int .i64 n,.bool b]∧LkR y w w'∧Pu w w'):=fun w M' k hm=>rgvA_c r.k k q.th w (hi.k.at_ hm) hi.kv
 obtain⟨th,stop,trap,cnt,pc,call,ra,rd⟩:=q
 have hra:ra.ok wB:=hq.a
 have hrav:∀c∈ra.xs,c.val:=hqv.av
 have hran:=hqk.n
 have hnra:∀b o n,ra.A=some ⟨b,o,n⟩→¬own M0 b:=fun b o n e=>hqn b o n (.inl e)
 dsimp only at hst ha hran klk
 subst hst ha
 have hal:0<ra.xs.length:=by rw[hran];decide
 obtain⟨b1,o1,hA,hb1,r1⟩:=Rd.ro hra (by rw[cns_len];omega)
 have hnb1:=hnra b1 o1 none hA
 have r2:=r1.flat CN.cs_len hal
 have hcv:=(hrav _ (List.getElem_mem hal)).v
 generalize ra.xs[0]'hal=c0 at r2 hcv
 unfold CN.cs at r2
 clear r1
 unfold RqV.v at kpf kpt ⊢
 try dsimp only at kpf kpt ⊢
 rw[hA]at kpf kpt ⊢
 refine enterR Tryz.func92 rfl rfl rfl fun a hs hm=>?_
 clear hm
 have hm:=hm0
 refine gsc5af_ ?_;clear hs hm a;intros;rename_i a hm hs
 obtain⟨g3,rfl⟩:=hs.pp 3
 refine cMid (fun a w=>∃nx:Int,Sl Tryz.f92.ntmps [(0,pt gr),(3,pt g3),(4,.int .i64 nx)] a∧Mm (own M0) wB (⟨some g3,173,[.int .i64 th,.int .i64 1,.int .i64 trap,.int .i64 cnt,.int .i64 pc,.int .i64 9,.slice (some ⟨b1,o1,none⟩) ra.xs.length ra.c,.slice rd.A rd.xs.length rd.c]⟩::⟨some gr,87,(r.p.cl (r.y.cl (slv r.y.tA r.y.ts.length r.y.tc::r.o.cl (r.o.f.cl [.slice r.o.us.A r.o.us.us.length r.o.us.c,.slice r.k.o.A r.k.o.n r.k.o.c,.slice r.k.qA r.k.qs.length r.k.qc,slv rA n rc,.slice (some ⟨gj,0,none⟩) 4 jc]))))⟩::⟨some gj,3,jv⟩::⟨rA,177,rcs⟩::X) w) ?_ ?_
 ·with_reducible repeat(first|apply gThen|apply wp_seq)
  refine cDrawT (n:=18) (.s [0,1,2,3,4,5,6,7,8,9,10,11]<| .o 12<| .x<| .s [13,14,15,16,17]<| .d) [⟨some g3,173,[.int .i64 th,.int .i64 1,.int .i64 trap,.int .i64 cnt,.int .i64 pc,.int .i64 9,.slice (some ⟨b1,o1,none⟩) ra.xs.length ra.c,.slice rd.A rd.xs.length rd.c]⟩,⟨some gr,87,(r.p.cl (r.y.cl (slv r.y.tA r.y.ts.length r.y.tc::r.o.cl (r.o.f.cl [.slice r.o.us.A r.o.us.us.length r.o.us.c,.slice r.k.o.A r.k.o.n r.k.o.c,.slice r.k.qA r.k.qs.length r.k.qc,slv rA n rc,.slice (some ⟨gj,0,none⟩) 4 jc]))))⟩] hm rfl rfl ?_
  clear hm;intro t_ w1_ hm
  repeat' (first|(refine dgShv0_ ?_;clear t_ hs hm a;intros;rename_i a hm hs t_)|refine tE t_ ?_|refine tC ?_ ?_|exact tN|intro t_|(refine oDo (i:=12) hs rfl (Wnt.none rfl) rfl rfl (by exact d_call hs rfl rfl rfl (pl 112 rfl) ((klk _ _ _ hm))) ?_;clear hs;rintro _ w1 ⟨z,nx,b,rfl,hk,hf⟩ a hs;(replace hm:=hm.pu hf);(clear hf hk);replace t_:=tX t_;refine⟨(hm.sub sub_),?_⟩)|(refine tD t_ ?_;(exact And.intro rfl ⟨nx,(sb_ hs),hm⟩))|fail)
 clear hs hm a
 rintro a w ⟨nx,hs,hm⟩
 refine gsc5af_ ?_;clear hs hm a;intros;rename_i a hm hs
 replace hm:=hm.sub (M':=⟨some g3,173,[.int .i64 th,.int .i64 1,.int .i64 trap,.int .i64 cnt,.int .i64 pc,.int .i64 9,.slice (some ⟨b1,o1,none⟩) ra.xs.length ra.c,.slice rd.A rd.xs.length rd.c]⟩::⟨some gr,87,(r.p.cl (r.y.cl (slv r.y.tA r.y.ts.length r.y.tc::r.o.cl (r.o.f.cl [.slice r.o.us.A r.o.us.us.length r.o.us.c,.slice r.k.o.A r.k.o.n r.k.o.c,.slice r.k.qA r.k.qs.length r.k.qc,slv rA n rc,.slice (some ⟨gj,0,none⟩) 4 jc]))))⟩::⟨some gj,3,jv⟩::⟨rA,177,rcs⟩::X) sub_
 refine st hs rfl rfl rfl (d_call hs rfl rfl rfl (pl 113 rfl) ((kpf _ _ hm))) ?_;clear hs a;rintro _ w1 ⟨o',k',js',jv',x,rfl,hj',hI1,hxo,hxf,hmB⟩ a hs
 have kput:=kpt {r with o:=o',k:=k'} rfl _ x w1 hmB hI1 hxo hxf
 try dsimp only at kput
 clear kpt kpf
 replace hm:=hmB.rebase
 refine gsc5af_ ?_;clear hs hm a;intros;rename_i a hm hs
 obtain⟨g5,rfl⟩:=hs.pp 5
 refine cMid (fun a w=>∃(y:MO)(R:List Hp),y.ok∧y.d.val r.p.ss B∧(y=r.y∨y.hps=R)∧(∀x∈R,∀g,x.g=some g→w0.heap.size≤g)∧Sl Tryz.f92.ntmps [(0,pt gr),(3,pt g3),(4,.int .i64 nx),(5,pt g5)] a∧Mm (own (⟨some gr,87,(r.p.cl (r.y.cl (slv r.y.tA r.y.ts.length r.y.tc::o'.cl (o'.f.cl [.slice o'.us.A o'.us.us.length o'.us.c,.slice k'.o.A k'.o.n k'.o.c,.slice k'.qA k'.qs.length k'.qc,slv rA n rc,.slice (some ⟨gj,0,none⟩) 4 jc]))))⟩::⟨some gj,3,jv'⟩::⟨rA,177,rcs⟩::⟨some g3,173,[.int .i64 th,.int .i64 1,.int .i64 trap,.int .i64 cnt,.int .i64 pc,.int .i64 9,.slice (some ⟨b1,o1,none⟩) ra.xs.length ra.c,.slice rd.A rd.xs.length rd.c]⟩::X)) w1 (⟨some g5,175,[.int .u8 x.val.t,.int .u16 x.val.v,.int .i64 x.val.r,.int .i64 x.val.o,.slice x.d.A x.d.xs.length x.d.c,.int .i64 x.spawn,.bool x.wait]⟩::⟨some gr,87,(r.p.cl (y.cl (slv y.tA y.ts.length y.tc::o'.cl (o'.f.cl [.slice o'.us.A o'.us.us.length o'.us.c,.slice k'.o.A k'.o.n k'.o.c,.slice k'.qA k'.qs.length k'.qc,slv rA n rc,.slice (some ⟨gj,0,none⟩) 4 jc]))))⟩::⟨some gj,3,jv'⟩::⟨rA,177,rcs⟩::⟨some g3,173,[.int .i64 th,.int .i64 1,.int .i64 trap,.int .i64 cnt,.int .i64 pc,.int .i64 9,.slice (some ⟨b1,o1,none⟩) ra.xs.length ra.c,.slice rd.A rd.xs.length rd.c]⟩::(X++R)) w) ?_ ?_
 ·with_reducible repeat(first|apply gThen|apply wp_seq)
  refine cDrawTB (n:=18) (.s [0,1,2,3,4,5,6,7,8,9,10]<| .o 11<| .x<| .s [12,13,14,15,16]<| .o 17<| .d) 17 [⟨some g5,175,[.int .u8 x.val.t,.int .u16 x.val.v,.int .i64 x.val.r,.int .i64 x.val.o,.slice x.d.A x.d.xs.length x.d.c,.int .i64 x.spawn,.bool x.wait]⟩,⟨some gr,87,(r.p.cl (r.y.cl (slv r.y.tA r.y.ts.length r.y.tc::o'.cl (o'.f.cl [.slice o'.us.A o'.us.us.length o'.us.c,.slice k'.o.A k'.o.n k'.o.c,.slice k'.qA k'.qs.length k'.qc,slv rA n rc,.slice (some ⟨gj,0,none⟩) 4 jc]))))⟩,⟨some g3,173,[.int .i64 th,.int .i64 1,.int .i64 trap,.int .i64 cnt,.int .i64 pc,.int .i64 9,.slice (some ⟨b1,o1,none⟩) ra.xs.length ra.c,.slice rd.A rd.xs.length rd.c]⟩] hm rfl rfl ?_
  clear hm;intro t_ w1_ hm
  repeat' (first|(refine dgShv1_ ?_;clear t_ hs hm a;intros;rename_i a hm hs t_)|refine tEB t_ ?_|refine tCB ?_ ?_|exact tNB|intro t_|(refine oDoB (i:=11) hs rfl (Wnt.none rfl) rfl rfl (by exact d_call hs rfl rfl rfl (pl 114 rfl) ((kput _ _ hm))) ?_;clear hs;rintro _ w2 ⟨y,b,rfl,yo,yv,hz,hf⟩ a hs;(obtain⟨R,hN,hzR⟩:=zR hz);(have hRf:=fun x hx g hg=>Nat.le_trans hI1.sz (Nat.le_trans hm.fr.size (hN.fresh x hx g hg)));(replace hm:=gainE hm hf hN);(clear hf hN hz);(simp only[List.cons_append,List.nil_append]at hm);replace t_:=tX t_;refine⟨bu_,?_⟩)|(refine tDB t_ ?_;(exact And.intro rfl ⟨y,R,yo,yv,hzR,hRf,(sb_ hs),hm⟩))|fail)
 clear hs hm a kput
 rintro a w ⟨y,R,yo,yv,hzR,hRf,hs,hm⟩
 with_reducible repeat(first|apply gThen|apply wp_seq)
 refine cMid (fun a w=>∃(rA':Option Nat)(rc':Nat)(rcs':List Value),Row rA' (n+1) rc' 18 (es++[.int .i64 2,.int .i64 th,.int .i64 0,.int .i64 th,.int .i64 1,.int .i64 trap,.int .i64 cnt,.int .i64 pc,.int .i64 9,.slice (some ⟨b1,o1,none⟩) ra.xs.length ra.c,.slice rd.A rd.xs.length rd.c,.int .u8 x.val.t,.int .u16 x.val.v,.int .i64 x.val.r,.int .i64 x.val.o,.slice x.d.A x.d.xs.length x.d.c,.int .i64 x.spawn,.bool x.wait]) rcs'∧Sl Tryz.f92.ntmps [(0,pt gr),(4,.int .i64 nx)] a∧Mm (own (⟨some gr,87,(r.p.cl (r.y.cl (slv r.y.tA r.y.ts.length r.y.tc::o'.cl (o'.f.cl [.slice o'.us.A o'.us.us.length o'.us.c,.slice k'.o.A k'.o.n k'.o.c,.slice k'.qA k'.qs.length k'.qc,slv rA n rc,.slice (some ⟨gj,0,none⟩) 4 jc]))))⟩::⟨some gj,3,jv'⟩::⟨rA,177,rcs⟩::⟨some g3,173,[.int .i64 th,.int .i64 1,.int .i64 trap,.int .i64 cnt,.int .i64 pc,.int .i64 9,.slice (some ⟨b1,o1,none⟩) ra.xs.length ra.c,.slice rd.A rd.xs.length rd.c]⟩::X)) w1 (⟨some gr,87,(r.p.cl (y.cl (slv y.tA y.ts.length y.tc::o'.cl (o'.f.cl [.slice o'.us.A o'.us.us.length o'.us.c,.slice k'.o.A k'.o.n k'.o.c,.slice k'.qA k'.qs.length k'.qc,slv rA' (n+1) rc',.slice (some ⟨gj,0,none⟩) 4 jc]))))⟩::⟨some gj,3,jv'⟩::⟨rA',177,rcs'⟩::(X++R)) w) ?_ ?_
 ·with_reducible repeat(first|apply gThen|apply wp_seq)
  refine cDrawTB (n:=15) (.s [0,1,2,3,4,5,6,7,8,9]<| .o 10<| .o 11<| .x<| .s [12,13]<| .o 14<| .d) 14 [⟨some g5,175,[.int .u8 x.val.t,.int .u16 x.val.v,.int .i64 x.val.r,.int .i64 x.val.o,.slice x.d.A x.d.xs.length x.d.c,.int .i64 x.spawn,.bool x.wait]⟩,⟨some gr,87,(r.p.cl (y.cl (slv y.tA y.ts.length y.tc::o'.cl (o'.f.cl [.slice o'.us.A o'.us.us.length o'.us.c,.slice k'.o.A k'.o.n k'.o.c,.slice k'.qA k'.qs.length k'.qc,slv rA n rc,.slice (some ⟨gj,0,none⟩) 4 jc]))))⟩,⟨some g3,173,[.int .i64 th,.int .i64 1,.int .i64 trap,.int .i64 cnt,.int .i64 pc,.int .i64 9,.slice (some ⟨b1,o1,none⟩) ra.xs.length ra.c,.slice rd.A rd.xs.length rd.c]⟩] hm rfl rfl ?_
  clear hm;intro t_ w1_ hm
  repeat' (first|(refine dgShv1_ ?_;clear t_ hs hm a;intros;rename_i a hm hs t_)|refine tEB t_ ?_|refine tCB ?_ ?_|exact tNB|intro t_|(refine oDoB (i:=11) hs rfl (Wnt.none rfl) rfl rfl (by exact d_append (A:=rA) (n:=n) (c:=rc) (news:=[.int .i64 2,.int .i64 th,.int .i64 0,.int .i64 th,.int .i64 1,.int .i64 trap,.int .i64 cnt,.int .i64 pc,.int .i64 9,.slice (some ⟨b1,o1,none⟩) ra.xs.length ra.c,.slice rd.A rd.xs.length rd.c,.int .u8 x.val.t,.int .u16 x.val.v,.int .i64 x.val.r,.int .i64 x.val.o,.slice x.d.A x.d.xs.length x.d.c,.int .i64 x.spawn,.bool x.wait]) hs rfl rfl rfl rfl rfl tab rfl rfl rfl rfl rfl hm mem_ hrow rfl (hm.ro (n:=18) mem_ (cutF_ok rfl)) rfl (by show(n+1)*184≤_;omega) (by omega)) ?_;clear hs;rintro _ w2 ⟨rA',rc',rcs',rfl,hr',hM'⟩ a hs;(replace hm:=hM' _ rep_);(clear hM');replace t_:=tX t_;refine⟨bu_,?_⟩)|(refine tDB t_ ?_;(exact And.intro rfl ⟨rA',rc',rcs',hr',(sb_ hs),hm.sub sub_⟩))|fail)
 clear hs hm a
 rintro a w ⟨rA',rc',rcs',hr',hs,hm⟩
 have hI2:=hI1.set_y2 (M:=⟨some gr,87,(r.p.cl (y.cl (slv y.tA y.ts.length y.tc::o'.cl (o'.f.cl [.slice o'.us.A o'.us.us.length o'.us.c,.slice k'.o.A k'.o.n k'.o.c,.slice k'.qA k'.qs.length k'.qc,slv rA' (n+1) rc',.slice (some ⟨gj,0,none⟩) 4 jc]))))⟩::⟨some gj,3,jv'⟩::⟨rA',177,rcs'⟩::X) hm hRf hzR yo yv
 have hm2:=(hmB.trans hm).sub (M':=⟨some gr,87,(r.p.cl (y.cl (slv y.tA y.ts.length y.tc::o'.cl (o'.f.cl [.slice o'.us.A o'.us.us.length o'.us.c,.slice k'.o.A k'.o.n k'.o.c,.slice k'.qA k'.qs.length k'.qc,slv rA' (n+1) rc',.slice (some ⟨gj,0,none⟩) 4 jc]))))⟩::⟨some gj,3,jv'⟩::⟨rA',177,rcs'⟩::X) (List.Sublist.cons_cons _ (List.Sublist.cons_cons _ (List.Sublist.cons_cons _ (List.sublist_append_left _ _))))
 obtain⟨Z,hZ⟩:∃Z:RS,Z=⟨{r with o:=o',k:=k',y:=y},js',jv',rA',n+1,rc',es++[.int .i64 2,.int .i64 th,.int .i64 0,.int .i64 th,.int .i64 1,.int .i64 trap,.int .i64 cnt,.int .i64 pc,.int .i64 9,.slice (some ⟨b1,o1,none⟩) ra.xs.length ra.c,.slice rd.A rd.xs.length rd.c,.int .u8 x.val.t,.int .u16 x.val.v,.int .i64 x.val.r,.int .i64 x.val.o,.slice x.d.A x.d.xs.length x.d.c,.int .i64 x.spawn,.bool x.wait],rcs'⟩:=⟨_,rfl⟩
 have hZM:Mm (own M0) wB (Z.M gr gj jc X) w:=by rw[hZ];exact hm2
 have hZi:Z.inv w0 B gr gj jc X w:=by rw[hZ];exact⟨hj',hI2,hr',by rw[List.all_append,h1c];rfl⟩
 have hZn:Z.n=n+1:=by rw[hZ]
 have hZp:Z.r.p=r.p:=by rw[hZ]
 clear hm2 hI2 hZ
 by_cases hx0:0≤nx
 ·refine gsc5af_ ?_;clear hs hm a;intros;rename_i a hm hs
  refine st hs rfl rfl rfl (d_call hs rfl rfl rfl (pl 115 rfl) ((wakeS_c w0 B Z gr gj jc X nx 0 _ hZM.rebase hZi hB (by omega)))) ?_;clear hs a;rintro _ w3 ⟨y2,hy1,hy2,hn2,hjs2,hjv2,hp2⟩ a hs
  repeat refine sc_ ?_
  refine gEnd tab hs rfl .nil ?_
  exact⟨y2,hy1,hZM.trans hy2,by omega,hp2.trans hZp⟩
 ·refine gsc5af_ ?_;clear hs hm a;intros;rename_i a hm hs
  refine gEnd tab hs rfl .nil ?_
  exact⟨Z,hZi,hZM,by omega,hZp⟩
theorem called_c [HB](w0:World)(B:Int)(z:RS)(gr gj jc:Nat)(X:List Hp)(q:RqV)(wB:World)(hM:Mm (own (z.M gr gj jc X)) wB (z.M gr gj jc X) wB)(hI:z.inv w0 B gr gj jc X wB)(hB:B≤1000000000)(hn:z.n≤900)(hq:q.ok wB)(hqn:q.no (z.M gr gj jc X))(hqb:q.bd wB)(hqv:q.val)(hqk:q.kin)(hst:q.stop=1):Ret Tryz.prog 92 [pt gr,q.v] wB (fun _ w'=>∃y:RS,y.inv w0 B gr gj jc X w'∧Mm (own (z.M gr gj jc X)) wB (y.M gr gj jc X) w'∧y.n≤z.n+2∧y.r.p=z.r.p):=by
 by_cases ha:q.call=9
 ·exact called9_c w0 B z gr gj jc X q wB hM hI hB hn hq hqn hqb hqv hqk hst ha
 ·exact calledN_c w0 B z gr gj jc X q wB hM hI hB hn hq hqn hqb hqv hqk hst ha
theorem RS.inv.step [HB]{z:RS}{w0 w w':World}{B:Int}{gr gj jc:Nat}{X:List Hp}(h:z.inv w0 B gr gj jc X w)(hm:Mm (own (z.M gr gj jc X)) w (z.M gr gj jc X) w'):z.inv w0 B gr gj jc X w':=⟨h.j,h.i.step hm,h.row,h.one⟩
theorem Mm.nown{M M':List Hp}{w w':World}{g:Nat}(hm:Mm (own M) w M' w')(h:g<w.heap.size∧¬own M g):g<w'.heap.size∧¬own M' g:=⟨Nat.lt_of_lt_of_le h.1 hm.fr.size,fun hg=>by
 rcases hm.own_ hg with h1|h1
 ·have:=h.1;omega
 ·exact h.2 h1⟩
structure EdX where
 i:Nat
 z:RS
theorem ended_c [HB](w0:World)(B:Int)(z:RS)(gr gj jc:Nat)(X:List Hp)(t:Nat)(wB:World)(hM:Mm (own (z.M gr gj jc X)) wB (z.M gr gj jc X) wB)(hI:z.inv w0 B gr gj jc X wB)(hB:B≤1000000000)(hn:z.n≤900)(ht:t<4):Ret Tryz.prog 93 [pt gr,.int .i64 (t:Int)] wB (fun _ w'=>∃y:RS,y.inv w0 B gr gj jc X w'∧Mm (own (z.M gr gj jc X)) wB (y.M gr gj jc X) w'∧y.n≤z.n+8∧y.r.p=z.r.p):=by
 obtain⟨r,js,jv,rA,n,rc,es,rcs⟩:=z
 obtain⟨hj,hi,hrow,h1c⟩:=hI
 unfold RS.M at*
 dsimp only at*
 have hm0:=hM
 obtain⟨M0,hM0⟩:∃M0,r.hp gr (slv rA n rc) (.slice (some ⟨gj,0,none⟩) 4 jc)::⟨some gj,3,jv⟩::⟨rA,177,rcs⟩::X=M0:=⟨_,rfl⟩
 rw[hM0]at hi hM ⊢
 replace hm0:Mm (own M0) wB (r.hp gr (slv rA n rc) (.slice (some ⟨gj,0,none⟩) 4 jc)::⟨some gj,3,jv⟩::⟨rA,177,rcs⟩::X) wB:=by rw[hM0];exact hM
 have kdr:∀(w:World)(M':List Hp),Mm (own M0) wB M' w→Ret Tryz.prog 116 [.agg #[.slice r.k.o.A r.k.o.n r.k.o.c,.slice r.k.qA r.k.qs.length r.k.qc],.int .i64 (t:Int)] w (fun u w'=>∃(y:KS)(nA:Option Nat)(nc:Nat)(ncs:List Value)(l:List Int),u= .tuple #[.agg #[.slice y.o.A y.o.n y.o.c,.slice y.qA y.qs.length y.qc],slv nA l.length nc]∧Row nA l.length nc 1 (ints l) ncs∧New w w' [⟨nA,3,ncs⟩]∧l.length≤4∧LkR y w w'∧Pu w w'):=fun w M' hm=>rdrop_c r.k t w (hi.k.at_ hm) hi.kv
 unfold RD.hp RD.cs at hm0
 refine enterR Tryz.func93 rfl rfl rfl fun a hs hm=>?_
 clear hm
 have hm:=hm0
 refine gsce98_ ?_;clear hs hm a;intros;rename_i a hm hs
 refine st hs rfl rfl rfl (d_call hs rfl rfl rfl (pl 116 rfl) ((kdr _ _ hm))) ?_;clear hs a;rintro _ w1 ⟨y,nA,nc,ncs,l,rfl,hlr,hN,hl4,hk,hf⟩ a hs
 have hI1:=(hi.step hm).set_k hm hf hk
 have hRl:St (⟨some gr,87,(r.p.cl (r.y.cl (slv r.y.tA r.y.ts.length r.y.tc::r.o.cl (r.o.f.cl [.slice r.o.us.A r.o.us.us.length r.o.us.c,.slice r.k.o.A r.k.o.n r.k.o.c,.slice r.k.qA r.k.qs.length r.k.qc,slv rA n rc,.slice (some ⟨gj,0,none⟩) 4 jc]))))⟩::⟨some gj,3,jv⟩::⟨rA,177,rcs⟩::X) (fun v=>Rd v v.heap.size (ad nA) (ints l)) w1:=St.of_new hm hf hN (fun S w0 w M hm hM=>hm.rd_row (hM _ (List.mem_singleton.2 rfl)) hlr)
 have hnl:∀gn,nA=some gn→gn<w1.heap.size∧¬own (⟨some gr,87,(r.p.cl (r.y.cl (slv r.y.tA r.y.ts.length r.y.tc::r.o.cl (r.o.f.cl [.slice r.o.us.A r.o.us.us.length r.o.us.c,.slice r.k.o.A r.k.o.n r.k.o.c,.slice r.k.qA r.k.qs.length r.k.qc,slv rA n rc,.slice (some ⟨gj,0,none⟩) 4 jc]))))⟩::⟨some gj,3,jv⟩::⟨rA,177,rcs⟩::X) gn:=fun gn e=>⟨Hp.lt (hN.me _ (List.mem_singleton.2 rfl)) e,fun hg=>by
  have h1:=hm.own_lt hg
  have h2:=hN.fresh _ (List.mem_singleton.2 rfl) gn e
  omega⟩
 have hmB:=hm.pu hf
 clear hN hf hk hm kdr
 have hm:=hmB.rebase
 refine gsce98_ ?_;clear hs hm a;intros;rename_i w a hm hs
 obtain⟨g4,rfl⟩:=hs.pp 4
 have hmK:Mm (own (⟨some gr,87,(r.p.cl (r.y.cl (slv r.y.tA r.y.ts.length r.y.tc::r.o.cl (r.o.f.cl [.slice r.o.us.A r.o.us.us.length r.o.us.c,.slice r.k.o.A r.k.o.n r.k.o.c,.slice r.k.qA r.k.qs.length r.k.qc,slv rA n rc,.slice (some ⟨gj,0,none⟩) 4 jc]))))⟩::⟨some gj,3,jv⟩::⟨rA,177,rcs⟩::X)) w1 (⟨some gr,87,(r.p.cl (r.y.cl (slv r.y.tA r.y.ts.length r.y.tc::r.o.cl (r.o.f.cl [.slice r.o.us.A r.o.us.us.length r.o.us.c,.slice y.o.A y.o.n y.o.c,.slice y.qA y.qs.length y.qc,slv rA n rc,.slice (some ⟨gj,0,none⟩) 4 jc]))))⟩::⟨some gj,3,jv⟩::⟨rA,177,rcs⟩::X) w:=hm.sub sub_
 obtain⟨Z,hZ⟩:∃Z:RS,Z=⟨{r with k:=y},js,jv,rA,n,rc,es,rcs⟩:=⟨_,rfl⟩
 have hZe:Z.M gr gj jc X=⟨some gr,87,(r.p.cl (r.y.cl (slv r.y.tA r.y.ts.length r.y.tc::r.o.cl (r.o.f.cl [.slice r.o.us.A r.o.us.us.length r.o.us.c,.slice y.o.A y.o.n y.o.c,.slice y.qA y.qs.length y.qc,slv rA n rc,.slice (some ⟨gj,0,none⟩) 4 jc]))))⟩::⟨some gj,3,jv⟩::⟨rA,177,rcs⟩::X:=by rw[hZ];rfl
 have hZi:Z.inv w0 B gr gj jc X w:=by rw[hZ];exact⟨hj,hI1.step hmK,hrow,h1c⟩
 have hZm:Mm (own M0) wB (Z.M gr gj jc X) w:=by rw[hZe];exact hmB.trans hmK
 have hZl:St (Z.M gr gj jc X) (fun v=>Rd v v.heap.size (ad nA) (ints l)) w:=by rw[hZe];exact hRl.step hmK
 have hZn:∀gn,nA=some gn→gn<w.heap.size∧¬own (Z.M gr gj jc X) gn:=fun gn e=>by rw[hZe];exact hmK.nown (hnl gn e)
 have hZ1:Z.n=n:=by rw[hZ]
 have hZ2:Z.r.p=r.p:=by rw[hZ]
 clear hRl hnl hm hmK hZe hZ hI1
 refine cMidE (.exit 0) (fun a w=>∃Y:RS,Y.inv w0 B gr gj jc X w∧Y.n≤n+4∧Y.r.p=r.p∧Sl Tryz.f93.ntmps [(0,pt gr),(1,.int .i64 (t:Int))] a∧Mm (own M0) wB (Y.M gr gj jc X) w) ?_ ?_
 ·refine cLoop (X:=EdX) (fun Y a w=>Y.i≤l.length∧Y.z.inv w0 B gr gj jc X w∧Y.z.n=n+Y.i∧Y.z.r.p=r.p∧St (Y.z.M gr gj jc X) (fun v=>Rd v v.heap.size (ad nA) (ints l)) w∧(∀gn,nA=some gn→gn<w.heap.size∧¬own (Y.z.M gr gj jc X) gn)∧Sl Tryz.f93.ntmps [(0,pt gr),(1,.int .i64 (t:Int)),(23,slv nA l.length nc),(24,.int .i64 (l.length:Int)),(25,.int .i64 (Y.i:Int))] a∧Mm (own M0) wB (Y.z.M gr gj jc X) w) (fun Y=>l.length-Y.i) ⟨0,Z⟩ ⟨Nat.zero_le _,hZi,hZ1,hZ2,hZl,hZn,(sb_ hs),hZm⟩ ?_
  clear hs hZm hZl hZn hZi hZ1 hZ2 hmB a
  rintro⟨i,Y⟩ a w ⟨hil,hYi,hYn,hYp,hYl,hYo,hs,hmB⟩
  dsimp only at hil hYi hYn hYp hYl hYo hs hmB
  by_cases hlt:i<l.length
  ·obtain⟨b,o,hA,hb,r4⟩:=Rd.ro hYl.now (by rw[ints_len];omega)
   have hA2:nA=some b∧0=o:=by
    cases nA with
    |none=>simp[ad]at hA
    |some g=>simpa[ad]using hA
   obtain⟨hA3,rfl⟩:=hA2
   have hno:=(hYo b hA3).2
   have e1:=ints_some (xs:=l) (k:=i) hlt
   have hm:=hmB.rebase
   rw[hA3]at hs
   refine gsce98_ ?_;clear hs hm a;intros;rename_i a hm hs
   refine st hs rfl rfl rfl (d_call hs rfl rfl rfl (pl 115 rfl) ((wakeS_c w0 B Y gr gj jc X _ 0 _ hm.rebase (hYi.step hm) hB (by omega)))) ?_;clear hs a;rintro _ w3 ⟨y2,hy1,hy2,hn2,hjs2,hjv2,hp2⟩ a hs
   replace hm:=hm.trans hy2
   refine gsce98_ ?_;clear hs hm a;intros;rename_i a hm hs
   rw[←hA3]at hs
   have hm3:=hm
   exact⟨⟨i+1,y2⟩,by dsimp only;omega,⟨by dsimp only;omega,hy1,by dsimp only;omega,hp2.trans hYp,hYl.step hm3,fun gn e=>hm3.nown (hYo gn e),(sb_ hs),hmB.trans hm3⟩⟩
  ·obtain rfl:i=l.length:=by omega
   have hm:=hmB
   refine gsce98_ ?_;clear hs hm a;intros;rename_i w a hm hs
   exact And.intro rfl ⟨Y,hYi,by omega,hYp,(sb_ hs),hmB⟩
 clear hs hZm hZl hZn hZi hZ1 hZ2 hmB a
 rintro a w ⟨Z2,hZi,hZn,hZp,hs,hmB⟩
 obtain⟨M1,hM1⟩:∃M1,Z2.M gr gj jc X=M1:=⟨_,rfl⟩
 have hm:Mm (own M1) w (Z2.M gr gj jc X) w:=by rw[←hM1];exact hmB.rebase
 unfold RS.M RD.hp RD.cs at hm
 refine gsce98_ ?_;clear hs hm a;intros;rename_i a hm hs
 refine cLoop (X:=EdX) (fun Y a w=>Y.i≤4∧Y.z.inv w0 B gr gj jc X w∧Y.z.n≤n+4+Y.i∧Y.z.r.p=r.p∧Sl Tryz.f93.ntmps [(0,pt gr),(1,.int .i64 (t:Int)),(36,.slice (some ⟨gj,0,none⟩) 4 jc),(37,.int .i64 ((4:Nat):Int)),(38,.int .i64 (Y.i:Int))] a∧Mm (own M0) wB (Y.z.M gr gj jc X) w) (fun Y=>4-Y.i) ⟨0,Z2⟩ ⟨Nat.zero_le _,hZi,by dsimp only;omega,hZp,(sb_ hs),hmB⟩ ?_
 clear hs hm hmB hZi hZn hZp hM1 a
 rintro⟨i,Y⟩ a w ⟨hil,hYi,hYn,hYp,hs,hmB⟩
 dsimp only at hil hYi hYn hYp hs hmB
 obtain⟨M1,hM1⟩:∃M1,Y.M gr gj jc X=M1:=⟨_,rfl⟩
 have hm:Mm (own M1) w (Y.M gr gj jc X) w:=by rw[←hM1];exact hmB.rebase
 unfold RS.M RD.hp RD.cs at hm
 by_cases hlt:i<4
 ·obtain⟨v,hv⟩:∃v,Y.js[i]?=some v:=⟨_,List.getElem?_eq_getElem (by have:=hYi.j.xl;rw[ints_len]at this;omega)⟩
  have hcell:Y.jv[i]?=some (.int .i64 v):=hYi.j.get (by unfold ints;rw[List.getElem?_map,hv];rfl)
  have hjl:=hYi.j.len
  have hjc:=hYi.j.le
  by_cases hvt:v=(t:Int)
  ·obtain⟨h4,gt,hgt,hngt,hmv⟩:=hYi.i.gt
   rw[hM1]at hngt
   have r3:=MO.thr hmv hgt (k:=t) (by omega)
   generalize Y.r.y.ts[t]'_=qk at r3
   unfold ThO.v at r3
   rw[hgt]at hm
   refine gsce98_ ?_;clear hs hm a;intros;rename_i w a hm hs
   rw[←hgt]at hm
   have hmM:Mm (own (Y.M gr gj jc X)) w (Y.M gr gj jc X) w:=by
    have h:Mm (own M1) w (Y.M gr gj jc X) w:=hm
    rw[←hM1]at h
    exact h
   refine st hs rfl rfl rfl (d_call hs rfl rfl rfl (pl 115 rfl) ((wakeS_c w0 B Y gr gj jc X _ _ _ hmM.rebase (hYi.step hmM) hB (by omega)))) ?_;clear hs a;rintro _ w3 ⟨y2,hy1,hy2,hn2,hjs2,hjv2,hp2⟩ a hs
   have hm3:=(hmB.trans hmM).trans hy2
   obtain⟨M2,hM2⟩:∃M2,y2.M gr gj jc X=M2:=⟨_,rfl⟩
   clear hm
   have hm:Mm (own M2) w3 (y2.M gr gj jc X) w3:=by rw[←hM2];exact hm3.rebase
   unfold RS.M RD.hp RD.cs at hm
   rw[hjv2]at hm
   refine gsce98_ ?_;clear hs hm a;intros;rename_i w a hm hs
   have hmF:Mm (own M2) w3 (RS.M {y2 with js:=Y.js.set i (-1),jv:=Y.jv.set i (.int .i64 (-1))} gr gj jc X) w:=by
    exact hm
   have hmG:Mm (own (y2.M gr gj jc X)) w3 (RS.M {y2 with js:=Y.js.set i (-1),jv:=Y.jv.set i (.int .i64 (-1))} gr gj jc X) w:=by
    have h:=hmF
    rw[←hM2]at h
    exact h
   exact⟨⟨i+1,{y2 with js:=Y.js.set i (-1),jv:=Y.jv.set i (.int .i64 (-1))}⟩,by dsimp only;omega,⟨by dsimp only;omega,⟨by dsimp only;rw[show ints (Y.js.set i (-1))=(ints Y.js).set i (.int .i64 (-1))from List.map_set];exact hYi.j.set _ _,hy1.i.step hmG,hy1.row,hy1.one⟩,by dsimp only;omega,hp2.trans hYp,(sb_ hs),hm3.trans hmG⟩⟩
  ·refine gsce98_ ?_;clear hs hm a;intros;rename_i a hm hs
   exact⟨⟨i+1,Y⟩,by dsimp only;omega,⟨by dsimp only;omega,hYi,by dsimp only;omega,hYp,(sb_ hs),hmB⟩⟩
 ·obtain rfl:i=4:=by omega
  refine gsce98_ ?_;clear hs hm a;intros;rename_i a hm hs
  refine gEnd tab hs rfl .nil ?_
  exact⟨Y,hYi,hmB,by omega,hYp⟩
theorem copied_c(r:RD)(eA:Option Addr)(ec n:Nat)(es:List Value)(jA:Option Addr)(jd:Nat)(js:List Int)(wB:World)(he:Rd wB wB.heap.size eA es)(hel:es.length=n*18)(h1:es.all (·.oneCell')=true)(hj:Rd wB wB.heap.size jA (ints js))(hjl:js.length=4)(hn:n≤1000):Ret Tryz.prog 90 [.agg #[.slice r.p.cA r.p.code.length r.p.cc,.slice r.p.sA r.p.ss.length r.p.sc,.slice r.p.dA r.p.ws.length r.p.dc,slv r.y.bA r.y.bs.length r.y.bc,.int .u16 r.y.key,slv r.y.m.cA r.y.m.xs.length r.y.m.cc,slv r.y.m.lA r.y.m.ls.length r.y.m.lc,slv r.y.tA r.y.ts.length r.y.tc,.slice r.o.ck.A r.o.ck.xs.length r.o.ck.c,.slice r.o.rn.A r.o.rn.xs.length r.o.rn.c,.slice r.o.ins.A r.o.ins.qs.length r.o.ins.c,.slice r.o.f.dA r.o.f.ds.length r.o.f.dc,.slice r.o.f.oA r.o.f.os.length r.o.f.oc,.slice r.o.us.A r.o.us.us.length r.o.us.c,.slice r.k.o.A r.k.o.n r.k.o.c,.slice r.k.qA r.k.qs.length r.k.qc,.slice eA n ec,.slice jA 4 jd]] wB (fun u w'=>∃(gj jc:Nat)(jv:List Value)(rA:Option Nat)(rc:Nat)(rcs:List Value),u= .agg #[.slice r.p.cA r.p.code.length r.p.cc,.slice r.p.sA r.p.ss.length r.p.sc,.slice r.p.dA r.p.ws.length r.p.dc,slv r.y.bA r.y.bs.length r.y.bc,.int .u16 r.y.key,slv r.y.m.cA r.y.m.xs.length r.y.m.cc,slv r.y.m.lA r.y.m.ls.length r.y.m.lc,slv r.y.tA r.y.ts.length r.y.tc,.slice r.o.ck.A r.o.ck.xs.length r.o.ck.c,.slice r.o.rn.A r.o.rn.xs.length r.o.rn.c,.slice r.o.ins.A r.o.ins.qs.length r.o.ins.c,.slice r.o.f.dA r.o.f.ds.length r.o.f.dc,.slice r.o.f.oA r.o.f.os.length r.o.f.oc,.slice r.o.us.A r.o.us.us.length r.o.us.c,.slice r.k.o.A r.k.o.n r.k.o.c,.slice r.k.qA r.k.qs.length r.k.qc,slv rA n rc,.slice (some ⟨gj,0,none⟩) 4 jc]∧Row (some gj) 4 jc 1 (ints js) jv∧Row rA n rc 18 es rcs∧New wB w' [⟨some gj,3,jv⟩,⟨rA,177,rcs⟩]∧Pu wB w'):=by
 refine enterR Tryz.func90 rfl rfl rfl fun a hs hm=>?_
 refine gsc5af_ ?_;clear hs hm a;intros;rename_i a hm hs
 replace hm:=hm.zero 3
 refine dv hs (Wnt.none rfl) rfl rfl (d_appendS (A:=none) (n:=0) (c:=0) (m:=4) (xs:=[]) (news:=ints js) hs rfl rfl rfl rfl tab rfl rfl rfl rfl rfl hm mem_ (Row.empty 1) (by rw[ints_len,hjl];rfl) (hm.fr.rd' hj) (ints_one _) (by decide) (by decide)) ?_
 clear hs
 rintro _ w4 ⟨A2,c2,cs2,rfl,hr2,hM⟩ a hs
 replace hm:=hM _ rep_
 clear hM
 rw[Nat.zero_add,List.nil_append]at hr2
 rw[Nat.zero_add]at hs
 obtain⟨gj,rfl⟩:=hr2.some_ (by omega)
 refine gsc5af_ ?_;clear hs hm a;intros;rename_i a hm hs
 replace hm:=hm.zero 177
 refine dv hs (Wnt.none rfl) rfl rfl (d_appendS (A:=none) (n:=0) (c:=0) (m:=n) (xs:=[]) (news:=es) hs rfl rfl rfl rfl tab rfl rfl rfl rfl rfl hm mem_ (Row.empty 18) hel (hm.fr.rd' he) h1 (by show(0+n)*184≤_;omega) (by omega)) ?_
 clear hs
 rintro _ w4 ⟨rA,rc,rcs,rfl,hr3,hM⟩ a hs
 replace hm:=hM _ rep_
 clear hM
 rw[Nat.zero_add,List.nil_append]at hr3
 rw[Nat.zero_add]at hs
 refine gsc5af_ ?_;clear hs hm a;intros;rename_i a hm hs
 obtain⟨g2,rfl⟩:=hs.pp 2
 exact gRetN tab hs rfl (.cons (.cells rfl rfl rfl rfl (hm.ro (k:=0) (n:=18) (g:=g2) mem_ (cutF_ok rfl))) .nil) ⟨gj,c2,cs2,rA,rc,rcs,rfl,hr2,hr3,(hm.perm (List.Perm.swap _ _ _)).new sub_,hm.fr⟩
theorem delT_val [HB]{q:ThD}{B:Int}(h:q.val B)(hc:canT q=true):(delT q).val B:=by
 unfold canT at hc
 simp only[Bool.and_eq_true,decide_eq_true_eq,Bool.not_eq_true',decide_eq_false_iff_not]at hc
 have h1:=h.han
 have h3:=HB.le
 have h2:=h.pc
 exact⟨h.st,h.n,by unfold delT;dsimp only;omega,h.cnt,h.han,by unfold delT;dsimp only;omega,h.trp,h.cod,h.cv⟩
theorem delF_val [HB]{d:MD}{ss:List Int}{B:Int}(t:Int)(h:d.val ss B):(delF d t).val ss B:=by
 unfold delF
 by_cases hc:canS d t=true
 ·rw[if_pos hc]
  cases hq:d.ts[t.toNat]? with
  |none=>exact h
  |some q=>
   have hcq:canT q=true:=by
    unfold canS at hc
    rw[hq]at hc
    simp only[Bool.and_eq_true]at hc
    exact hc.2
   refine⟨h.gap,h.key,h.n,h.l,by dsimp only;rw[List.length_set];exact h.t,h.cv,h.ll,fun y hy=>?_⟩
   dsimp only at hy
   rcases List.mem_or_eq_of_mem_set hy with hy|rfl
   ·exact h.tt y hy
   ·exact delT_val (h.tt q (List.mem_of_getElem? hq)) hcq
 ·rw[if_neg hc];exact h
theorem gpSib0_{G H:Prop}(k:H)(s:Bx H→G:=by intro k_;(repeat(first|(refine ovR_ ?_;(try clear hs a);intro a hs)|((with_reducible apply lCons);first|(refine dv hs gw_ rfl rfl da_ ?_;(try clear hs hm a);rintro _ w_ ⟨g_,rfl,-,hm⟩ a hs)|(refine stn hs rfl rfl ds_ ?_;(try clear hs hm a);rintro-w_ hm a hs))|refine sc_ ?_));have m_:=hm;have s_:=hs;clear hs;(try clear hm);revert m_ s_ a;(try revert w_);(repeat revert g_);exact k_.h):G:=s ⟨k⟩
theorem gcSib1_{G H:Prop}(k:H)(s:Bx H→G:=by intro k_;(repeat(first|(refine ovR_ ?_;(try clear hs a);intro a hs)|((with_reducible apply lCons);first|(refine dv hs gw_ rfl rfl da_ ?_;(try clear hs hm a);rintro _ w_ ⟨g_,rfl,-,hm⟩ a hs)|(refine stn hs rfl rfl ds_ ?_;(try clear hs hm a);rintro-w_ hm a hs))|refine sc_ ?_|((with_reducible apply lCons);first|(refine dvc hs hm gw_ rfl rfl rfl rfl rfl (pl 14 rfl) (kc2 _ _ (hmB.trans hm)) ?_;(try clear hs hm a);intro w_ hm a hs))));(first|(have m_:=hm;have s_:=hs;clear hs;(try clear hm);revert m_ s_ a)|((first|refine rexc_ hs hm ?_|refine rexl_ hs hm ?_|refine rexg_ hs hm ?_|refine rexq_ hs hm ?_);intro a hm hs;revert hm hs a));(try revert w_);(repeat revert g_);exact k_.h):G:=s ⟨k⟩
theorem rdyS_c [HB](y:MO)(ss:List Int)(B:Int)(w:World)(hx:y.mv.ok w)(hv:y.d.val ss B):Ret Tryz.prog 89 [slv y.tA y.ts.length y.tc] w (fun u w'=>∃(D:Option Addr)(d:Nat)(js:List Int),u= .slice D js.length d∧Rd w' w'.heap.size D (ints js)∧(∀b o,D=some ⟨b,o,none⟩→w.heap.size≤b)∧js.length≤4∧(∀j∈js,∃(k:Nat)(q:ThD),k<4∧j=(k:Int)∧y.d.ts[k]?=some q∧q.st=1)∧Pu w w'):=by
 have h4:y.ts.length=4:=by have:=hv.t;rwa[MO.d_len]at this
 have h:=trdy_c (ad y.tA) y.tc (y.ts.map ThO.tv) w hx.t (by rw[List.length_map];omega)
 rw[show slv y.tA y.ts.length y.tc= .slice (ad y.tA) (y.ts.map ThO.tv).length y.tc by rw[List.length_map];rfl]
 refine h.mono fun u w' ⟨D,d,js,h1,h2,h3,h5,h6,h7⟩=>⟨D,d,js,h1,h2,h3,by rw[List.length_map]at h5;omega,fun j hj=>?_,h7⟩
 obtain⟨k,hk,hjk,hst⟩:=h6 j hj
 rw[List.length_map]at hk
 rw[List.getElem_map]at hst
 exact⟨k,(y.ts[k]).d,by omega,hjk,MO.d_ts y hk,hst⟩
theorem RS.out [HB]{z:RS}{w0 wB w:World}{B:Int}{S:Nat→Prop}{gr gj jc:Nat}{X:List Hp}(h:z.inv w0 B gr gj jc X w)(hm:Mm S wB (z.M gr gj jc X) w)(hl:z.js.length=4):RV.inv ⟨z.r,ad z.rA,z.rc,z.n,z.es,some ⟨gj,0,none⟩,jc,z.js⟩ w0 B X w:=by
 unfold RS.M at hm
 have h1:Mm S wB (X++[⟨z.rA,177,z.rcs⟩]) w:=(hm.sub (M':=[⟨z.rA,177,z.rcs⟩]++X) (List.Sublist.cons _ (List.Sublist.cons _ (List.Sublist.refl _)))).perm List.perm_append_comm
 have h2:Mm S wB (X++[⟨some gj,3,z.jv⟩]) w:=(hm.sub (M':=[⟨some gj,3,z.jv⟩]++X) (List.Sublist.cons _ (List.Sublist.cons_cons _ (List.Sublist.cons _ (List.Sublist.refl _))))).perm List.perm_append_comm
 exact⟨h.i.sub (List.Sublist.cons _ (List.Sublist.cons _ (List.Sublist.cons _ (List.Sublist.refl _)))),St.of_on h1 (zrow_on h.row),h.row.xl,h.one,St.of_on h2 (zrow_on h.j),hl⟩
theorem next_c [HB](w0:World)(B:Int)(z:RV)(X:List Hp)(th br:Int)(sg:Bool)(wB:World)(hM:Mm (own X) wB X wB)(hZ:z.inv w0 B X wB)(hB:B≤900000000):Ret Tryz.prog 52 [z.v,.agg #[.int .i64 th,.int .i64 br,.bool sg]] wB (fun u w'=>∃(f:Nat→Option Addr × Nat × Nat)(k e:Int),u= .tuple #[.agg (runV f k).toArray,.int .i64 e]∧Mm (own X) wB X w'∧(e=0→∃y:RV,y.cs=runV f k∧y.inv w0 (B+20000) X w'∧y.r.p=z.r.p)):=by
 obtain⟨r,eA,ec,n,es,jA,jd,js⟩:=z
 obtain⟨hI,he,hel,h1c,hj,hjl⟩:=hZ
 dsimp only at hI he hel h1c hj hjl ⊢
 unfold RV.v RV.cs RD.cs
 dsimp only
 have hss:=hI.pv.sz
 have hsm:=hI.yv.sm hss
 have h4:r.y.ts.length=4:=hI.gt.1
 have kr:∀(w:World)(M':List Hp),Mm (own X) wB M' w→Ret Tryz.prog 89 [slv r.y.tA r.y.ts.length r.y.tc] w (fun u w'=>∃(D:Option Addr)(d:Nat)(js:List Int),u= .slice D js.length d∧Rd w' w'.heap.size D (ints js)∧(∀b o,D=some ⟨b,o,none⟩→w.heap.size≤b)∧js.length≤4∧(∀j∈js,∃(k:Nat)(q:ThD),k<4∧j=(k:Int)∧r.y.d.ts[k]?=some q∧q.st=1)∧Pu w w'):=fun w M' hm=>rdyS_c r.y r.p.ss B w (MO.of_new (hI.y.at_ hm) hI.yo) hI.yv
 have kcp:∀(w:World)(M':List Hp),Mm (own X) wB M' w→n≤1000→_:=fun w M' hm hn=>copied_c r eA ec n es jA jd js w (he.at_ hm) hel h1c (hj.at_ hm) hjl hn
 have kcn:∀(w:World)(M':List Hp)(t:Int),Mm (own X) wB M' w→Ret Tryz.prog 14 [r.y.v,.int .i64 t] w (fun u w'=>u= .bool (canS r.y.d t)∧Pu w w'):=fun w M' t hm=>by
  have h:=rcan_c r.y.mv t w (MO.of_new (hI.y.at_ hm) hI.yo) (by rw[MO.mv_d];exact hsm)
  rwa[MO.mv_v,MO.mv_d]at h
 have kdl:∀(w:World)(M':List Hp)(t:Int),Mm (own X) wB M' w→Ret Tryz.prog 12 [r.y.v,.int .i64 t] w (fun u w'=>∃y:MO,u= .tuple #[y.v,.bool (canS r.y.d t)]∧y.ok∧y.d=delF r.y.d t∧New w w' y.hps∧Pu w w'):=fun w M' t hm=>by
  have h:=rdel_c r.y.mv t w (MO.of_new (hI.y.at_ hm) hI.yo) (by rw[MO.mv_d];exact hsm)
  rwa[MO.mv_v,MO.mv_d]at h
 have ktk:∀(y:MO)(t:Nat)(nb:Int)(q0:ThD)(w:World)(M':List Hp),Mm (own X) wB M' w→y.mv.ok w→y.ok→y.d.val r.p.ss B→t<4→(1≤nb∧nb≤64)→y.d.ts[t]?=some q0→q0.st=1→Ret Tryz.prog 91 [r.p.v,y.v,.int .i64 (t:Int),.int .i64 nb] w (fun u w'=>∃(z:MO)(q:RqV)(R:List Hp),u= .tuple #[z.v,q.v,.int .i64 0]∧z.ok∧z.d.val r.p.ss (B+20000)∧(∀(S:Nat→Prop)(w0 w:World)(M:List Hp),Mm S w0 M w→(∀h∈R,h∈M)→q.ok w)∧q.val∧(q.stop=1→q.kin)∧q.th=(t:Int)∧(∀b o n,q.a.A=some ⟨b,o,n⟩∨q.d.A=some ⟨b,o,n⟩→own R b)∧New w w' (R++z.hps)∧Pu w w'):=fun y t nb q0 w M' hm hok yo yv ht hn hq hst=>by
  have hyb:=yo.b.le
  have h:=take_c r.p y.mv B t nb q0 w (hI.p.at_ hm) hI.pv hok (by rw[MO.mv_d];exact yv) hyb (by omega) ht hn (by rw[MO.mv_d];exact hq) hst
  rwa[MO.mv_v]at h
 unfold MO.v at kcn kdl ktk
 unfold PV.v RqV.v at ktk
 refine enterR Tryz.func52 rfl rfl rfl fun a hs hm=>?_
 clear hm
 have hm:=hM
 refine gsce98_ ?_;clear hs hm a;intros;rename_i a hm hs
 refine st hs rfl rfl rfl (d_call hs rfl rfl rfl (pl 89 rfl) ((kr _ _ hm))) ?_;clear hs a;rintro _ w1 ⟨D,d,ts,rfl,hts,htf,ht4,htk,hf⟩ a hs
 have hnD:∀b o,D=some ⟨b,o,none⟩→∀M',(∀g,own M' g→g<w1.heap.size∧False)→¬own M' b:=fun b o e M' h hg=>(h b hg).2
 clear hnD
 have hlt:=fun g (h:own _ g)=>hm.own_lt h
 have hmB:=hm.pu hf
 obtain⟨g2,rfl⟩:=hs.pp 2
 obtain⟨g3,rfl⟩:=hs.pp 3
 obtain⟨g4,rfl⟩:=hs.pp 4
 by_cases h0:ts.length=0
 ·replace hm:=hmB
  rw[h0]at hs
  refine gsce98_ ?_;clear hs hm a;intros;rename_i a hm hs
  exact gRetN tab hs rfl (.cons (.cells rfl rfl rfl rfl (hm.ro (k:=0) (n:=18) (g:=g4) mem_ (cutF_ok rfl))) (.cons (.tmp rfl) .nil)) ⟨nof,0,_,rfl,hm.sub sub_,fun h=>by cases h⟩
 obtain⟨bD,oD,hD,hbD,rD⟩:=hts.ro (by rw[ints_len];omega)
 have hng:=fun(h:own _ bD)=>Nat.lt_irrefl _ (Nat.lt_of_lt_of_le (hlt bD h) (htf bD oD hD))
 clear hf htf
 obtain⟨M1,hM1⟩:∃M1,⟨some g4,87,[nS,nS,nS,nS,.int .u16 0,nS,nS,nS,nS,nS,nS,nS,nS,nS,nS,nS,nS,nS]⟩::⟨some g3,124,[.int .i64 th,.int .i64 br,.bool sg]⟩::⟨some g2,87,(r.p.cl (r.y.cl (slv r.y.tA r.y.ts.length r.y.tc::r.o.cl (r.o.f.cl [.slice r.o.us.A r.o.us.us.length r.o.us.c,.slice r.k.o.A r.k.o.n r.k.o.c,.slice r.k.qA r.k.qs.length r.k.qc,.slice eA n ec,.slice jA 4 jd]))))⟩::X=M1:=⟨_,rfl⟩
 have hm0:Mm (own M1) w1 (⟨some g4,87,[nS,nS,nS,nS,.int .u16 0,nS,nS,nS,nS,nS,nS,nS,nS,nS,nS,nS,nS,nS]⟩::⟨some g3,124,[.int .i64 th,.int .i64 br,.bool sg]⟩::⟨some g2,87,(r.p.cl (r.y.cl (slv r.y.tA r.y.ts.length r.y.tc::r.o.cl (r.o.f.cl [.slice r.o.us.A r.o.us.us.length r.o.us.c,.slice r.k.o.A r.k.o.n r.k.o.c,.slice r.k.qA r.k.qs.length r.k.qc,.slice eA n ec,.slice jA 4 jd]))))⟩::X) w1:=by rw[←hM1];exact hmB.rebase
 replace hmB:Mm (own X) wB M1 w1:=by rw[←hM1];exact hmB
 replace hng:¬own M1 bD:=by rw[←hM1];exact hng
 clear hm hlt
 have hm:=hm0
 clear hm0
 by_cases h192:(n:Int)>192
 ·refine gsce98_ ?_;clear hs hm a;intros;rename_i a hm hs
  obtain⟨g4,rfl⟩:=hs.pp 4
  exact gRetN tab hs rfl (.cons (.cells rfl rfl rfl rfl (hm.ro (k:=0) (n:=18) (g:=g4) mem_ (cutF_ok rfl))) (.cons (.tmp rfl) .nil)) ⟨nof,0,_,rfl,(hmB.trans hm).sub sub_,fun h=>by cases h⟩
 have hmd:=modF_bd th (m:=(ts.length:Int)) (by omega)
 obtain⟨i,hi⟩:∃i:Nat,modF th (ts.length:Int)=(i:Int):=⟨(modF th (ts.length:Int)).toNat,by omega⟩
 have hil:i<ts.length:=by omega
 have e1:=ints_some (xs:=ts) (k:=i) hil
 obtain⟨t,q0,ht,htt,hq0,hst⟩:=htk ts[i] (List.getElem_mem hil)
 rw[htt]at e1
 have hme:=modF_bd br (m:=64) (by omega)
 obtain⟨nb,hnb⟩:∃nb:Nat,1+modF br 64=(nb:Int):=⟨(1+modF br 64).toNat,by omega⟩
 have hnb2:(1:Int)≤(nb:Int)∧(nb:Int)≤64:=by omega
 have km1:=fun w=>rmod_c th (ts.length:Int) w (by omega) (by omega)
 have km2:=fun w=>rmod_c br 64 w (by omega) (by omega)
 rw[hi]at km1
 generalize modF br 64=br' at hnb km2
 rw[hD]at hs
 repeat(first|(refine gpSib0_ ?_;clear hs hm a;intros;rename_i a hm hs)|refine sc_ ?_|((with_reducible apply lCons);first|(refine dvc hs hm gw_ rfl rfl rfl rfl rfl (pl 22 rfl) (km1 _) ?_;clear hs hm a;intro w hm a hs)|(refine dvc hs hm gw_ rfl rfl rfl rfl rfl (pl 22 rfl) (km2 _) ?_;clear hs hm a;intro w hm a hs)))
 refine st hs rfl rfl rfl (d_call hs rfl rfl rfl (pl 90 rfl) ((kcp _ _ (hmB.trans hm) (by omega)))) ?_;clear hs a;rintro _ w3 ⟨gj,jc,jv,rA,rc,rcs,rfl,hjr,hrr,hN,hf⟩ a hs
 replace hm:=hm.gain hf hN
 clear hN hf
 simp only[List.cons_append,List.nil_append]at hm
 refine gs730d_ ?_;clear hs hm a;intros;rename_i a hm hs
 obtain⟨g9,rfl⟩:=hs.pp 9
 with_reducible apply lNilThen
 with_reducible apply wp_seq
 have hI1:RnI w0 B _ r _:=hI.step (hmB.trans hm)
 refine cMid (fun a w=>∃(y:MO)(q1:ThD)(rA:Option Nat)(m rc:Nat)(es rcs:List Value),y.ok∧y.d.val r.p.ss B∧y.d.ts[t]?=some q1∧q1.st=1∧Row rA m rc 18 es rcs∧es.all (·.oneCell')=true∧m≤n+1∧RnI w0 B (⟨some g9,87,(r.p.cl (y.cl (slv y.tA y.ts.length y.tc::r.o.cl (r.o.f.cl [.slice r.o.us.A r.o.us.us.length r.o.us.c,.slice r.k.o.A r.k.o.n r.k.o.c,.slice r.k.qA r.k.qs.length r.k.qc,slv rA m rc,.slice (some ⟨gj,0,none⟩) 4 jc]))))⟩::⟨some gj,3,jv⟩::⟨rA,177,rcs⟩::⟨some g4,87,[nS,nS,nS,nS,.int .u16 0,nS,nS,nS,nS,nS,nS,nS,nS,nS,nS,nS,nS,nS]⟩::⟨some g3,124,[.int .i64 th,.int .i64 br,.bool sg]⟩::⟨some g2,87,(r.p.cl (r.y.cl (slv r.y.tA r.y.ts.length r.y.tc::r.o.cl (r.o.f.cl [.slice r.o.us.A r.o.us.us.length r.o.us.c,.slice r.k.o.A r.k.o.n r.k.o.c,.slice r.k.qA r.k.qs.length r.k.qc,.slice eA n ec,.slice jA 4 jd]))))⟩::X) {r with y:=y} w∧Sl Tryz.f52.ntmps [(4,pt g4),(7,.int .i64 (t:Int)),(8,.int .i64 (nb:Int)),(9,pt g9)] a∧Mm (own M1) w1 (⟨some g9,87,(r.p.cl (y.cl (slv y.tA y.ts.length y.tc::r.o.cl (r.o.f.cl [.slice r.o.us.A r.o.us.us.length r.o.us.c,.slice r.k.o.A r.k.o.n r.k.o.c,.slice r.k.qA r.k.qs.length r.k.qc,slv rA m rc,.slice (some ⟨gj,0,none⟩) 4 jc]))))⟩::⟨some gj,3,jv⟩::⟨rA,177,rcs⟩::⟨some g4,87,[nS,nS,nS,nS,.int .u16 0,nS,nS,nS,nS,nS,nS,nS,nS,nS,nS,nS,nS,nS]⟩::⟨some g3,124,[.int .i64 th,.int .i64 br,.bool sg]⟩::⟨some g2,87,(r.p.cl (r.y.cl (slv r.y.tA r.y.ts.length r.y.tc::r.o.cl (r.o.f.cl [.slice r.o.us.A r.o.us.us.length r.o.us.c,.slice r.k.o.A r.k.o.n r.k.o.c,.slice r.k.qA r.k.qs.length r.k.qc,.slice eA n ec,.slice jA 4 jd]))))⟩::X) w) ?_ ?_
 ·cases sg
  ·refine gsce98_ ?_;clear hs hm a;intros;rename_i a hm hs
   exact And.intro rfl ⟨r.y,q0,rA,n,rc,es,rcs,hI.yo,hI.yv,hq0,hst,hrr,h1c,by omega,hI.step (hmB.trans hm),(sb_ hs),hm⟩
  ·cases hc:canS r.y.d (t:Int)
   ·rw[show(Value.bool false)= .bool false from rfl]at*
    have kc2:∀(w:World)(M':List Hp),Mm (own X) wB M' w→_:=fun w M' hm=>kcn w M' (t:Int) hm
    rw[hc]at kc2
    refine gcSib1_ ?_;clear hs hm a;intros;rename_i a hm hs
    exact And.intro rfl ⟨r.y,q0,rA,n,rc,es,rcs,hI.yo,hI.yv,hq0,hst,hrr,h1c,by omega,hI.step (hmB.trans hm),(sb_ hs),hm⟩
   ·have kc2:∀(w:World)(M':List Hp),Mm (own X) wB M' w→_:=fun w M' hm=>kcn w M' (t:Int) hm
    rw[hc]at kc2
    refine gcSib1_ ?_;clear hs hm a;intros;rename_i a hm hs
    refine st hs rfl rfl rfl (d_call hs rfl rfl rfl (pl 12 rfl) ((kdl _ _ _ (hmB.trans hm)))) ?_;clear hs a;rintro _ w4 ⟨y,rfl,yo,yd,hN,hf⟩ a hs
    have yv:y.d.val r.p.ss B:=by rw[yd];exact delF_val _ hI.yv
    have hI2:=(hI.step (hmB.trans hm)).set_y hm hf (.inr hN) yo yv
    have hmC:=hm.pu hf
    clear hm hN hf
    obtain⟨M2,hM2⟩:∃M2,⟨some g9,87,(r.p.cl (r.y.cl (slv r.y.tA r.y.ts.length r.y.tc::r.o.cl (r.o.f.cl [.slice r.o.us.A r.o.us.us.length r.o.us.c,.slice r.k.o.A r.k.o.n r.k.o.c,.slice r.k.qA r.k.qs.length r.k.qc,slv rA n rc,.slice (some ⟨gj,0,none⟩) 4 jc]))))⟩::⟨some gj,3,jv⟩::⟨rA,177,rcs⟩::⟨some g4,87,[nS,nS,nS,nS,.int .u16 0,nS,nS,nS,nS,nS,nS,nS,nS,nS,nS,nS,nS,nS]⟩::⟨some g3,124,[.int .i64 th,.int .i64 br,.bool true]⟩::⟨some g2,87,(r.p.cl (r.y.cl (slv r.y.tA r.y.ts.length r.y.tc::r.o.cl (r.o.f.cl [.slice r.o.us.A r.o.us.us.length r.o.us.c,.slice r.k.o.A r.k.o.n r.k.o.c,.slice r.k.qA r.k.qs.length r.k.qc,.slice eA n ec,.slice jA 4 jd]))))⟩::X=M2:=⟨_,rfl⟩
    have hm:Mm (own M2) w4 (⟨some g9,87,(r.p.cl (r.y.cl (slv r.y.tA r.y.ts.length r.y.tc::r.o.cl (r.o.f.cl [.slice r.o.us.A r.o.us.us.length r.o.us.c,.slice r.k.o.A r.k.o.n r.k.o.c,.slice r.k.qA r.k.qs.length r.k.qc,slv rA n rc,.slice (some ⟨gj,0,none⟩) 4 jc]))))⟩::⟨some gj,3,jv⟩::⟨rA,177,rcs⟩::⟨some g4,87,[nS,nS,nS,nS,.int .u16 0,nS,nS,nS,nS,nS,nS,nS,nS,nS,nS,nS,nS,nS]⟩::⟨some g3,124,[.int .i64 th,.int .i64 br,.bool true]⟩::⟨some g2,87,(r.p.cl (r.y.cl (slv r.y.tA r.y.ts.length r.y.tc::r.o.cl (r.o.f.cl [.slice r.o.us.A r.o.us.us.length r.o.us.c,.slice r.k.o.A r.k.o.n r.k.o.c,.slice r.k.qA r.k.qs.length r.k.qc,.slice eA n ec,.slice jA 4 jd]))))⟩::X) w4:=by rw[←hM2];exact hmC.rebase
    have hI3:RnI w0 B M2 {r with y:=y} w4:=by rw[←hM2];exact hI2
    have hmD:Mm (own M1) w1 M2 w4:=by rw[←hM2];exact hmC
    clear hI2 hmC
    refine gsce98_ ?_;clear hs hm a;intros;rename_i a hm hs
    refine dv hs (Wnt.none rfl) rfl rfl (d_append (A:=rA) (n:=n) (c:=rc) (news:=[.int .i64 3,.int .i64 (t:Int),.int .i64 0,.int .i64 0,.int .i64 0,.int .i64 0,.int .i64 0,.int .i64 0,.int .i64 0,nS,nS,.int .u8 0,.int .u16 0,.int .i64 0,.int .i64 0,nS,.int .i64 0,.bool false]) hs rfl rfl rfl rfl rfl tab rfl rfl rfl rfl rfl hm mem_ hrr rfl (hm.ro (n:=18) mem_ (cutF_ok rfl)) rfl (by show(n+1)*184≤_;omega) (by omega)) ?_
    clear hs
    rintro _ w5 ⟨rA2,rc2,rcs2,rfl,hr2,hM'⟩ a hs
    replace hm:=hM' _ rep_
    clear hM'
    refine gsce98_ ?_;clear hs hm a;intros;rename_i a hm hs
    have hm3:=hm.sub (M':=(⟨some g9,87,(r.p.cl (y.cl (slv y.tA y.ts.length y.tc::r.o.cl (r.o.f.cl [.slice r.o.us.A r.o.us.us.length r.o.us.c,.slice r.k.o.A r.k.o.n r.k.o.c,.slice r.k.qA r.k.qs.length r.k.qc,slv rA2 (n+1) rc2,.slice (some ⟨gj,0,none⟩) 4 jc]))))⟩::⟨some gj,3,jv⟩::⟨rA2,177,rcs2⟩::⟨some g4,87,[nS,nS,nS,nS,.int .u16 0,nS,nS,nS,nS,nS,nS,nS,nS,nS,nS,nS,nS,nS]⟩::⟨some g3,124,[.int .i64 th,.int .i64 br,.bool true]⟩::⟨some g2,87,(r.p.cl (r.y.cl (slv r.y.tA r.y.ts.length r.y.tc::r.o.cl (r.o.f.cl [.slice r.o.us.A r.o.us.us.length r.o.us.c,.slice r.k.o.A r.k.o.n r.k.o.c,.slice r.k.qA r.k.qs.length r.k.qc,.slice eA n ec,.slice jA 4 jd]))))⟩::X)) sub_
    have hqd:y.d.ts[t]?=some (delT q0):=by
     rw[yd]
     unfold delF
     rw[if_pos hc,Int.toNat_natCast,hq0]
     dsimp only
     rw[List.getElem?_set_self (by
      rcases Nat.lt_or_ge t r.y.d.ts.length with h|h
      ·exact h
      ·rw[List.getElem?_eq_none h]at hq0;cases hq0)]
    exact And.intro rfl ⟨y,delT q0,rA2,n+1,rc2,es++[.int .i64 3,.int .i64 (t:Int),.int .i64 0,.int .i64 0,.int .i64 0,.int .i64 0,.int .i64 0,.int .i64 0,.int .i64 0,nS,nS,.int .u8 0,.int .u16 0,.int .i64 0,.int .i64 0,nS,.int .i64 0,.bool false],rcs2,yo,yv,hqd,hst,hr2,by rw[List.all_append,h1c];rfl,by omega,hI3.step hm3,(sb_ hs),hmD.trans hm3⟩
 clear hs hm hI1 hrr rA rc rcs kcn kdl kcp a
 rintro a w ⟨y,q1,rA,m,rc,es',rcs,yo,yv,hq1,hq1s,hrr,h1e,hmn,hI1,hs,hm⟩
 refine gsce98_ ?_;clear hs hm a;intros;rename_i a hm hs
 refine st hs rfl rfl rfl (d_call hs rfl rfl rfl (pl 91 rfl) ((ktk y t nb q1 _ _ (hmB.trans hm) (MO.of_new hI1.y.now yo) yo yv ht hnb2 hq1 hq1s))) ?_;clear hs a;rintro _ w4 ⟨z,q,R,rfl,zo,zv,hq,hqv,hqk,hqt,hqR,hN,hf⟩ a hs
 have hNz:New _ w4 z.hps:=⟨fun x hx=>hN.me x (List.mem_append_right _ hx),hN.dj.sub (List.sublist_append_right _ _),fun x hx=>hN.fresh x (List.mem_append_right _ hx)⟩
 have hNR:New _ w4 R:=⟨fun x hx=>hN.me x (List.mem_append_left _ hx),hN.dj.sub (List.sublist_append_left _ _),fun x hx=>hN.fresh x (List.mem_append_left _ hx)⟩
 have hI2:=(hI1.up (C:=B+20000) (by omega)).set_y hm hf (.inr hNz) zo zv
 have hq4:q.ok w4:=hq _ _ _ _ hNR.mm1 (fun _ h=>h)
 have hqn4:q.no (⟨some g9,87,(r.p.cl (y.cl (slv y.tA y.ts.length y.tc::r.o.cl (r.o.f.cl [.slice r.o.us.A r.o.us.us.length r.o.us.c,.slice r.k.o.A r.k.o.n r.k.o.c,.slice r.k.qA r.k.qs.length r.k.qc,slv rA m rc,.slice (some ⟨gj,0,none⟩) 4 jc]))))⟩::⟨some gj,3,jv⟩::⟨rA,177,rcs⟩::⟨some g4,87,[nS,nS,nS,nS,.int .u16 0,nS,nS,nS,nS,nS,nS,nS,nS,nS,nS,nS,nS,nS]⟩::⟨some g3,124,[.int .i64 th,.int .i64 br,.bool sg]⟩::⟨some g2,87,(r.p.cl (r.y.cl (slv r.y.tA r.y.ts.length r.y.tc::r.o.cl (r.o.f.cl [.slice r.o.us.A r.o.us.us.length r.o.us.c,.slice r.k.o.A r.k.o.n r.k.o.c,.slice r.k.qA r.k.qs.length r.k.qc,.slice eA n ec,.slice jA 4 jd]))))⟩::X):=fun b o n e hg=>by
  obtain⟨x,hx,e2⟩:=hqR b o n e
  have h1:=hNR.fresh x hx b e2
  have h2:=hm.own_lt hg
  omega
 have hqb4:q.bd w4:=fun b o n e=>hNR.own_lt (hqR b o n e)
 have hmC:=(hmB.trans hm).pu hf
 clear hm hN hf hNz hNR hq hqR hI1 ktk hmB
 obtain⟨M2,hM2⟩:∃M2,⟨some g9,87,(r.p.cl (y.cl (slv y.tA y.ts.length y.tc::r.o.cl (r.o.f.cl [.slice r.o.us.A r.o.us.us.length r.o.us.c,.slice r.k.o.A r.k.o.n r.k.o.c,.slice r.k.qA r.k.qs.length r.k.qc,slv rA m rc,.slice (some ⟨gj,0,none⟩) 4 jc]))))⟩::⟨some gj,3,jv⟩::⟨rA,177,rcs⟩::⟨some g4,87,[nS,nS,nS,nS,.int .u16 0,nS,nS,nS,nS,nS,nS,nS,nS,nS,nS,nS,nS,nS]⟩::⟨some g3,124,[.int .i64 th,.int .i64 br,.bool sg]⟩::⟨some g2,87,(r.p.cl (r.y.cl (slv r.y.tA r.y.ts.length r.y.tc::r.o.cl (r.o.f.cl [.slice r.o.us.A r.o.us.us.length r.o.us.c,.slice r.k.o.A r.k.o.n r.k.o.c,.slice r.k.qA r.k.qs.length r.k.qc,.slice eA n ec,.slice jA 4 jd]))))⟩::X=M2:=⟨_,rfl⟩
 have hm:Mm (own M2) w4 (⟨some g9,87,(r.p.cl (y.cl (slv y.tA y.ts.length y.tc::r.o.cl (r.o.f.cl [.slice r.o.us.A r.o.us.us.length r.o.us.c,.slice r.k.o.A r.k.o.n r.k.o.c,.slice r.k.qA r.k.qs.length r.k.qc,slv rA m rc,.slice (some ⟨gj,0,none⟩) 4 jc]))))⟩::⟨some gj,3,jv⟩::⟨rA,177,rcs⟩::⟨some g4,87,[nS,nS,nS,nS,.int .u16 0,nS,nS,nS,nS,nS,nS,nS,nS,nS,nS,nS,nS,nS]⟩::⟨some g3,124,[.int .i64 th,.int .i64 br,.bool sg]⟩::⟨some g2,87,(r.p.cl (r.y.cl (slv r.y.tA r.y.ts.length r.y.tc::r.o.cl (r.o.f.cl [.slice r.o.us.A r.o.us.us.length r.o.us.c,.slice r.k.o.A r.k.o.n r.k.o.c,.slice r.k.qA r.k.qs.length r.k.qc,.slice eA n ec,.slice jA 4 jd]))))⟩::X) w4:=by rw[←hM2];exact hmC.rebase
 have hI3:RnI w0 (B+20000) M2 {r with y:=z} w4:=by rw[←hM2];exact hI2
 have hmD:Mm (own X) wB M2 w4:=by rw[←hM2];exact hmC
 rw[hM2]at hqn4
 clear hI2 hmC
 refine gsce98_ ?_;clear hs hm a;intros;rename_i a hm hs
 obtain⟨g10,rfl⟩:=hs.pp 10
 obtain⟨g11,rfl⟩:=hs.pp 11
 refine dv hs (Wnt.none rfl) rfl rfl (d_append (A:=rA) (n:=m) (c:=rc) (news:=[.int .i64 1,.int .i64 (t:Int),.int .i64 (nb:Int),.int .i64 q.th,.int .i64 q.stop,.int .i64 q.trap,.int .i64 q.cnt,.int .i64 q.pc,.int .i64 q.call,.slice q.a.A q.a.xs.length q.a.c,.slice q.d.A q.d.xs.length q.d.c,.int .u8 0,.int .u16 0,.int .i64 0,.int .i64 0,nS,.int .i64 0,.bool false]) hs rfl rfl rfl rfl rfl tab rfl rfl rfl rfl rfl hm mem_ hrr rfl (hm.ro (n:=18) mem_ (cutF_ok rfl)) rfl (by show(m+1)*184≤_;omega) (by omega)) ?_
 clear hs
 rintro _ w5 ⟨rA2,rc2,rcs2,rfl,hr2,hM'⟩ a hs
 replace hm:=hM' _ rep_
 clear hM'
 refine gs730d_ ?_;clear hs hm a;intros;rename_i a hm hs
 with_reducible apply lNilThen
 with_reducible apply wp_seq
 obtain⟨X2,hX2⟩:∃X2,⟨some g11,173,[.int .i64 q.th,.int .i64 q.stop,.int .i64 q.trap,.int .i64 q.cnt,.int .i64 q.pc,.int .i64 q.call,.slice q.a.A q.a.xs.length q.a.c,.slice q.d.A q.d.xs.length q.d.c]⟩::⟨some g10,32,(z.cl [slv z.tA z.ts.length z.tc])⟩::⟨some g4,87,[nS,nS,nS,nS,.int .u16 0,nS,nS,nS,nS,nS,nS,nS,nS,nS,nS,nS,nS,nS]⟩::⟨some g3,124,[.int .i64 th,.int .i64 br,.bool sg]⟩::⟨some g2,87,(r.p.cl (r.y.cl (slv r.y.tA r.y.ts.length r.y.tc::r.o.cl (r.o.f.cl [.slice r.o.us.A r.o.us.us.length r.o.us.c,.slice r.k.o.A r.k.o.n r.k.o.c,.slice r.k.qA r.k.qs.length r.k.qc,.slice eA n ec,.slice jA 4 jd]))))⟩::X=X2:=⟨_,rfl⟩
 obtain⟨Z,hZ⟩:∃Z:RS,Z=⟨{r with y:=z},js,jv,rA2,m+1,rc2,es'++[.int .i64 1,.int .i64 (t:Int),.int .i64 (nb:Int),.int .i64 q.th,.int .i64 q.stop,.int .i64 q.trap,.int .i64 q.cnt,.int .i64 q.pc,.int .i64 q.call,.slice q.a.A q.a.xs.length q.a.c,.slice q.d.A q.d.xs.length q.d.c,.int .u8 0,.int .u16 0,.int .i64 0,.int .i64 0,nS,.int .i64 0,.bool false],rcs2⟩:=⟨_,rfl⟩
 have hZe:Z.M g9 gj jc X2=⟨some g9,87,(r.p.cl (z.cl (slv z.tA z.ts.length z.tc::r.o.cl (r.o.f.cl [.slice r.o.us.A r.o.us.us.length r.o.us.c,.slice r.k.o.A r.k.o.n r.k.o.c,.slice r.k.qA r.k.qs.length r.k.qc,slv rA2 (m+1) rc2,.slice (some ⟨gj,0,none⟩) 4 jc]))))⟩::⟨some gj,3,jv⟩::⟨rA2,177,rcs2⟩::⟨some g11,173,[.int .i64 q.th,.int .i64 q.stop,.int .i64 q.trap,.int .i64 q.cnt,.int .i64 q.pc,.int .i64 q.call,.slice q.a.A q.a.xs.length q.a.c,.slice q.d.A q.d.xs.length q.d.c]⟩::⟨some g10,32,(z.cl [slv z.tA z.ts.length z.tc])⟩::⟨some g4,87,[nS,nS,nS,nS,.int .u16 0,nS,nS,nS,nS,nS,nS,nS,nS,nS,nS,nS,nS,nS]⟩::⟨some g3,124,[.int .i64 th,.int .i64 br,.bool sg]⟩::⟨some g2,87,(r.p.cl (r.y.cl (slv r.y.tA r.y.ts.length r.y.tc::r.o.cl (r.o.f.cl [.slice r.o.us.A r.o.us.us.length r.o.us.c,.slice r.k.o.A r.k.o.n r.k.o.c,.slice r.k.qA r.k.qs.length r.k.qc,.slice eA n ec,.slice jA 4 jd]))))⟩::X:=by rw[hZ,←hX2];rfl
 replace hm:=hm.sub (M':=([⟨some g11,173,[.int .i64 q.th,.int .i64 q.stop,.int .i64 q.trap,.int .i64 q.cnt,.int .i64 q.pc,.int .i64 q.call,.slice q.a.A q.a.xs.length q.a.c,.slice q.d.A q.d.xs.length q.d.c]⟩,⟨some g10,32,(z.cl [slv z.tA z.ts.length z.tc])⟩]++[⟨some g9,87,(r.p.cl (z.cl (slv z.tA z.ts.length z.tc::r.o.cl (r.o.f.cl [.slice r.o.us.A r.o.us.us.length r.o.us.c,.slice r.k.o.A r.k.o.n r.k.o.c,.slice r.k.qA r.k.qs.length r.k.qc,slv rA2 (m+1) rc2,.slice (some ⟨gj,0,none⟩) 4 jc]))))⟩,⟨some gj,3,jv⟩,⟨rA2,177,rcs2⟩])++(⟨some g4,87,[nS,nS,nS,nS,.int .u16 0,nS,nS,nS,nS,nS,nS,nS,nS,nS,nS,nS,nS,nS]⟩::⟨some g3,124,[.int .i64 th,.int .i64 br,.bool sg]⟩::⟨some g2,87,(r.p.cl (r.y.cl (slv r.y.tA r.y.ts.length r.y.tc::r.o.cl (r.o.f.cl [.slice r.o.us.A r.o.us.us.length r.o.us.c,.slice r.k.o.A r.k.o.n r.k.o.c,.slice r.k.qA r.k.qs.length r.k.qc,.slice eA n ec,.slice jA 4 jd]))))⟩::X)) (List.Sublist.cons _ (List.Sublist.refl _))
 have hmE:=hm.perm (List.Perm.append_right (⟨some g4,87,[nS,nS,nS,nS,.int .u16 0,nS,nS,nS,nS,nS,nS,nS,nS,nS,nS,nS,nS,nS]⟩::⟨some g3,124,[.int .i64 th,.int .i64 br,.bool sg]⟩::⟨some g2,87,(r.p.cl (r.y.cl (slv r.y.tA r.y.ts.length r.y.tc::r.o.cl (r.o.f.cl [.slice r.o.us.A r.o.us.us.length r.o.us.c,.slice r.k.o.A r.k.o.n r.k.o.c,.slice r.k.qA r.k.qs.length r.k.qc,.slice eA n ec,.slice jA 4 jd]))))⟩::X) (List.perm_append_comm (l₁:=[⟨some g9,87,(r.p.cl (z.cl (slv z.tA z.ts.length z.tc::r.o.cl (r.o.f.cl [.slice r.o.us.A r.o.us.us.length r.o.us.c,.slice r.k.o.A r.k.o.n r.k.o.c,.slice r.k.qA r.k.qs.length r.k.qc,slv rA2 (m+1) rc2,.slice (some ⟨gj,0,none⟩) 4 jc]))))⟩,⟨some gj,3,jv⟩,⟨rA2,177,rcs2⟩]) (l₂:=[⟨some g11,173,[.int .i64 q.th,.int .i64 q.stop,.int .i64 q.trap,.int .i64 q.cnt,.int .i64 q.pc,.int .i64 q.call,.slice q.a.A q.a.xs.length q.a.c,.slice q.d.A q.d.xs.length q.d.c]⟩,⟨some g10,32,(z.cl [slv z.tA z.ts.length z.tc])⟩])))
 replace hmE:Mm (own M2) w4 (⟨some g9,87,(r.p.cl (z.cl (slv z.tA z.ts.length z.tc::r.o.cl (r.o.f.cl [.slice r.o.us.A r.o.us.us.length r.o.us.c,.slice r.k.o.A r.k.o.n r.k.o.c,.slice r.k.qA r.k.qs.length r.k.qc,slv rA2 (m+1) rc2,.slice (some ⟨gj,0,none⟩) 4 jc]))))⟩::⟨some gj,3,jv⟩::⟨rA2,177,rcs2⟩::⟨some g11,173,[.int .i64 q.th,.int .i64 q.stop,.int .i64 q.trap,.int .i64 q.cnt,.int .i64 q.pc,.int .i64 q.call,.slice q.a.A q.a.xs.length q.a.c,.slice q.d.A q.d.xs.length q.d.c]⟩::⟨some g10,32,(z.cl [slv z.tA z.ts.length z.tc])⟩::⟨some g4,87,[nS,nS,nS,nS,.int .u16 0,nS,nS,nS,nS,nS,nS,nS,nS,nS,nS,nS,nS,nS]⟩::⟨some g3,124,[.int .i64 th,.int .i64 br,.bool sg]⟩::⟨some g2,87,(r.p.cl (r.y.cl (slv r.y.tA r.y.ts.length r.y.tc::r.o.cl (r.o.f.cl [.slice r.o.us.A r.o.us.us.length r.o.us.c,.slice r.k.o.A r.k.o.n r.k.o.c,.slice r.k.qA r.k.qs.length r.k.qc,.slice eA n ec,.slice jA 4 jd]))))⟩::X) _:=hmE
 rw[←hZe]at hmE
 have hZi:Z.inv w0 (B+20000) g9 gj jc X2 _:=⟨by rw[hZ];exact hjr,by rw[show Z.r={r with y:=z} by rw[hZ]];exact hI3.step hmE,by rw[hZ];exact hr2,by rw[hZ];dsimp only;rw[List.all_append,h1e];rfl⟩
 have hZp:Z.r.p=r.p:=by rw[hZ]
 have hZn:Z.n≤n+2:=by rw[hZ];dsimp only;omega
 have hqD:=hqn4.step hqb4 hmE
 have hqE:q.ok _:=hq4.own hqn4 hmE
 have hqF:q.bd _:=fun b o n e=>Nat.lt_of_lt_of_le (hqb4 b o n e) hmE.fr.size
 have hmZ:=hmD.trans hmE
 have hmL:=hm
 clear hq4 hqn4 hqb4 hmE hI3 hr2 hmD hm
 refine cMid (fun a w=>∃Y:RS,Y.inv w0 (B+20000) g9 gj jc X2 w∧Y.n≤n+4∧Y.r.p=r.p∧Sl Tryz.f52.ntmps [(4,pt g4),(7,.int .i64 (t:Int)),(9,pt g9)] a∧Mm (own X) wB (Y.M g9 gj jc X2) w) ?_ ?_
 ·by_cases hst1:q.stop=1
  ·have hm:=hmL
   refine gsce98_ ?_;clear hs hm a;intros;rename_i a hm hs
   refine st hs rfl rfl rfl (d_call hs rfl rfl rfl (pl 92 rfl) ((called_c w0 (B+20000) Z g9 gj jc X2 q _ hmZ.rebase hZi (by omega) (by omega) hqE hqD hqF hqv (hqk hst1) hst1))) ?_;clear hs a;rintro _ w6 ⟨Y,hY1,hY2,hY3,hY4⟩ a hs
   have hm:=hmZ.trans hY2
   refine gsce98_ ?_;clear hs hm a;intros;rename_i a hm hs
   exact And.intro rfl ⟨Y,hY1,by omega,hY4.trans hZp,(sb_ hs),hm⟩
  ·have hm:=hmL
   refine gsce98_ ?_;clear hs hm a;intros;rename_i a hm hs
   exact And.intro rfl ⟨Z,hZi,by omega,hZp,(sb_ hs),hmZ⟩
 clear hs hZ hZe hZi hZp hZn hqD hqE hqF hmZ hmL hqv hqk hqt a
 rintro a w ⟨Y,hYi,hYn,hYp,hs,hmB⟩
 with_reducible apply gThen
 with_reducible apply wp_seq
 refine cMid (fun a w=>∃Y:RS,Y.inv w0 (B+20000) g9 gj jc X2 w∧Y.r.p=r.p∧Sl Tryz.f52.ntmps [(4,pt g4),(9,pt g9)] a∧Mm (own X) wB (Y.M g9 gj jc X2) w) ?_ ?_
 ·obtain⟨M3,hM3⟩:∃M3,Y.M g9 gj jc X2=M3:=⟨_,rfl⟩
  have hm:Mm (own M3) w (Y.M g9 gj jc X2) w:=by rw[←hM3];exact hmB.rebase
  unfold RS.M RD.hp RD.cs at hm
  obtain⟨h4,gt,hgt,hngt,hmv⟩:=hYi.i.gt
  rw[hM3]at hngt
  have r3:=MO.thr hmv hgt (k:=t) (by omega)
  generalize Y.r.y.ts[t]'_=qk at r3
  unfold ThO.v at r3
  rw[hgt,h4]at hm
  by_cases hst4:qk.d.st=4
  ·refine gsce98_ ?_;clear hs hm a;intros;rename_i a hm hs
   refine st hs rfl rfl rfl (d_call hs rfl rfl rfl (pl 93 rfl) ((ended_c w0 (B+20000) Y g9 gj jc X2 t _ hmB.rebase hYi (by omega) (by omega) ht))) ?_;clear hs a;rintro _ w6 ⟨Y2,hY1,hY2,hY3,hY4⟩ a hs
   have hmF:=hmB.trans hY2
   repeat refine sc_ ?_
   exact And.intro rfl ⟨Y2,hY1,hY4.trans hYp,(sb_ hs),hmF⟩
  ·refine gsce98_ ?_;clear hs hm a;intros;rename_i w a hm hs
   exact And.intro rfl ⟨Y,hYi,hYp,(sb_ hs),hmB⟩
 clear hs hYi hYn hYp hmB Y a
 rintro a w ⟨Y,hYi,hYp,hs,hmB⟩
 obtain⟨M3,hM3⟩:∃M3,Y.M g9 gj jc X2=M3:=⟨_,rfl⟩
 have hm:Mm (own M3) w (Y.M g9 gj jc X2) w:=by rw[←hM3];exact hmB.rebase
 unfold RS.M RD.hp RD.cs at hm
 rw[←hX2]at hm
 have hYj:RnI w0 (B+20000) M3 Y.r w:=by rw[←hM3];exact hYi.i
 refine gsce98_ ?_;clear hs hm a;intros;rename_i a hm hs
 have hmG:=hm.sub (M':=X) (List.Sublist.cons _ (List.Sublist.cons _ (List.Sublist.cons _ (List.Sublist.cons _ (List.Sublist.cons _ (List.Sublist.cons _ (List.Sublist.cons _ (List.Sublist.cons _ (List.Sublist.refl _)))))))))
 have hmH:=hmB
 rw[hM3]at hmH
 have hjl4:Y.js.length=4:=by have:=hYi.j.xl;rw[ints_len]at this;omega
 have hY2:Y.inv w0 (B+20000) g9 gj jc (⟨some g11,173,[.int .i64 q.th,.int .i64 q.stop,.int .i64 q.trap,.int .i64 q.cnt,.int .i64 q.pc,.int .i64 q.call,.slice q.a.A q.a.xs.length q.a.c,.slice q.d.A q.d.xs.length q.d.c]⟩::⟨some g10,32,(z.cl [slv z.tA z.ts.length z.tc])⟩::⟨some g4,87,(Y.r.p.cl (Y.r.y.cl (slv Y.r.y.tA Y.r.y.ts.length Y.r.y.tc::Y.r.o.cl (Y.r.o.f.cl [.slice Y.r.o.us.A Y.r.o.us.us.length Y.r.o.us.c,.slice Y.r.k.o.A Y.r.k.o.n Y.r.k.o.c,.slice Y.r.k.qA Y.r.k.qs.length Y.r.k.qc,slv Y.rA Y.n Y.rc,.slice (some ⟨gj,0,none⟩) 4 jc]))))⟩::⟨some g3,124,[.int .i64 th,.int .i64 br,.bool sg]⟩::⟨some g2,87,(r.p.cl (r.y.cl (slv r.y.tA r.y.ts.length r.y.tc::r.o.cl (r.o.f.cl [.slice r.o.us.A r.o.us.us.length r.o.us.c,.slice r.k.o.A r.k.o.n r.k.o.c,.slice r.k.qA r.k.qs.length r.k.qc,.slice eA n ec,.slice jA 4 jd]))))⟩::X) _:=⟨hYi.j,hYj.step hm,hYi.row,hYi.one⟩
 have hRV:=(RS.out hY2 hm hjl4).sub (X':=X) (List.Sublist.cons _ (List.Sublist.cons _ (List.Sublist.cons _ (List.Sublist.cons _ (List.Sublist.cons _ (List.Sublist.refl _))))))
 exact gRetN tab hs rfl (.cons (.cells rfl rfl rfl rfl (hm.ro (k:=0) (n:=18) (g:=g4) mem_ (cutF_ok rfl))) (.cons (.tmp rfl) .nil)) ⟨RV.f ⟨Y.r,ad Y.rA,Y.rc,Y.n,Y.es,some ⟨gj,0,none⟩,jc,Y.js⟩,Y.r.y.key,0,rfl,hmH.trans hmG,fun _=>⟨⟨Y.r,ad Y.rA,Y.rc,Y.n,Y.es,some ⟨gj,0,none⟩,jc,Y.js⟩,RV.cs_f _,hRV,hYp⟩⟩
def pgP(p:PgX):PV:=⟨some ⟨p.cA,0,none⟩,p.cc,p.code,some ⟨p.gs,0,none⟩,p.sc,p.ss,ad p.dA,p.dc,p.ws.map WS.rd⟩
theorem pgP_v(p:PgX):(pgP p).v=p.v:=by
 unfold PV.v pgP PgX.v
 dsimp only
 rw[List.length_map]
 rfl
theorem pgP_ok{p:PgX}{w:World}(h:RwsOk p.rows w):(pgP p).ok w:=by
 have h1:=h (some p.cA,p.code.flatMap inV) (List.mem_cons_self ..)
 have h2:=h (some p.gs,ints p.ss) (List.mem_cons_of_mem _ (List.mem_cons_self ..))
 have h3:=h (p.dA,p.ws.map WS.v) (List.mem_cons_of_mem _ (List.mem_cons_of_mem _ (List.mem_cons_self ..)))
 refine⟨h1,h2,?_,fun r hr=>?_⟩
 ·unfold pgP
  dsimp only
  rw[WS.rds_v]
  exact h3
 ·obtain⟨r0,hr0,rfl⟩:=List.mem_map.1 hr
  exact h (r0.A,wds r0.xs) (List.mem_cons_of_mem _ (List.mem_cons_of_mem _ (List.mem_cons_of_mem _ (List.mem_map.2 ⟨r0,hr0,rfl⟩))))
theorem pgP_val [HB]{p:PgX}(h:PgV p)(hN:(p.code.length:Int)≤HB.h+1):(pgP p).val:=by
 refine⟨h.sz,by show(p.ws.map WS.rd).length=_;rw[List.length_map];exact h.wl,fun k k1 k2=>?_,fun r hr=>?_,h.c1,h.c2,h.inv,h.ju,hN⟩
 ·have k1':k<p.ws.length:=by have:k<(p.ws.map WS.rd).length:=k1;rwa[List.length_map]at this
  have:=h.fit k k1' k2
  have e:((pgP p).ws[k]).xs=(p.ws[k]).xs:=by
   show((p.ws.map WS.rd)[k]'(by rw[List.length_map];exact k1')).xs=_
   rw[List.getElem_map];rfl
  rw[e]
  exact this
 ·obtain⟨r0,hr0,rfl⟩:=List.mem_map.1 hr
  exact h.bd r0 hr0
theorem pgP_st{p:PgX}{M:List Hp}{w:World}{N:Nat}(h:RwsOk p.rows w)(hg:RwsGe p.rows N)(hM:∀g,own M g→g<N):St M (pgP p).ok w:=fun w' M' hm=>pgP_ok fun r hr=>rdD hm.fr (h r hr) fun g o e hw=>by
 cases hA:r.1 with
 |none=>rw[hA]at e;cases e
 |some g1=>
  have h1:=hg r hr g1 hA
  rw[hA]at e
  have e':g1=g:=by simpa using congrArg (fun x=>x.map Addr.block) e
  subst e'
  have:=hM _ hw
  omega
theorem own_eq{M M':List Hp}{g:Nat}(hg:own M g)(h:M.map Hp.g=M'.map Hp.g):own M' g:=by
 obtain⟨x,hx,e⟩:=hg
 have h1:some g∈M'.map Hp.g:=by rw[←h,←e];exact List.mem_map.2 ⟨x,hx,rfl⟩
 obtain⟨y,hy,e2⟩:=List.mem_map.1 h1
 exact⟨y,hy,e2⟩
theorem St.of_rd{S:Nat→Prop}{w0:World}{M:List Hp}{w:World}{A:Option Addr}{vs:List Value}(_hm:Mm S w0 M w)(h:Rd w w.heap.size A vs)(hn:∀b o,A=some ⟨b,o,none⟩→¬own M b):St M (fun v=>Rd v v.heap.size A vs) w:=fun w' M' hm=>rdD hm.fr h fun g o e=>hn g o e
theorem pgP_st'{S:Nat→Prop}{w0:World}{p:PgX}{M:List Hp}{w:World}{N:Nat}(_hm:Mm S w0 M w)(h:RwsOk p.rows w)(hg:RwsGe p.rows N)(hM:∀g,own M g→g<N):St M (pgP p).ok w:=pgP_st h hg hM
structure PV.btw(p:PV)(lo hi:Nat):Prop where
 c:p.code≠ []→∀b o,p.cA=some ⟨b,o,none⟩→lo≤b∧b<hi
 s:p.ss≠ []→∀b o,p.sA=some ⟨b,o,none⟩→lo≤b∧b<hi
 d:p.ws≠ []→∀b o,p.dA=some ⟨b,o,none⟩→lo≤b∧b<hi
 dd:∀r∈p.ws,r.xs≠ []→∀b o,r.A=some ⟨b,o,none⟩→lo≤b∧b<hi
theorem PV.ok.keep{p:PV}{lo hi:Nat}{S:Nat→Prop}{w w':World}(h:p.ok w)(hb:p.btw lo hi)(hf:Fr S w w')(hn:∀b,lo≤b→b<hi→¬S b):p.ok w':=by
 refine⟨rdV hf h.c fun h0 g o e=>?_,rdV hf h.s fun h0 g o e=>?_,rdV hf h.d fun h0 g o e=>?_,fun r hr=>rdV hf (h.dd r hr) fun h0 g o e=>?_⟩
 ·have:=hb.c (by rintro h1;rw[h1]at h0;exact h0 rfl) g o e
  exact hn g this.1 this.2
 ·have:=hb.s (by rintro h1;rw[h1]at h0;exact h0 rfl) g o e
  exact hn g this.1 this.2
 ·have:=hb.d (by rintro h1;rw[h1]at h0;exact h0 rfl) g o e
  exact hn g this.1 this.2
 ·have:=hb.dd r hr (by rintro h1;rw[h1]at h0;exact h0 rfl) g o e
  exact hn g this.1 this.2
theorem ad_blk{A:Option Nat}{b o:Nat}(h:ad A=some ⟨b,o,none⟩):A=some b:=by
 cases A with
 |none=>cases h
 |some g=>
  have:=congrArg Addr.block (Option.some.inj (show some (⟨g,0,none⟩:Addr)=some ⟨b,o,none⟩from h))
  rw[show g=b from this]
theorem rd_lt{w:World}{A:Option Addr}{vs:List Value}(h:Rd w w.heap.size A vs)(h0:vs≠ []){b o:Nat}(e:A=some ⟨b,o,none⟩):b<w.heap.size:=by
 obtain⟨b1,o1,e1,hb,-⟩:=h.ro (List.length_pos_iff.2 h0)
 rw[e1]at e
 have:=congrArg Addr.block (Option.some.inj e)
 rw[←show b1=b from this]
 exact hb
theorem pgP_btw{p:PgX}{w:World}{N:Nat}(h:RwsOk p.rows w)(hg:RwsGe p.rows N):(pgP p).btw N w.heap.size:=by
 have hok:=pgP_ok h
 have k1:∀A vs,(A,vs)∈p.rows→∀b o,ad A=some ⟨b,o,none⟩→N≤b:=fun A vs hm b o e=>hg (A,vs) hm b (ad_blk e)
 refine⟨fun h0 b o e=>⟨k1 (some p.cA) _ (List.mem_cons_self ..) b o e,rd_lt hok.c ?_ e⟩,fun h0 b o e=>⟨k1 (some p.gs) _ (List.mem_cons_of_mem _ (List.mem_cons_self ..)) b o e,rd_lt hok.s ?_ e⟩,fun h0 b o e=>⟨k1 p.dA _ (List.mem_cons_of_mem _ (List.mem_cons_of_mem _ (List.mem_cons_self ..))) b o e,rd_lt hok.d ?_ e⟩,fun r hr h0 b o e=>?_⟩
 ·intro h1
  have:=congrArg List.length h1
  rw[flat_len inV 5 inV_len]at this
  exact h0 (List.length_eq_zero_iff.1 (by simp only[List.length_nil]at this;omega))
 ·intro h1
  have:=congrArg List.length h1
  rw[ints_len]at this
  exact h0 (List.length_eq_zero_iff.1 (by simpa using this))
 ·intro h1
  have:=congrArg List.length h1
  rw[List.length_map]at this
  exact h0 (List.length_eq_zero_iff.1 (by simpa using this))
 ·have hr':r∈p.ws.map WS.rd:=hr
  obtain⟨r0,hr0,rfl⟩:=List.mem_map.1 hr'
  refine⟨k1 r0.A (wds r0.xs) (List.mem_cons_of_mem _ (List.mem_cons_of_mem _ (List.mem_cons_of_mem _ (List.mem_map.2 ⟨r0,hr0,rfl⟩)))) b o e,rd_lt (hok.dd _ hr) ?_ e⟩
  intro h1
  have:=congrArg List.length h1
  rw[wds_len2]at this
  exact h0 (List.length_eq_zero_iff.1 (by simp only[List.length_nil]at this;omega))
theorem kbg_c [HB](p:PV)(hpv:p.val)(w0:World)(A:Option Addr)(nn c:Nat)(bs ss:List Int)(key:Int)(o:OV)(X:List Hp)(wB:World)(hw:w0.heap.size≤wB.heap.size)(hM:Mm (own X) wB X wB)(hp:St X p.ok wB)(hA:Rd wB wB.heap.size A (ints bs))(hn:nn=p.ss.length)(hss:ss=p.ss)(hg:LGap bs ss)(hnc:nn≤c)(hkey:0≤key∧key≤65535)(ho:o.ok wB)(hov:o.val)(hnum:∀d∈o.f.ds,∀c∈d.xs,NumC c):Ret Tryz.prog 49 [p.v,.agg #[.slice A p.ss.length c,.int .u16 key],o.v] wB (fun u w'=>∃z:RV,u= .tuple #[z.v,.int .i64 0]∧z.inv w0 0 X w'∧z.r.p=p∧Pu wB w'):=by
 subst hn hss
 exact begin_c w0 p A c bs key o X wB hM hw hp hpv hA hnc hg hkey ho hov hnum
structure RnX where
 k:Nat
 a:Nat
 Z:RV
theorem run_c(gd:Nat)(A:Option Addr)(n c at_:Nat)(xs:List Int)(wB:World)(h:Dk gd A n c at_ xs wB):
  Ret Tryz.prog 30 [pt gd] wB (fun u w'=>∃(_:HB)(Z:RV)(a1:Nat)(wp:World),u=Z.v∧HB.h+1=(Z.r.p.code.length:Int)∧Z.inv wp 400000 [dk gd A n c a1] w'∧Z.r.p.btw wB.heap.size wp.heap.size∧wB.heap.size≤wp.heap.size∧Mm (own [dk gd A n c at_]) wB [dk gd A n c a1] w'):=by
 have hgd:=Hp.lt h.sat (g:=gd) rfl
 refine enterR Tryz.func30 rfl rfl rfl fun a hs hm=>?_
 clear hm
 have hm:=h.in_
 refine gsce98_ ?_;clear hs hm a;intros;rename_i a hm hs
 obtain⟨g2,rfl⟩:=hs.pp 2
 refine st hs rfl rfl rfl (d_call hs rfl rfl rfl (pl 48 rfl) ((prg_c gd A n c _ xs _ (h.now hm mem_)))) ?_;clear hs a;rintro _ wp ⟨px,rfl,hpv0,hrw,hge,a1,k1,hf⟩ a hs
 have hlt:=fun g (hg:own _ g)=>hm.own_lt hg
 have hle0:=hm.fr.size
 have hne0:∀b o,(pgP px).sA=some ⟨b,o,none⟩→b≠gd:=fun b o e=>by
  have h1:=hge (some px.gs,ints px.ss) (List.mem_cons_of_mem _ (List.mem_cons_self ..)) px.gs rfl
  have e':px.gs=b:=congrArg Addr.block (Option.some.inj (show some (⟨px.gs,0,none⟩:Addr)=some ⟨b,o,none⟩from e))
  omega
 have hbw:=pgP_btw hrw hge
 replace hm:=hm.dkt rep_ k1 hf
 have hpB:=hm.fr.size
 have hp0:=pgP_st' hm hrw hge fun g hg=>hlt g (own_eq hg rfl)
 obtain⟨hb,hhb⟩:∃hb:HB,hb.h+1=((pgP px).code.length:Int):=⟨⟨(px.code.length:Int)-1,by have:=hpv0.c1;omega,by have:=hpv0.c2;omega⟩,by show(px.code.length:Int)-1+1=(px.code.length:Int);omega⟩
 have hpv:=pgP_val hpv0 (Int.le_of_eq hhb.symm)
 rw[←pgP_v px]at hs
 replace hbw:(pgP px).btw wB.heap.size wp.heap.size:=⟨fun h b o e=>⟨Nat.le_trans hle0 (hbw.c h b o e).1,(hbw.c h b o e).2⟩,fun h b o e=>⟨Nat.le_trans hle0 (hbw.s h b o e).1,(hbw.s h b o e).2⟩,fun h b o e=>⟨Nat.le_trans hle0 (hbw.d h b o e).1,(hbw.d h b o e).2⟩,fun r hr h b o e=>⟨Nat.le_trans hle0 (hbw.dd r hr h b o e).1,(hbw.dd r hr h b o e).2⟩⟩
 generalize pgP px=p at hs hpv hp0 hne0 hbw hhb
 have hmA:=hm
 clear hm hlt hrw hge hf hpv0 k1 px
 have hm:=hmA.rebase
 unfold PV.v at hs
 refine gs730d_ ?_;clear hs hm a;intros;rename_i a hm hs
 with_reducible apply lNilThen
 with_reducible apply wp_seq
 obtain⟨g3,rfl⟩:=hs.pp 3
 have hp1:=hp0.step hm
 have hw1:=hm.fr.size
 have hmB:=hmA.trans hm
 clear hp0 hmA
 have hm1:=hmB.rebase
 clear hm
 have hm:=hm1
 clear hm1
 refine cMid (fun a w=>∃(g4 a1:Nat)(Z:RV),Z.inv wp 0 [⟨some g4,87,Z.cs⟩,⟨some g2,87,[nS,nS,nS,nS,.int .u16 0,nS,nS,nS,nS,nS,nS,nS,nS,nS,nS,nS,nS,nS]⟩,dk gd A n c a1] w∧Z.r.p=p∧Sl Tryz.f30.ntmps [(0,pt gd),(2,pt g2),(4,pt g4)] a∧Mm (own [dk gd A n c at_]) wB [⟨some g4,87,Z.cs⟩,⟨some g2,87,[nS,nS,nS,nS,.int .u16 0,nS,nS,nS,nS,nS,nS,nS,nS,nS,nS,nS,nS,nS]⟩,dk gd A n c a1] w) ?_ ?_
 ·with_reducible repeat(first|apply gThen|apply wp_seq)
  refine cDrawT (n:=14) (.s [1,2,5]<| .e [(0,.e [(3,.e [(4,.x<| .e [(6,.x<| .e [(7,.x<| .s [8,9,10]<| .o 11<| .o 12<| .t 13<| .d),(11,.o 7<| .x<| .s [8,9,10]<| .o 12<| .t 13<| .d)]),(11,.o 6<| .x<| .o 7<| .x<| .s [8,9,10]<| .o 12<| .t 13<| .d)]),(11,.o 4<| .x<| .o 6<| .x<| .o 7<| .x<| .s [8,9,10]<| .o 12<| .t 13<| .d)]),(11,.o 3<| .o 4<| .x<| .o 6<| .x<| .o 7<| .x<| .s [8,9,10]<| .o 12<| .t 13<| .d)]),(3,.e [(0,.e [(4,.x<| .e [(6,.x<| .e [(7,.x<| .s [8,9,10]<| .o 11<| .o 12<| .t 13<| .d),(11,.o 7<| .x<| .s [8,9,10]<| .o 12<| .t 13<| .d)]),(11,.o 6<| .x<| .o 7<| .x<| .s [8,9,10]<| .o 12<| .t 13<| .d)]),(11,.o 4<| .x<| .o 6<| .x<| .o 7<| .x<| .s [8,9,10]<| .o 12<| .t 13<| .d)]),(4,.x<| .e [(0,.e [(6,.x<| .e [(7,.x<| .s [8,9,10]<| .o 11<| .o 12<| .t 13<| .d),(11,.o 7<| .x<| .s [8,9,10]<| .o 12<| .t 13<| .d)]),(11,.o 6<| .x<| .o 7<| .x<| .s [8,9,10]<| .o 12<| .t 13<| .d)]),(6,.x<| .e [(0,.e [(7,.x<| .s [8,9,10]<| .o 11<| .o 12<| .t 13<| .d),(11,.o 7<| .x<| .s [8,9,10]<| .o 12<| .t 13<| .d)]),(11,.o 0<| .o 7<| .x<| .s [8,9,10]<| .o 12<| .t 13<| .d)]),(11,.e [(0,.o 6<| .x<| .o 7<| .x<| .s [8,9,10]<| .o 12<| .t 13<| .d),(6,.x<| .o 0<| .o 7<| .x<| .s [8,9,10]<| .o 12<| .t 13<| .d)])]),(11,.e [(0,.o 4<| .x<| .o 6<| .x<| .o 7<| .x<| .s [8,9,10]<| .o 12<| .t 13<| .d),(4,.x<| .e [(0,.o 6<| .x<| .o 7<| .x<| .s [8,9,10]<| .o 12<| .t 13<| .d),(6,.x<| .o 0<| .o 7<| .x<| .s [8,9,10]<| .o 12<| .t 13<| .d)])])]),(11,.e [(0,.o 3<| .o 4<| .x<| .o 6<| .x<| .o 7<| .x<| .s [8,9,10]<| .o 12<| .t 13<| .d),(3,.e [(0,.o 4<| .x<| .o 6<| .x<| .o 7<| .x<| .s [8,9,10]<| .o 12<| .t 13<| .d),(4,.x<| .e [(0,.o 6<| .x<| .o 7<| .x<| .s [8,9,10]<| .o 12<| .t 13<| .d),(6,.x<| .o 0<| .o 7<| .x<| .s [8,9,10]<| .o 12<| .t 13<| .d)])])])]) [] hm rfl rfl ?_
  clear hm;intro t_ w1_ hm
  repeat' (first|(refine dg9546_ ?_;clear t_ hs hm a;intros;rename_i a hm hs t_)|refine tE t_ ?_|refine tC ?_ ?_|exact tN|intro t_|(refine oDo (i:=4) hs rfl (Wnt.none rfl) rfl rfl (by exact d_call hs rfl rfl rfl (pl 50 rfl) ((lay_c gd A n c _ xs p.sA p.ss.length p.sc p.ss _ (h.now (hmB.trans hm) mem_) rfl hpv.sz (hp1.at_ hm).s hne0))) ?_;clear hs;rintro _ w3 ⟨x,rfl,hly,a2,k2,hf⟩ a hs;(have hnl:=fun b o (e:x.A=some ⟨b,o,none⟩) (hg:own _ b)=>Nat.lt_irrefl _ (Nat.lt_of_lt_of_le (hm.own_lt hg) (hly.new b o e)));(replace hm:=hm.dkt rep_ k2 hf);(clear hf);(have hxl:x.l= .agg #[.slice x.A p.ss.length x.c,.int .u16 x.key]:=by unfold LS.l;rw[hly.n]);(rw[hxl]at hs);replace t_:=tX t_;refine⟨(hm.sub sub_),?_⟩;(refine hRebase hm ?_);(have hp2:=hp1.step hm);(have hw2:=hm.fr.size);(have hmC:=hmB.trans hm);(have hx2:=St.of_rd hm hly.ok.br (fun b o e hg=>hnl b o e (own_eq hg rfl)));(clear hnl);(have hm1:=hm.rebase);(clear hm);(have hm:=hm1);(clear hm1))|(refine oDo (i:=6) hs rfl (Wnt.none rfl) rfl rfl (by exact d_call hs rfl rfl rfl (pl 51 rfl) ((out_c gd A n c _ xs _ (h.now (hmC.trans hm) mem_)))) ?_;clear hs;rintro _ w3 ⟨o,R,a3,rfl,oo,ov,on,hk⟩ a hs;(replace hm:=(hm.deck (R:=R) (hk.perm (List.perm_append_comm (l₁:=R) (l₂:=[_]))) rfl rep_).perm List.perm_append_comm);(clear hk);(simp only[List.cons_append,List.nil_append]at hm);(unfold OV.v at hs);replace t_:=tX t_;refine⟨(hm.sub sub_),?_⟩)|(refine oDo (i:=7) hs rfl (Wnt.none rfl) rfl rfl (by exact d_call hs rfl rfl rfl (pl 49 rfl) ((kbg_c p hpv wp x.A x.n x.c x.bs x.ss x.key o _ _ (Nat.le_trans hw1 (Nat.le_trans hw2 hm.fr.size)) hm.rebase (hp2.step hm) (hx2.at_ hm) hly.n hly.ss hly.gap hly.cap hly.apt.key (oo.now hm (fun z hz=>by simp only[List.mem_cons];simp[hz])) ov on))) ?_;clear hs;rintro _ w4 ⟨Z,rfl,hZ,hZp,hf⟩ a hs;(replace hm:=hm.pu hf);(clear hf);(unfold RV.v RV.cs RD.cs at hs);replace t_:=tX t_;refine⟨(hm.sub sub_),?_⟩;(refine hRebase hm ?_);(have hmD:=hmC.trans hm);(have hm1:=hm.rebase);(clear hm);(have hm:=hm1);(clear hm1))|(refine tD t_ ?_;(obtain⟨g4,rfl⟩:=hs.pp 4);(have hs4:=fun{c1 c2 c3 c4:Hp}=>(List.Sublist.cons_cons c1 (List.Sublist.cons c2 (List.Sublist.cons_cons c3 (List.Sublist.cons_cons c4 (List.nil_sublist R))))));(exact And.intro rfl ⟨g4,_,Z,(hZ.step hm).sub hs4,hZp,(sb_ hs),(hmD.trans hm).sub hs4⟩))|fail)
 clear hs hm a
 rintro a w ⟨g4,a1,Z,hZ,hZp,hs,hm⟩
 refine gsce98_ ?_;clear hs hm a;intros;rename_i a hm hs
 refine st hs rfl rfl rfl (d_call hs rfl rfl rfl (pl 21 rfl) ((nxt_c gd A n c _ xs 16 _ (h.now hm mem_) (by omega) (by omega)))) ?_;clear hs a;rintro _ w1 ⟨r0,rfl,b0,a2,k0,hf⟩ a hs
 have hZ2:=hZ
 have hm1:=hm.dkt rep_ k0 hf (M':=[⟨some g4,87,Z.cs⟩,⟨some g2,87,[nS,nS,nS,nS,.int .u16 0,nS,nS,nS,nS,nS,nS,nS,nS,nS,nS,nS,nS,nS]⟩,dk gd A n c a2])
 have hmR:Mm (own [⟨some g4,87,Z.cs⟩,⟨some g2,87,[nS,nS,nS,nS,.int .u16 0,nS,nS,nS,nS,nS,nS,nS,nS,nS,nS,nS,nS,nS]⟩,dk gd A n c a1]) _ [⟨some g4,87,Z.cs⟩,⟨some g2,87,[nS,nS,nS,nS,.int .u16 0,nS,nS,nS,nS,nS,nS,nS,nS,nS,nS,nS,nS,nS]⟩,dk gd A n c a2] w1:=hm.rebase.dkt rep_ k0 hf
 replace hZ2:=hZ.step hmR
 clear hm hmR hf k0 hZ
 have hm:=hm1
 clear hm1
 obtain⟨k0,hk0⟩:∃k0:Nat,3+(r0:Int)=(k0:Int):=⟨3+r0,by omega⟩
 refine gsce98_ ?_;clear hs hm a;intros;rename_i a hm hs
 refine cLoop (X:=RnX) (fun X a w'=>X.k≤18∧X.Z.r.p=p∧X.Z.inv wp (360000-20000*(X.k:Int)) [⟨some g4,87,X.Z.cs⟩,⟨some g2,87,[nS,nS,nS,nS,.int .u16 0,nS,nS,nS,nS,nS,nS,nS,nS,nS,nS,nS,nS,nS]⟩,dk gd A n c X.a] w'∧Sl Tryz.f30.ntmps [(0,pt gd),(2,pt g2),(4,pt g4),(6,.int .i64 (X.k:Int))] a∧Mm (own [dk gd A n c at_]) wB [⟨some g4,87,X.Z.cs⟩,⟨some g2,87,[nS,nS,nS,nS,.int .u16 0,nS,nS,nS,nS,nS,nS,nS,nS,nS,nS,nS,nS,nS]⟩,dk gd A n c X.a] w') (fun X=>X.k) ⟨k0,a2,Z⟩ ⟨by dsimp only;omega,hZp,hZ2.up (by dsimp only;omega),(sb_ hs),hm⟩ ?_
 clear hs hm a hZ2 hZp hp1 hmB hk0
 rintro⟨k,a1,Z⟩ a w' ⟨hk,hZp,hZ,hs,hmB⟩
 dsimp only at hk hZp hZ hs hmB
 have hmX:=hmB.rebase
 by_cases hk1:0<k
 ·obtain⟨k,rfl⟩:∃j,k=j+1:=⟨k-1,by omega⟩
  have hm:=hmX
  unfold RV.cs RD.cs at hm
  refine gsce98_ ?_;clear hs hm a;intros;rename_i a hm hs
  refine cMid (fun a w=>∃(f:Nat→Option Addr × Nat × Nat)(kk e:Int)(g7 a2:Nat),Sl Tryz.f30.ntmps [(0,pt gd),(2,pt g2),(4,pt g4),(6,.int .i64 ((k+1:Nat):Int)),(7,pt g7),(8,.int .i64 e)] a∧Z.inv wp 400000 [⟨some g7,87,runV f kk⟩,⟨some g4,87,Z.cs⟩,⟨some g2,87,[nS,nS,nS,nS,.int .u16 0,nS,nS,nS,nS,nS,nS,nS,nS,nS,nS,nS,nS,nS]⟩,dk gd A n c a2] w∧(e=0→∃y:RV,y.cs=runV f kk∧y.r.p=p∧y.inv wp (360000-20000*(k:Int)) [⟨some g7,87,runV f kk⟩,⟨some g4,87,Z.cs⟩,⟨some g2,87,[nS,nS,nS,nS,.int .u16 0,nS,nS,nS,nS,nS,nS,nS,nS,nS,nS,nS,nS,nS]⟩,dk gd A n c a2] w)∧Mm (own [dk gd A n c at_]) wB [⟨some g7,87,runV f kk⟩,⟨some g4,87,Z.cs⟩,⟨some g2,87,[nS,nS,nS,nS,.int .u16 0,nS,nS,nS,nS,nS,nS,nS,nS,nS,nS,nS,nS,nS]⟩,dk gd A n c a2] w) ?_ ?_
  ·with_reducible repeat(first|apply gThen|apply wp_seq)
   refine cDrawT (n:=10) (.s [0,1]<| .e [(2,.x<| .e [(3,.x<| .s [4,5,6]<| .o 7<| .o 8<| .t 9<| .d),(7,.o 3<| .x<| .s [4,5,6]<| .o 8<| .t 9<| .d)]),(7,.o 2<| .x<| .o 3<| .x<| .s [4,5,6]<| .o 8<| .t 9<| .d)]) [⟨some g4,87,(Z.r.p.cl (Z.r.y.cl (slv Z.r.y.tA Z.r.y.ts.length Z.r.y.tc::Z.r.o.cl (Z.r.o.f.cl [.slice Z.r.o.us.A Z.r.o.us.us.length Z.r.o.us.c,.slice Z.r.k.o.A Z.r.k.o.n Z.r.k.o.c,.slice Z.r.k.qA Z.r.k.qs.length Z.r.k.qc,.slice Z.eA Z.n Z.ec,.slice Z.jA 4 Z.jd]))))⟩] hm rfl rfl ?_
   clear hm;intro t_ w1_ hm
   repeat' (first|(refine dg9546_ ?_;clear t_ hs hm a;intros;rename_i a hm hs t_)|refine tE t_ ?_|refine tC ?_ ?_|exact tN|intro t_|(refine oDo (i:=2) hs rfl (Wnt.none rfl) rfl rfl (by exact d_call hs rfl rfl rfl (pl 53 rfl) ((cho_c gd A n c _ xs _ (h.now (hmB.trans hm) mem_)))) ?_;clear hs;rintro _ w3 ⟨th,br,sg,rfl,a2,k2,hf⟩ a hs;(replace hm:=hm.dkt rep_ k2 hf);(clear hf);replace t_:=tX t_;refine⟨(hm.sub sub_),?_⟩)|(refine oDo (i:=3) hs rfl (Wnt.none rfl) rfl rfl (by exact d_call hs rfl rfl rfl (pl 52 rfl) ((next_c wp _ Z _ th br sg _ hm.rebase (hZ.step hm) (by omega)))) ?_;clear hs;rintro _ w4 ⟨f,kk,e,rfl,hM',hv⟩ a hs;(replace hm:=hm.trans hM');(clear hM');(unfold runV at hs);replace t_:=tX t_;refine⟨(hm.sub sub_),?_⟩;(refine hRebase hm ?_);(have hZ4:=hZ.step hm);(have hmC:=hmB.trans hm);(have hm1:=hm.rebase);(clear hm);(have hm:=hm1);(clear hm1))|(refine tD t_ ?_;(obtain⟨g7,rfl⟩:=hs.pp 7);(exact And.intro rfl ⟨f,kk,e,g7,_,(sb_ hs),(hZ4.step hm).up (by omega),(fun he=>by obtain⟨y,hy1,hy2,hy3⟩:=hv he;exact⟨y,hy1,hy3.trans hZp,(hy2.step hm).up (by omega)⟩),hmC.trans hm⟩))|fail)
  clear hs hm hmX hmB hZ a
  rintro a w ⟨f,kk,e,g7,a2,hs,hZ,hv,hmB⟩
  have hm:=hmB.rebase
  unfold RV.cs RD.cs runV at hm
  by_cases he:e=0
  ·obtain⟨y,hy1,hy3,hy2⟩:=hv he
   refine gsce98_ ?_;clear hs hm a;intros;rename_i a hm hs
   refine⟨⟨k,a2,y⟩,by dsimp only;omega,by dsimp only;omega,hy3,?_,(sb_ hs),?_⟩
   ·dsimp only
    rw[hy1]
    exact(hy2.step hm).sub (List.Sublist.cons _ (List.Sublist.refl _))
   ·dsimp only
    rw[hy1]
    exact(hmB.trans hm).sub (List.Sublist.cons _ (List.Sublist.refl _))
  ·refine gsce98_ ?_;clear hs hm a;intros;rename_i a hm hs
   exact gRetN tab hs rfl (.cons (.cells rfl rfl rfl rfl (hm.ro (k:=0) (n:=18) (g:=g2) mem_ (cutF_ok rfl))) .nil) ⟨hb,Z,a2,wp,rfl,by rw[hZp];exact hhb,(hZ.step hm).sub (List.Sublist.cons _ (List.Sublist.cons _ (List.Sublist.cons _ (List.Sublist.refl _)))),by rw[hZp];exact hbw,hpB,(hmB.trans hm).sub (List.Sublist.cons _ (List.Sublist.cons _ (List.Sublist.cons _ (List.Sublist.refl _))))⟩
 ·obtain rfl:k=0:=by omega
  have hm:=hmX
  unfold RV.cs RD.cs at hm
  refine gsce98_ ?_;clear hs hm a;intros;rename_i a hm hs
  exact gRetN tab hs rfl (.cons (.cells rfl rfl rfl rfl (hm.ro (k:=0) (n:=18) (g:=g2) mem_ (cutF_ok rfl))) .nil) ⟨hb,Z,a1,wp,rfl,by rw[hZp];exact hhb,((hZ.step hm).up (by omega)).sub (List.Sublist.cons _ (List.Sublist.cons _ (List.Sublist.refl _))),by rw[hZp];exact hbw,hpB,(hmB.trans hm).sub (List.Sublist.cons _ (List.Sublist.cons _ (List.Sublist.refl _)))⟩
theorem dgSij0_{G H:Prop}(k:H)(s:Bx H→G:=by intro k_;(repeat(first|(refine tTake t_ hs rfl (by kernel_rfl) gw_ rfl rfl (by intro w hm;replace hm:Mm _ _ _ w:=hm;(first|exact kvR_|exact r_loadO hs rfl rfl tab rfl rfl rfl hm (by repeat(first|exact mH|apply mT)) (by assumption))) (hm.sub sub_) ?_;(try clear t_ hs a);intro t_ a hs)|(refine tTakeN t_ hs rfl (by kernel_rfl) rfl rfl rfl rfl rfl rfl rfl (hm.sub sub_) ?_;(try clear t_ hs a);intro t_ a hs)|(refine tTakeU t_ hs rfl (by kernel_rfl) rfl rfl rfl rfl rfl rfl (hm.sub sub_) ?_;(try clear t_ hs a);intro t_ a hs)|(refine tE1 t_ ?_;(try clear t_);intro t_)|(refine nx_ t_ rfl ?_;have t_:=t_;first|(refine oDo hs rfl gw_ rfl rfl da_ ?_;(try clear hs hm a);rintro _ w_ ⟨g_,rfl,-,hm⟩ a hs;refine⟨(hm.sub sub_),?_⟩)|(refine oDoN hs rfl gw_ rfl ds_ ?_;(try clear hs hm a);rintro-w_ hm a hs;refine⟨(hm.sub sub_),?_⟩)|(refine oDoV hs rfl gw_ rfl rfl (by(first|exact klR_|exact r_loadO hs rfl rfl tab rfl rfl rfl hm (by repeat(first|exact mH|apply mT)) (by assumption))) ?_;(try clear hs a);intro a hs;refine⟨(hm.sub sub_),?_⟩))));have y_:=t_;clear t_;(first|(have m_:=hm;have s_:=hs;have z_:=y_;clear hs;(try clear hm);revert m_ s_ z_ a)|((first|refine rexd_ hs hm ?_|refine rexb_ hs hm ?_);intro a hm hs;have z_:=y_;revert hm hs z_ a));(try revert w_);(repeat revert g_);exact k_.h):G:=s ⟨k⟩
structure RgX where
 rs:List CO
 qA:Option Nat
 qc:Nat
 qcs:List Value
structure RcX where
 xs:List CN
 A:Option Nat
 c:Nat
 cs:List Value
theorem cns_snoc(xs:List CN)(q:CN):cns xs++q.cs=cns (xs++[q]):=by unfold cns;rw[List.flatMap_append,List.flatMap_singleton]
structure RgOk(rs:List (List CN))(ss:List Int):Prop where
 n:rs.length≤ss.length
 l:∀k (h:k<rs.length) (h':k<ss.length),((rs[k]).length:Int)=ss[k]
 v:∀r∈rs,∀c∈r,c.val
theorem RgOk.snoc{rs:List (List CN)}{ss:List Int}{r:List CN}(h:RgOk rs ss)(hl:rs.length<ss.length)(hr:(r.length:Int)=ss[rs.length])(hv:∀c∈r,c.val):RgOk (rs++[r]) ss:=⟨by rw[List.length_append,List.length_singleton];omega,fun k h1 h2=>by
 rw[List.getElem_append]
 split
 ·exact h.l k _ h2
 ·have hk:k=rs.length:=by rw[List.length_append,List.length_singleton]at h1;omega
  subst hk
  simpa using hr,fun x hx=>by
 rcases List.mem_append.1 hx with hx|hx
 ·exact h.v x hx
 ·rcases List.mem_singleton.1 hx with rfl;exact hv⟩
theorem regs_c [HB](p:PV)(z:MO)(B:Int)(wB:World)(hp:p.ok wB)(hpv:p.val)(hz:z.mv.ok wB)(hv:z.d.val p.ss B):Ret Tryz.prog 54 [.agg #[slv z.m.cA z.m.xs.length z.m.cc,slv z.m.lA z.m.ls.length z.m.lc],.agg #[slv z.bA z.bs.length z.bc,.int .u16 z.key],.slice p.sA p.ss.length p.sc] wB (fun u w'=>∃(rs:List CO)(qA:Option Nat)(qc:Nat)(qcs:List Value),u=slv qA rs.length qc∧Row qA rs.length qc 1 (rs.map CO.v) qcs∧(∀r∈rs,r.ok)∧rs.length=p.ss.length∧RgOk (rs.map CO.xs) p.ss∧New wB w' (⟨qA,93,qcs⟩::rs.map CO.hp)∧Pu wB w'):=by
 have hX:=lsX_ok hp hpv hz (by rw[MO.mv_d];exact hv)
 have hXl:=lsX_l (p:=p) (x:=z.mv) (B:=B) (by rw[MO.mv_d];exact hv)
 have klk:=fun(w'':World) (hf:Pu wB w'') (a:Nat) (ha:a<512)=>lookz_c z p.ss B a w'' (hz.pu hf) hv ha
 have kcn:=fun(w'':World) (hf:Pu wB w'') (c:CV) (hc:c.val)=>cann_c (lsX p z.mv) c w'' (hX.pu hf) hc
 have kcv:=fun(c:CV) (hc:c.val)=>(canN_val hX hc).1
 rw[hXl,lsX_s]at kcn
 generalize lsX p z.mv=XX at kcn kcv
 have hg:=hv.gap
 have hz1:=hpv.sz
 have hzb:=hz.b
 have hs':=hp.s
 have h1:=hz1.one
 have h4:=hz1.four
 obtain⟨bA,bc,bcs,bs,key,m,tA,tc,tcs,ts⟩:=z
 obtain⟨cA,cc,code,sA,sc,ss,dA,dc,ws⟩:=p
 unfold MO.mv MO.d at*
 dsimp only at*
 have hbl:=hg.len
 clear hX hXl hz hv hpv hp
 obtain⟨gb,o1,hbA,hbb,rB⟩:=hzb.ro (by rw[ints_len];omega)
 obtain⟨rfl,rfl⟩:bA=some gb∧0=o1:=by
  cases bA with
  |none=>simp[ad]at hbA
  |some g=>simpa[ad]using hbA
 obtain⟨b2,o2,rfl,hb2,rS⟩:=hs'.ro (by rw[ints_len];omega)
 unfold slv at*
 unfold ad at*
 simp only[Option.map_some]at*
 refine enterR Tryz.func54 rfl rfl rfl fun a hs hm=>?_
 refine gsce98_ ?_;clear hs hm a;intros;rename_i a hm hs
 obtain⟨g3,rfl⟩:=hs.pp 3
 obtain⟨g4,rfl⟩:=hs.pp 4
 replace hm:=hm.zero 93
 refine cLoop (X:=RgX) (fun X a w'=>X.rs.length≤ss.length∧Sl Tryz.f54.ntmps [(2,.slice (some ⟨b2,o2,none⟩) ss.length sc),(3,pt g3),(4,pt g4),(7,slv X.qA X.rs.length X.qc),(12,.slice (some ⟨b2,o2,none⟩) ss.length sc),(13,.int .i64 (ss.length:Int)),(14,.int .i64 (X.rs.length:Int))] a∧Mm (fun _=>False) wB ([⟨X.qA,93,X.qcs⟩,⟨some g4,25,[.slice (some ⟨gb,0,none⟩) bs.length bc,.int .u16 key]⟩,⟨some g3,29,[slv m.cA m.xs.length m.cc,slv m.lA m.ls.length m.lc]⟩]++X.rs.map CO.hp) w'∧Row X.qA X.rs.length X.qc 1 (X.rs.map CO.v) X.qcs∧(∀r∈X.rs,r.ok)∧RgOk (X.rs.map CO.xs) ss) (fun X=>ss.length-X.rs.length) ⟨[],none,0,[]⟩ ⟨Nat.zero_le _,(sb_ hs),hm,Row.empty 1,(fun r hr=>by cases hr),⟨Nat.zero_le _,(fun k h=>by cases h),(fun r hr=>by cases hr)⟩⟩ ?_
 clear hs hm a
 rintro⟨rs,qA,qc,qcs⟩ a w' ⟨hlen,hs,hm,hqr,hok,hrg⟩
 dsimp only at hlen hs hm hqr hok hrg
 by_cases hlt:rs.length<ss.length
 ·have e2:=ints_some (xs:=ss) (k:=rs.length) hlt
  have e1:=ints_some (xs:=bs) (k:=rs.length) (by omega)
  have hgb:=hg.b rs.length (by omega)
  have hsk:=hz1.bd _ (List.getElem_mem hlt)
  rw[getI (l:=bs) (k:=rs.length) (by omega),getI (l:=ss) (k:=rs.length) hlt]at hgb
  obtain⟨sk,hske⟩:∃sk,ss[rs.length]=sk:=⟨_,rfl⟩
  rw[hske]at e2 hgb hsk
  generalize bs[rs.length]'_=bk at e1 hgb
  refine gsce98_ ?_;clear hs hm a;intros;rename_i a hm hs
  replace hm:=hm.zero 95
  refine cLoop (X:=RcX) (fun X a w'=>(X.xs.length:Int)≤sk∧Sl Tryz.f54.ntmps [(2,.slice (some ⟨b2,o2,none⟩) ss.length sc),(3,pt g3),(4,pt g4),(7,slv qA rs.length qc),(12,.slice (some ⟨b2,o2,none⟩) ss.length sc),(13,.int .i64 (ss.length:Int)),(14,.int .i64 (rs.length:Int)),(8,.int .i64 (rs.length:Int)),(10,slv X.A X.xs.length X.c),(19,.int .i64 sk),(20,.int .i64 (X.xs.length:Int))] a∧Mm (fun _=>False) wB (⟨X.A,95,X.cs⟩::([⟨qA,93,qcs⟩,⟨some g4,25,[.slice (some ⟨gb,0,none⟩) bs.length bc,.int .u16 key]⟩,⟨some g3,29,[slv m.cA m.xs.length m.cc,slv m.lA m.ls.length m.lc]⟩]++rs.map CO.hp)) w'∧Row X.A X.xs.length X.c 4 (cns X.xs) X.cs∧(∀c∈X.xs,c.val)) (fun X=>32-X.xs.length) ⟨[],none,0,[]⟩ ⟨by dsimp only;rw[List.length_nil];omega,(sb_ hs),hm,Row.empty 4,(fun c hc=>by cases hc)⟩ ?_
  clear hs hm a
  rintro⟨xs,A,c,cs⟩ a w' ⟨hxl,hs,hm,hr,hxv⟩
  dsimp only at hxl hs hm hr hxv
  by_cases hlt2:(xs.length:Int)<sk
  ·obtain⟨ad1,had⟩:∃ad1:Nat,bk+(xs.length:Int)=(ad1:Int):=⟨(bk+(xs.length:Int)).toNat,by omega⟩
   have had5:ad1<512:=by omega
   refine gsce98_ ?_;clear hs hm a;intros;rename_i a hm hs
   refine cMid (fun a w=>∃(q:CN)(A':Option Nat)(c':Nat)(cs':List Value),q.val∧Row A' (xs.length+1) c' 4 (cns xs++q.cs) cs'∧Sl Tryz.f54.ntmps [(2,.slice (some ⟨b2,o2,none⟩) ss.length sc),(3,pt g3),(4,pt g4),(7,slv qA rs.length qc),(12,.slice (some ⟨b2,o2,none⟩) ss.length sc),(13,.int .i64 (ss.length:Int)),(14,.int .i64 (rs.length:Int)),(8,.int .i64 (rs.length:Int)),(10,slv A' (xs.length+1) c'),(19,.int .i64 sk),(20,.int .i64 (xs.length:Int))] a∧Mm (fun _=>False) wB (⟨A',95,cs'⟩::([⟨qA,93,qcs⟩,⟨some g4,25,[.slice (some ⟨gb,0,none⟩) bs.length bc,.int .u16 key]⟩,⟨some g3,29,[slv m.cA m.xs.length m.cc,slv m.lA m.ls.length m.lc]⟩]++rs.map CO.hp)) w) ?_ ?_
   ·with_reducible repeat(first|apply gThen|apply wp_seq)
    refine cDrawT (n:=16) (.s [0,1,2,3,4,5,6,7,8,9,10]<| .o 11<| .x<| .o 12<| .x<| .o 13<| .o 14<| .x<| .t 15<| .d) [⟨some g4,25,[.slice (some ⟨gb,0,none⟩) bs.length bc,.int .u16 key]⟩,⟨some g3,29,[slv m.cA m.xs.length m.cc,slv m.lA m.ls.length m.lc]⟩] hm rfl rfl ?_
    clear hm;intro t_ w1_ hm
    repeat' (first|(refine dgSij0_ ?_;clear t_ hs hm a;intros;rename_i a hm hs t_)|refine tE t_ ?_|refine tC ?_ ?_|exact tN|intro t_|(refine oDo (i:=11) hs rfl (Wnt.none rfl) rfl rfl (by exact d_call hs rfl rfl rfl (pl 94 rfl) ((klk _ hm.fr ad1 had5))) ?_;clear hs;rintro _ w1 ⟨cv,rfl,hcv,hf⟩ a hs;(replace hm:=hm.pu hf);(clear hf);replace t_:=tX t_;refine⟨(hm.sub sub_),?_⟩)|(refine oDo (i:=12) hs rfl (Wnt.none rfl) rfl rfl (by exact d_call hs rfl rfl rfl (pl 55 rfl) ((kcn _ hm.fr cv hcv))) ?_;clear hs;rintro _ w1 ⟨rfl,hf⟩ a hs;(replace hm:=hm.pu hf);(clear hf);(have hqv:=kcv cv hcv);(generalize canN XX cv=q at hs hqv);replace t_:=tX t_;refine⟨(hm.sub sub_),?_⟩)|(refine oDo (i:=14) hs rfl (Wnt.none rfl) rfl rfl (by exact d_append (A:=A) (n:=xs.length) (c:=c) (news:=q.cs) hs rfl rfl rfl rfl rfl tab rfl rfl rfl rfl rfl hm mem_ hr rfl (hm.ro (n:=4) (vs:=q.cs) mem_ (cutF_ok rfl)) rfl (by show(xs.length+1)*24≤_;omega) (by omega)) ?_;clear hs;rintro _ w1 ⟨A',c',cs',rfl,hr',hM'⟩ a hs;(replace hm:=hM' _ rep_);(clear hM');replace t_:=tX t_;refine⟨(hm.sub sub_),?_⟩)|(refine tD t_ ?_;(exact And.intro rfl ⟨q,A',c',cs',hqv,hr',(sb_ hs),hm.sub sub_⟩))|fail)
   clear hs hm a
   rintro a w ⟨q,A',c',cs',hqv,hr',hs,hm⟩
   rw[cns_snoc]at hr'
   refine gsce98_ ?_;clear hs hm a;intros;rename_i a hm hs
   refine⟨⟨xs++[q],A',c',cs'⟩,by dsimp only;rw[List.length_append,List.length_singleton];omega,by dsimp only;rw[List.length_append,List.length_singleton];omega,?_,hm,?_,fun x hx=>?_⟩
   ·dsimp only
    rw[List.length_append,List.length_singleton]
    exact(sb_ hs)
   ·dsimp only
    rw[List.length_append,List.length_singleton]
    exact hr'
   ·rcases List.mem_append.1 hx with hx|hx
    ·exact hxv x hx
    ·rcases List.mem_singleton.1 hx with rfl;exact hqv
  ·have hxe:(xs.length:Int)=sk:=by omega
   obtain⟨r,hre⟩:∃r:CO,r=⟨A,c,cs,xs⟩:=⟨_,rfl⟩
   have hrv:r.v=slv A xs.length c:=by rw[hre];rfl
   have hrh:r.hp=⟨A,95,cs⟩:=by rw[hre];rfl
   have hro:r.ok:=by rw[hre];exact hr
   have hrx:r.xs=xs:=by rw[hre]
   refine gsce98_ ?_;clear hs hm a;intros;rename_i a hm hs
   refine dv hs (Wnt.none rfl) rfl rfl (d_append (A:=qA) (n:=rs.length) (c:=qc) (news:=[slv A xs.length c]) hs rfl rfl rfl rfl rfl tab rfl rfl rfl rfl rfl hm mem_ hqr rfl (hm.ro (n:=1) mem_ (cutF_ok rfl)) rfl (by show(rs.length+1)*24≤_;omega) (by omega)) ?_
   clear hs
   rintro _ w4 ⟨qA2,qc2,qcs2,rfl,hqr2,hM⟩ a hs
   replace hm:=hM _ rep_
   clear hM
   rw[←hrv,CO.snoc]at hqr2
   refine gsce98_ ?_;clear hs hm a;intros;rename_i a hm hs
   rw[←hrh]at hm
   refine⟨⟨rs++[r],qA2,qc2,qcs2⟩,by dsimp only;rw[List.length_append,List.length_singleton];omega,by dsimp only;rw[List.length_append,List.length_singleton];omega,?_,?_,?_,fun x hx=>?_,?_⟩
   ·dsimp only
    rw[List.length_append,List.length_singleton]
    exact(sb_ hs)
   ·dsimp only
    exact CO.perm (hm.sub (List.Sublist.cons _ (List.Sublist.refl _)))
   ·dsimp only
    rw[List.length_append,List.length_singleton]
    exact hqr2
   ·rcases List.mem_append.1 hx with hx|hx
    ·exact hok x hx
    ·rcases List.mem_singleton.1 hx with rfl;exact hro
   ·dsimp only
    rw[List.map_append,List.map_singleton,hrx]
    exact hrg.snoc (by rw[List.length_map];exact hlt) (by rw[hxe,←hske];simp only[List.length_map]) hxv
 ·have hln:rs.length=ss.length:=by omega
  refine gsce98_ ?_;clear hs hm a;intros;rename_i a hm hs
  exact gRet1 hs rfl rfl ⟨rs,qA,qc,qcs,rfl,hqr,hok,hln,hrg,hm.new (List.Sublist.cons_cons _ (List.Sublist.cons _ (List.Sublist.cons _ (List.Sublist.refl _)))),hm.fr⟩
theorem dgSik0_{G H:Prop}(k:H)(s:Bx H→G:=by intro k_;(repeat(first|(refine tTakeB false t_ hs rfl (by kernel_rfl) (by kernel_rfl) gw_ rfl rfl (by intro w _;(first|exact kvR_|exact r_loadO hs rfl rfl tab rfl rfl rfl hm (by repeat(first|exact mH|apply mT)) (by assumption))) bu_ ?_;(try clear t_ hs a);intro t_ a hs)|(refine tTakeB true t_ hs rfl (by kernel_rfl) (by kernel_rfl) gw_ rfl rfl (by intro w hm;replace hm:Mm _ _ _ w:=hm rfl;(first|exact klR_|exact r_loadO hs rfl rfl tab rfl rfl rfl hm (by repeat(first|exact mH|apply mT)) (by assumption))) bu_ ?_;(try clear t_ hs a);intro t_ a hs)|(refine tE1B t_ ?_;(try clear t_);intro t_)|(refine nx_ t_ rfl ?_;have t_:=t_;first|(refine oDoB hs rfl gw_ rfl rfl da_ ?_;(try clear hs hm a);rintro _ w_ ⟨g_,rfl,-,hm⟩ a hs;refine⟨bu_,?_⟩)|(refine oDoNB hs rfl gw_ rfl ds_ ?_;(try clear hs hm a);rintro-w_ hm a hs;refine⟨bu_,?_⟩)|(refine oDoVB hs rfl gw_ rfl rfl (by(first|exact klR_|exact r_loadO hs rfl rfl tab rfl rfl rfl hm (by repeat(first|exact mH|apply mT)) (by assumption))) ?_;(try clear hs a);intro a hs;refine⟨bu_,?_⟩))));have y_:=t_;clear t_;(first|(have m_:=hm;have s_:=hs;have z_:=y_;clear hs;(try clear hm);revert m_ s_ z_ a)|((first|refine rexd_ hs hm ?_|refine rexb_ hs hm ?_);intro a hm hs;have z_:=y_;revert hm hs z_ a));(try revert w_);(repeat revert g_);exact k_.h):G:=s ⟨k⟩
structure VwD where
 st:Int
 pc:Int
 cnt:Int
 han:Int
 sav:Int
 trp:Int
 cod:Int
structure VwO where
 d:VwD
 r:CO
def VwO.v(x:VwO):List Value:=[.int .i64 x.d.st,.int .i64 x.d.pc,.int .i64 x.d.cnt,.int .i64 x.d.han,.int .i64 x.d.sav,.int .i64 x.d.trp,.int .u16 x.d.cod,slv x.r.A x.r.xs.length x.r.c]
theorem VwO.len(x:VwO):x.v.length=8:=rfl
def VwO.hp(x:VwO):Hp:=x.r.hp
structure VwD.val [HB](x:VwD)(B:Int):Prop where
 st:0≤x.st∧x.st≤4
 pc:0≤x.pc∧x.pc≤255
 cnt:0≤x.cnt∧x.cnt≤B
 han:-1≤x.han∧x.han≤HB.h
 sav:-1≤x.sav∧x.sav≤255
 trp:0≤x.trp∧x.trp≤6
 cod:0≤x.cod∧x.cod≤65535
structure VwO.val [HB](x:VwO)(B:Int):Prop where
 d:x.d.val B
 n:x.r.xs.length=8
 v:∀c∈x.r.xs,c.val
theorem VwO.snoc(l:List VwO)(x:VwO):l.flatMap VwO.v++x.v=(l++[x]).flatMap VwO.v:=by rw[List.flatMap_append,List.flatMap_singleton]
theorem VwO.perm{S:Nat→Prop}{w0 w:World}{L:List Hp}{rs:List VwO}{r:VwO}(hm:Mm S w0 (r.hp::(L++rs.map VwO.hp)) w):Mm S w0 (L++(rs++[r]).map VwO.hp) w:=by
 rw[List.map_append,List.map_singleton,←List.append_assoc]
 exact hm.perm List.perm_append_comm
structure SO where
 qA:Option Nat
 qc:Nat
 qcs:List Value
 rs:List CO
 tA:Option Nat
 tc:Nat
 tcs:List Value
 ts:List VwO
def SO.v(x:SO):Value:= .agg #[slv x.qA x.rs.length x.qc,slv x.tA x.ts.length x.tc]
def SO.hps(x:SO):List Hp:=⟨x.tA,98,x.tcs⟩::((⟨x.qA,93,x.qcs⟩::x.rs.map CO.hp)++x.ts.map VwO.hp)
structure SO.ok(x:SO):Prop where
 q:Row x.qA x.rs.length x.qc 1 (x.rs.map CO.v) x.qcs
 t:Row x.tA x.ts.length x.tc 8 (x.ts.flatMap VwO.v) x.tcs
 rr:∀r∈x.rs,r.ok
 tt:∀r∈x.ts,r.r.ok
structure SO.val [HB](x:SO)(ss:List Int)(B:Int):Prop where
 n:x.rs.length=ss.length
 r:RgOk (x.rs.map CO.xs) ss
 tn:x.ts.length=4
 t:∀r∈x.ts,r.val B
structure StX where
 ts:List VwO
 tA:Option Nat
 tc:Nat
 tcs:List Value
theorem state_c [HB](p:PV)(z:MO)(B:Int)(wB:World)(hp:p.ok wB)(hpv:p.val)(hz:z.mv.ok wB)(hzo:z.ok)(hv:z.d.val p.ss B):Ret Tryz.prog 31 [p.v,z.v] wB (fun u w'=>∃y:SO,u=y.v∧y.ok∧y.val p.ss B∧New wB w' y.hps∧Pu wB w'):=by
 have hX:=lsX_ok hp hpv hz (by rw[MO.mv_d];exact hv)
 have hXl:=lsX_l (p:=p) (x:=z.mv) (B:=B) (by rw[MO.mv_d];exact hv)
 have kcn:=fun(w'':World) (hf:Pu wB w'') (c:CV) (hc:c.val)=>cann_c (lsX p z.mv) c w'' (hX.pu hf) hc
 have kcv:=fun(c:CV) (hc:c.val)=>(canN_val hX hc).1
 have hXl2:(lsX p z.mv).l= .agg #[slv z.bA z.bs.length z.bc,.int .u16 z.key]:=hXl
 rw[hXl2,lsX_s]at kcn
 generalize lsX p z.mv=XX at kcn kcv
 clear hX hXl hXl2
 have krg:=fun(w'':World) (hf:Pu wB w'')=>regs_c p z B w'' (hp.pu hf) hpv (hz.pu hf) hv
 have h4:z.ts.length=4:=by have:=hv.t;rwa[MO.d_len]at this
 obtain⟨gt,hgt⟩:=hzo.t.some_ (by omega)
 unfold PV.v MO.v
 rw[hgt,h4]
 refine enterR Tryz.func31 rfl rfl rfl fun a hs hm=>?_
 refine gsce98_ ?_;clear hs hm a;intros;rename_i a hm hs
 refine st hs rfl rfl rfl (d_call hs rfl rfl rfl (pl 54 rfl) ((krg _ hm.fr))) ?_;clear hs a;rintro _ w1 ⟨rs,qA,qc,qcs,rfl,hqr,hqo,hql,hrg,hN,hf⟩ a hs
 replace hm:=gainE hm hf hN
 clear hN hf krg
 simp only[List.cons_append,List.nil_append]at hm
 refine gsce98_ ?_;clear hs hm a;intros;rename_i a hm hs
 obtain⟨g2,rfl⟩:=hs.pp 2
 obtain⟨g3,rfl⟩:=hs.pp 3
 obtain⟨g4,rfl⟩:=hs.pp 4
 obtain⟨g5,rfl⟩:=hs.pp 5
 replace hm:=(hm.zero 98).perm (List.Perm.swap _ _ _)
 refine cLoop (X:=StX) (fun X a w'=>X.ts.length≤4∧Sl Tryz.f31.ntmps [(2,pt g2),(3,pt g3),(4,pt g4),(5,pt g5),(20,slv (some gt) 4 z.tc),(21,.int .i64 ((4:Nat):Int)),(22,.int .i64 (X.ts.length:Int))] a∧Mm (fun _=>False) wB (⟨some g5,91,[slv qA rs.length qc,slv X.tA X.ts.length X.tc]⟩::⟨X.tA,98,X.tcs⟩::⟨some g4,91,[nS,nS]⟩::⟨some g3,32,(z.cl [slv (some gt) 4 z.tc])⟩::⟨some g2,38,(p.cl [])⟩::((⟨qA,93,qcs⟩::rs.map CO.hp)++X.ts.map VwO.hp)) w'∧Row X.tA X.ts.length X.tc 8 (X.ts.flatMap VwO.v) X.tcs∧(∀r∈X.ts,r.r.ok)∧(∀r∈X.ts,r.val B)) (fun X=>4-X.ts.length) ⟨[],none,0,[]⟩ ⟨Nat.zero_le _,(sb_ hs),by rw[List.map_nil,List.append_nil];exact hm,Row.empty 8,(fun r hr=>by cases hr),(fun r hr=>by cases hr)⟩ ?_
 clear hs hm a
 rintro⟨ts,tA,tc,tcs⟩ a w' ⟨hlen,hs,hm,htr,hto,htv⟩
 dsimp only at hlen hs hm htr hto htv
 by_cases hlt:ts.length<4
 ·have r3:=MO.thr hz hgt (k:=ts.length) (by omega)
  have hqm:z.ts[ts.length]'(by omega)∈z.ts:=List.getElem_mem _
  have hqr3:=hz.tt _ (List.mem_map.2 ⟨_,hqm,rfl⟩)
  have hqv:=hv.tt _ (List.mem_map.2 ⟨_,hqm,rfl⟩)
  generalize z.ts[ts.length]'_=q at r3 hqr3 hqv
  clear hqm
  obtain⟨rA0,qrc,qrcs,⟨st,xs0,pc,cnt,han,sav,trp,cod⟩⟩:=q
  obtain⟨v1,v2,v3,v4,v5,v6,v7,v8,v9⟩:=hqv
  unfold ThO.tv at hqr3
  dsimp only at*
  obtain⟨qr,o5,hrA,hb5,r5⟩:=hqr3.ro (by rw[cvs_len];omega)
  obtain⟨rfl,rfl⟩:rA0=some qr∧0=o5:=by
   cases rA0 with
   |none=>simp[ad]at hrA
   |some g=>simpa[ad]using hrA
  unfold ThO.v slv at r3
  dsimp only[Option.map_some]at r3
  refine gsce98_ ?_;clear hs hm a;intros;rename_i a hm hs
  obtain⟨g8,rfl⟩:=hs.pp 8
  replace hm:=(hm.sub (List.Sublist.cons_cons _ (List.Sublist.cons _ (List.Sublist.refl _)))).zero 95
  refine cLoop (X:=RcX) (fun X a w'=>X.xs.length≤8∧Sl Tryz.f31.ntmps [(2,pt g2),(3,pt g3),(4,pt g4),(5,pt g5),(20,slv (some gt) 4 z.tc),(21,.int .i64 ((4:Nat):Int)),(22,.int .i64 (ts.length:Int)),(8,pt g8),(42,.slice (some ⟨qr,0,none⟩) xs0.length qrc),(43,.int .i64 (xs0.length:Int)),(44,.int .i64 (X.xs.length:Int))] a∧Mm (fun _=>False) wB (⟨X.A,95,X.cs⟩::⟨some g8,98,[.int .i64 st,.int .i64 pc,.int .i64 cnt,.int .i64 han,.int .i64 sav,.int .i64 trp,.int .u16 cod,slv X.A X.xs.length X.c]⟩::(⟨some g5,91,[slv qA rs.length qc,slv tA ts.length tc]⟩::⟨tA,98,tcs⟩::⟨some g4,91,[nS,nS]⟩::⟨some g3,32,(z.cl [slv (some gt) 4 z.tc])⟩::⟨some g2,38,(p.cl [])⟩::((⟨qA,93,qcs⟩::rs.map CO.hp)++ts.map VwO.hp))) w'∧Row X.A X.xs.length X.c 4 (cns X.xs) X.cs∧(∀c∈X.xs,c.val)) (fun X=>8-X.xs.length) ⟨[],none,0,[]⟩ ⟨Nat.zero_le _,(sb_ hs),hm,Row.empty 4,(fun c hc=>by cases hc)⟩ ?_
  clear hs hm a
  rintro⟨xs,A,c,cs⟩ a w' ⟨hxl,hs,hm,hr,hxv⟩
  dsimp only at hxl hs hm hr hxv
  by_cases hlt2:xs.length<8
  ·have r6:=r5.flat CV.cs_len (k:=xs.length) (by omega)
   have hcv:=v9 _ (List.getElem_mem (show xs.length<xs0.length by omega))
   generalize xs0[xs.length]'_=cv at r6 hcv
   unfold CV.cs at r6
   rw[Nat.zero_add]at r6
   clear r3 r5
   refine gsce98_ ?_;clear hs hm a;intros;rename_i a hm hs
   obtain⟨g10,rfl⟩:=hs.pp 10
   refine cMid (fun a w=>∃(q:CN)(A':Option Nat)(c':Nat)(cs':List Value),q.val∧Row A' (xs.length+1) c' 4 (cns xs++q.cs) cs'∧Sl Tryz.f31.ntmps [(2,pt g2),(3,pt g3),(4,pt g4),(5,pt g5),(20,slv (some gt) 4 z.tc),(21,.int .i64 ((4:Nat):Int)),(22,.int .i64 (ts.length:Int)),(8,pt g8),(42,.slice (some ⟨qr,0,none⟩) xs0.length qrc),(43,.int .i64 (xs0.length:Int)),(44,.int .i64 (xs.length:Int))] a∧Mm (fun _=>False) wB (⟨A',95,cs'⟩::⟨some g8,98,[.int .i64 st,.int .i64 pc,.int .i64 cnt,.int .i64 han,.int .i64 sav,.int .i64 trp,.int .u16 cod,slv A' (xs.length+1) c']⟩::(⟨some g5,91,[slv qA rs.length qc,slv tA ts.length tc]⟩::⟨tA,98,tcs⟩::⟨some g4,91,[nS,nS]⟩::⟨some g3,32,(z.cl [slv (some gt) 4 z.tc])⟩::⟨some g2,38,(p.cl [])⟩::((⟨qA,93,qcs⟩::rs.map CO.hp)++ts.map VwO.hp))) w) ?_ ?_
   ·with_reducible repeat(first|apply gThen|apply wp_seq)
    refine cDrawTB (n:=12) (.s [0,1,2,3,4,5,6]<| .o 7<| .x<| .o 8<| .o 9<| .x<| .t 10<| .o 11<| .d) 11 [⟨some g10,103,[.int .u8 cv.t,.int .u16 cv.v]⟩,⟨some g8,98,[.int .i64 st,.int .i64 pc,.int .i64 cnt,.int .i64 han,.int .i64 sav,.int .i64 trp,.int .u16 cod,slv A xs.length c]⟩,⟨some g3,32,(z.cl [slv (some gt) 4 z.tc])⟩,⟨some g2,38,(p.cl [])⟩] hm rfl rfl ?_
    clear hm;intro t_ w1_ hm
    repeat' (first|(refine dgSik0_ ?_;clear t_ hs hm a;intros;rename_i a hm hs t_)|refine tEB t_ ?_|refine tCB ?_ ?_|exact tNB|intro t_|(refine oDoB (i:=7) hs rfl (Wnt.none rfl) rfl rfl (by exact d_call hs rfl rfl rfl (pl 55 rfl) ((kcn _ hm.fr cv hcv))) ?_;clear hs;rintro _ w1 ⟨rfl,hf⟩ a hs;(replace hm:=hm.pu hf);(clear hf);(have hqv:=kcv cv hcv);(generalize canN XX cv=q at hs hqv);replace t_:=tX t_;refine⟨bu_,?_⟩)|(refine oDoB (i:=9) hs rfl (Wnt.none rfl) rfl rfl (by exact d_append (A:=A) (n:=xs.length) (c:=c) (news:=q.cs) hs rfl rfl rfl rfl rfl tab rfl rfl rfl rfl rfl hm mem_ hr rfl (hm.ro (n:=4) (vs:=q.cs) mem_ (cutF_ok rfl)) rfl (by show(xs.length+1)*24≤_;omega) (by omega)) ?_;clear hs;rintro _ w1 ⟨A',c',cs',rfl,hr',hM'⟩ a hs;(replace hm:=hM' _ rep_);(clear hM');replace t_:=tX t_;refine⟨bu_,?_⟩)|(refine tDB t_ ?_;(exact And.intro rfl ⟨q,A',c',cs',hqv,hr',(sb_ hs),hm.sub (List.Sublist.cons _ (List.Sublist.cons _ (List.Sublist.refl _)))⟩))|fail)
   clear hs hm a
   rintro a w ⟨q,A',c',cs',hqv,hr',hs,hm⟩
   rw[cns_snoc]at hr'
   refine gsce98_ ?_;clear hs hm a;intros;rename_i a hm hs
   refine⟨⟨xs++[q],A',c',cs'⟩,by dsimp only;rw[List.length_append,List.length_singleton];omega,by dsimp only;rw[List.length_append,List.length_singleton];omega,?_,?_,?_,fun x hx=>?_⟩
   ·dsimp only
    rw[List.length_append,List.length_singleton]
    exact(sb_ hs)
   ·dsimp only
    rw[List.length_append,List.length_singleton]
    exact hm
   ·dsimp only
    rw[List.length_append,List.length_singleton]
    exact hr'
   ·rcases List.mem_append.1 hx with hx|hx
    ·exact hxv x hx
    ·rcases List.mem_singleton.1 hx with rfl;exact hqv
  ·have hxe:xs.length=8:=by omega
   obtain⟨r,hre⟩:∃r:VwO,r=⟨⟨st,pc,cnt,han,sav,trp,cod⟩,⟨A,c,cs,xs⟩⟩:=⟨_,rfl⟩
   have hrv:r.v=[.int .i64 st,.int .i64 pc,.int .i64 cnt,.int .i64 han,.int .i64 sav,.int .i64 trp,.int .u16 cod,slv A xs.length c]:=by rw[hre];rfl
   have hrh:r.hp=⟨A,95,cs⟩:=by rw[hre];rfl
   have hro:r.r.ok:=by rw[hre];exact hr
   have hrd:r.val B:=by rw[hre];exact⟨⟨v1,v3,v4,v5,v6,v7,v8⟩,hxe,hxv⟩
   refine gsce98_ ?_;clear hs hm a;intros;rename_i a hm hs
   refine dv hs (Wnt.none rfl) rfl rfl (d_append (A:=tA) (n:=ts.length) (c:=tc) (news:=[.int .i64 st,.int .i64 pc,.int .i64 cnt,.int .i64 han,.int .i64 sav,.int .i64 trp,.int .u16 cod,slv A xs.length c]) hs rfl rfl rfl rfl rfl tab rfl rfl rfl rfl rfl hm mem_ htr rfl (hm.ro (n:=8) mem_ (cutF_ok rfl)) rfl (by show(ts.length+1)*80≤_;omega) (by omega)) ?_
   clear hs
   rintro _ w4 ⟨tA2,tc2,tcs2,rfl,htr2,hM⟩ a hs
   replace hm:=hM _ rep_
   clear hM
   rw[←hrv,VwO.snoc]at htr2
   refine gsce98_ ?_;clear hs hm a;intros;rename_i a hm hs
   rw[←hrh]at hm
   refine⟨⟨ts++[r],tA2,tc2,tcs2⟩,by dsimp only;rw[List.length_append,List.length_singleton];omega,by dsimp only;rw[List.length_append,List.length_singleton];omega,?_,?_,?_,fun x hx=>?_,fun x hx=>?_⟩
   ·dsimp only
    rw[List.length_append,List.length_singleton]
    exact(sb_ hs)
   ·dsimp only
    have hm2:=VwO.perm (L:=⟨some g5,91,[slv qA rs.length qc,slv tA2 (ts.length+1) tc2]⟩::⟨tA2,98,tcs2⟩::⟨some g4,91,[nS,nS]⟩::⟨some g3,32,(z.cl [slv (some gt) 4 z.tc])⟩::⟨some g2,38,(p.cl [])⟩::⟨qA,93,qcs⟩::rs.map CO.hp) (rs:=ts) (r:=r) (hm.sub (List.Sublist.cons _ (List.Sublist.cons_cons _ (List.Sublist.cons _ (List.Sublist.refl _)))))
    rw[List.length_append,List.length_singleton]
    exact hm2
   ·dsimp only
    rw[List.length_append,List.length_singleton]
    exact htr2
   ·rcases List.mem_append.1 hx with hx|hx
    ·exact hto x hx
    ·rcases List.mem_singleton.1 hx with rfl;exact hro
   ·rcases List.mem_append.1 hx with hx|hx
    ·exact htv x hx
    ·rcases List.mem_singleton.1 hx with rfl;exact hrd
 ·have hln:ts.length=4:=by omega
  refine gsce98_ ?_;clear hs hm a;intros;rename_i a hm hs
  exact gRetN tab hs rfl (.cons (.cells rfl rfl rfl rfl (hm.ro (k:=0) (n:=2) (g:=g4) mem_ (cutF_ok rfl))) .nil) ⟨⟨qA,qc,qcs,rs,tA,tc,tcs,ts⟩,rfl,⟨hqr,htr,hqo,hto⟩,⟨hql,hrg,hln,htv⟩,hm.new (List.Sublist.cons _ (List.Sublist.cons_cons _ (List.Sublist.cons _ (List.Sublist.cons _ (List.Sublist.cons _ (List.Sublist.refl _)))))),hm.fr⟩
theorem gcSil0_{G H:Prop}(k:H)(s:Bx H→G:=by intro k_;(repeat(first|(refine ovR_ ?_;(try clear hs a);intro a hs)|((with_reducible apply lCons);first|(refine dv hs gw_ rfl rfl da_ ?_;(try clear hs hm a);rintro _ w_ ⟨g_,rfl,-,hm⟩ a hs)|(refine stn hs rfl rfl ds_ ?_;(try clear hs hm a);rintro-w_ hm a hs))|refine sc_ ?_|((with_reducible apply lCons);first|(refine dvc hs hm gw_ rfl rfl rfl rfl rfl (pl 96 rfl) (kc _ hm.fr) ?_;(try clear hs hm a);intro w_ hm a hs))));(first|(have m_:=hm;have s_:=hs;clear hs;(try clear hm);revert m_ s_ a)|((first|refine rexc_ hs hm ?_|refine rexl_ hs hm ?_|refine rexg_ hs hm ?_|refine rexq_ hs hm ?_);intro a hm hs;revert hm hs a));(try revert w_);(repeat revert g_);exact k_.h):G:=s ⟨k⟩
theorem gpSil1_{G H:Prop}(k:H)(s:Bx H→G:=by intro k_;(repeat(first|(refine ovR_ ?_;(try clear hs a);intro a hs)|((with_reducible apply lCons);first|(refine dv hs gw_ rfl rfl da_ ?_;(try clear hs hm a);rintro _ w_ ⟨g_,rfl,-,hm⟩ a hs)|(refine stn hs rfl rfl ds_ ?_;(try clear hs hm a);rintro-w_ hm a hs))|refine sc_ ?_));have m_:=hm;have s_:=hs;clear hs;(try clear hm);revert m_ s_ a;(try revert w_);(repeat revert g_);exact k_.h):G:=s ⟨k⟩
structure VwV where
 d:VwD
 r:CnS
def VwV.v(x:VwV):List Value:=[.int .i64 x.d.st,.int .i64 x.d.pc,.int .i64 x.d.cnt,.int .i64 x.d.han,.int .i64 x.d.sav,.int .i64 x.d.trp,.int .u16 x.d.cod,.slice x.r.A x.r.xs.length x.r.c]
theorem VwV.len(x:VwV):x.v.length=8:=rfl
structure VwV.val [HB](x:VwV)(B:Int):Prop where
 d:x.d.val B
 n:x.r.xs.length=8
 v:∀c∈x.r.xs,c.val
structure SV where
 rA:Option Addr
 rc:Nat
 rs:List CnS
 tA:Option Addr
 tc:Nat
 ts:List VwV
def SV.v(x:SV):Value:= .agg #[.slice x.rA x.rs.length x.rc,.slice x.tA x.ts.length x.tc]
structure SV.ok(x:SV)(w:World):Prop where
 r:Rd w w.heap.size x.rA (x.rs.map CnS.v)
 t:Rd w w.heap.size x.tA (x.ts.flatMap VwV.v)
 rr:∀r∈x.rs,r.ok w
 tt:∀r∈x.ts,r.r.ok w
theorem SV.ok.pu{x:SV}{w w':World}(h:x.ok w)(hf:Pu w w'):x.ok w':=⟨hf.rd' h.r,hf.rd' h.t,fun r hr=>(h.rr r hr).pu hf,fun r hr=>(h.tt r hr).pu hf⟩
structure SV.val [HB](x:SV)(ss:List Int)(B:Int):Prop where
 n:x.rs.length=ss.length
 r:RgOk (x.rs.map CnS.xs) ss
 tn:x.ts.length=4
 t:∀r∈x.ts,r.val B
theorem SV.val.rl [HB]{x:SV}{ss:List Int}{B:Int}(h:x.val ss B){k:Nat}(hk:k<x.rs.length)(hk':k<ss.length):((x.rs[k]).xs.length:Int)=ss[k]:=by
 have:=h.r.l k (by rw[List.length_map];exact hk) hk'
 rwa[List.getElem_map]at this
theorem SV.val.rv [HB]{x:SV}{ss:List Int}{B:Int}(h:x.val ss B){r:CnS}(hr:r∈x.rs):∀c∈r.xs,c.val:=h.r.v _ (List.mem_map.2 ⟨r,hr,rfl⟩)
def VwO.rd(x:VwO):VwV:=⟨x.d,x.r.rd⟩
def SO.rd(x:SO):SV:=⟨ad x.qA,x.qc,x.rs.map CO.rd,ad x.tA,x.tc,x.ts.map VwO.rd⟩
theorem SO.rd_v(x:SO):x.rd.v=x.v:=by
 unfold SO.rd SV.v SO.v
 dsimp only
 rw[List.length_map,List.length_map]
 rfl
theorem SO.rd_ok{S:Nat→Prop}{w0 w:World}{M:List Hp}{x:SO}(hm:Mm S w0 M w)(hM:∀h∈x.hps,h∈M)(h:x.ok):x.rd.ok w:=by
 refine⟨?_,?_,fun r hr=>?_,fun r hr=>?_⟩
 ·unfold SO.rd
  dsimp only
  rw[CO.rds_v]
  exact hm.rd_row (hM _ (List.mem_cons_of_mem _ (List.mem_cons_self ..))) h.q
 ·unfold SO.rd
  dsimp only
  rw[show(x.ts.map VwO.rd).flatMap VwV.v=x.ts.flatMap VwO.v by rw[List.flatMap_map];rfl]
  exact hm.rd_row (hM _ (List.mem_cons_self ..)) h.t
 ·obtain⟨r0,hr0,rfl⟩:=List.mem_map.1 hr
  exact CO.rd_ok hm (hM _ (List.mem_cons_of_mem _ (List.mem_append_left _ (List.mem_cons_of_mem _ (List.mem_map.2 ⟨r0,hr0,rfl⟩))))) (h.rr r0 hr0)
 ·obtain⟨r0,hr0,rfl⟩:=List.mem_map.1 hr
  exact CO.rd_ok hm (hM _ (List.mem_cons_of_mem _ (List.mem_append_right _ (List.mem_map.2 ⟨r0,hr0,rfl⟩)))) (h.tt r0 hr0)
theorem SO.rd_val [HB]{x:SO}{ss:List Int}{B:Int}(h:x.val ss B):x.rd.val ss B:=by
 refine⟨?_,?_,?_,fun r hr=>?_⟩
 ·show(x.rs.map CO.rd).length=_
  rw[List.length_map];exact h.n
 ·show RgOk ((x.rs.map CO.rd).map CnS.xs) ss
  rw[CO.rds_xs];exact h.r
 ·show(x.ts.map VwO.rd).length=_
  rw[List.length_map];exact h.tn
 ·obtain⟨r0,hr0,rfl⟩:=List.mem_map.1 hr
  have:=h.t r0 hr0
  exact⟨this.d,this.n,this.v⟩
theorem thrs_c [HB](A:Option Addr)(c:Nat)(ts:List VwV)(B:Int)(wB:World)(hA:Rd wB wB.heap.size A (ts.flatMap VwV.v))(ho:∀r∈ts,r.r.ok wB)(hn:ts.length=4)(hv:∀r∈ts,r.val B)(hB:B≤1099511627776):Ret Tryz.prog 95 [.slice A ts.length c] wB (fun u w'=>u= .bool true∧Pu wB w'):=by
 refine enterR Tryz.func95 rfl rfl rfl fun a hs hm=>?_
 refine gsce98_ ?_;clear hs hm a;intros;rename_i a hm hs
 refine cLoop (X:=Nat) (fun k a w'=>k≤ts.length∧Sl Tryz.f95.ntmps [(0,.slice A ts.length c),(6,.slice A ts.length c),(7,.int .i64 (ts.length:Int)),(8,.int .i64 (k:Int))] a∧Mm (fun _=>False) wB [] w') (fun k=>ts.length-k) 0 ⟨Nat.zero_le _,(sb_ hs),hm⟩ ?_
 clear hs hm a
 rintro k a w' ⟨hk,hs,hm⟩
 by_cases hlt:k<ts.length
 ·obtain⟨b1,o1,hA1,hb1,r1⟩:=hA.ro (by rw[flat_len VwV.v 8 VwV.len];omega)
  have r2:=r1.flat VwV.len hlt
  have hq:=hv _ (List.getElem_mem hlt)
  have hqo:=ho _ (List.getElem_mem hlt)
  generalize ts[k]=q at r2 hq hqo
  obtain⟨⟨st,pc,cnt,han,sav,trp,cod⟩,r⟩:=q
  obtain⟨⟨v1,v2,v3,v4,v5,v6,v7⟩,v8,v9⟩:=hq
  have hbl:=HB.le
  unfold VwV.v at r2
  dsimp only at*
  have kc:=fun w'' (hf:Pu wB w'')=>ccls_c r 8 w'' (hqo.pu hf) v9 (by omega) (by omega)
  unfold CnS.v at kc
  rw[hA1]at hs
  refine gcSil0_ ?_;clear hs hm a;intros;rename_i a hm hs
  rw[←hA1]at hs
  exact zfe81_
 ·obtain rfl:k=ts.length:=by omega
  rw[hn]at hs
  refine gsce98_ ?_;clear hs hm a;intros;rename_i a hm hs
  exact gRet1 hs rfl rfl ⟨rfl,hm.fr⟩
theorem vldS_c [HB](p:PV)(x:SV)(B:Int)(wB:World)(hp:p.ok wB)(hpv:p.val)(hx:x.ok wB)(h:x.val p.ss B)(hB:B≤1099511627776):Ret Tryz.prog 59 [p.v,x.v] wB (fun u w'=>u= .bool true∧Pu wB w'):=by
 have kck:=fun w'' (hf:Pu wB w'')=>chk_c p w'' (hp.pu hf) hpv
 have kth:=fun w'' (hf:Pu wB w'')=>thrs_c x.tA x.tc x.ts B w'' (hx.pu hf).t (hx.pu hf).tt h.tn h.t hB
 have hn:=h.n
 have h4:=hpv.sz.four
 unfold PV.v SV.v at*
 refine enterR Tryz.func59 rfl rfl rfl fun a hs hm=>?_
 repeat(first|(refine gpSil1_ ?_;clear hs hm a;intros;rename_i a hm hs)|refine sc_ ?_|((with_reducible apply lCons);first|(refine dvc hs hm gw_ rfl rfl rfl rfl rfl (pl 38 rfl) (kck _ hm.fr) ?_;clear hs hm a;intro w hm a hs)|(refine dvc hs hm gw_ rfl rfl rfl rfl rfl (pl 95 rfl) (kth _ hm.fr) ?_;clear hs hm a;intro w hm a hs)))
 obtain⟨g2,rfl⟩:=hs.pp 2
 obtain⟨g3,rfl⟩:=hs.pp 3
 refine cLoop (X:=Nat) (fun k a w'=>k≤x.rs.length∧Sl Tryz.f59.ntmps [(2,.pointer (some ⟨g2,0,none⟩)),(26,.slice x.rA x.rs.length x.rc),(27,.int .i64 (x.rs.length:Int)),(28,.int .i64 (k:Int))] a∧Mm (fun _=>False) wB [⟨some g3,91,[.slice x.rA x.rs.length x.rc,.slice x.tA x.ts.length x.tc]⟩,⟨some g2,38,[.slice p.cA p.code.length p.cc,.slice p.sA p.ss.length p.sc,.slice p.dA p.ws.length p.dc]⟩] w') (fun k=>x.rs.length-k) 0 ⟨Nat.zero_le _,(sb_ hs),hm⟩ ?_
 clear hs hm a
 rintro k a w' ⟨hk,hs,hm⟩
 by_cases hlt:k<x.rs.length
 ·obtain⟨b1,o1,hA1,hb1,r1⟩:=hx.r.ro (by rw[List.length_map];omega)
  obtain⟨b2,o2,hA2,hb2,r2⟩:=hp.s.ro (by rw[ints_len];omega)
  have e2:=ints_some (xs:=p.ss) (k:=k) (by omega)
  have hcell:(x.rs.map CnS.v)[k]?=some (.slice (x.rs[k]).A (x.rs[k]).xs.length (x.rs[k]).c):=by rw[List.getElem?_map,List.getElem?_eq_getElem hlt];rfl
  have hl:=h.rl hlt (by omega)
  have hsz:=hpv.sz.bd _ (List.getElem_mem (show k<p.ss.length by omega))
  have hqo:=hx.rr _ (List.getElem_mem hlt)
  have hqv:=h.rv (List.getElem_mem hlt)
  generalize x.rs[k]=q at hcell hl hqo hqv
  rw[←hl]at e2
  generalize p.ss[k]'_=sk at hl hsz
  have kc:=fun w'' (hf:Pu wB w'')=>ccls_c q 32 w'' (hqo.pu hf) hqv (by omega) (by omega)
  unfold CnS.v at kc
  rw[hA1]at hs hm
  rw[hA2]at hm
  refine gcSil0_ ?_;clear hs hm a;intros;rename_i a hm hs
  rw[←hA1]at hs hm
  rw[←hA2]at hm
  exact zb7e7_
 ·obtain rfl:k=x.rs.length:=by omega
  refine gsce98_ ?_;clear hs hm a;intros;rename_i a hm hs
  exact gRet1 hs rfl rfl ⟨rfl,hm.fr⟩
def lsS(x:SV):List CnS:=x.rs++x.ts.map VwV.r
structure LsX where
 k:Nat
 A:Option Nat
 c:Nat
 cs:List Value
theorem lists_c(x:SV)(wB:World)(hx:x.ok wB)(hn:x.rs.length≤4)(hn4:x.ts.length=4):Ret Tryz.prog 60 [x.v] wB (fun u w'=>∃(A:Option Nat)(c:Nat)(cs:List Value),u=slv A (lsS x).length c∧Row A (lsS x).length c 1 ((lsS x).map CnS.v) cs∧New wB w' [⟨A,93,cs⟩]∧Pu wB w'):=by
 unfold SV.v
 refine enterR Tryz.func60 rfl rfl rfl fun a hs hm=>?_
 refine gsc5af_ ?_;clear hs hm a;intros;rename_i a hm hs
 obtain⟨g1,rfl⟩:=hs.pp 1
 replace hm:=hm.zero 93
 refine dv hs (Wnt.none rfl) rfl rfl (d_appendS (A:=none) (n:=0) (c:=0) (xs:=[]) (news:=x.rs.map CnS.v) hs rfl rfl rfl rfl tab rfl rfl rfl rfl rfl hm mem_ (Row.empty 1) (by rw[List.length_map,Nat.mul_one]) (hm.fr.rd' hx.r) (CnS.vals_one _) (by show(0+x.rs.length)*24≤_;omega) (by omega)) ?_
 clear hs
 rintro _ w3 ⟨A,c,cs,rfl,hr,hM⟩ a hs
 replace hm:=hM _ rep_
 clear hM
 rw[Nat.zero_add,List.nil_append]at hr
 rw[Nat.zero_add]at hs
 refine gsc5af_ ?_;clear hs hm a;intros;rename_i a hm hs
 refine cLoop (X:=LsX) (fun X a w'=>X.k≤4∧Row X.A (x.rs.length+X.k) X.c 1 (x.rs.map CnS.v++((x.ts.take X.k).map VwV.r).map CnS.v) X.cs∧Sl Tryz.f60.ntmps [(3,slv X.A (x.rs.length+X.k) X.c),(10,.slice x.tA x.ts.length x.tc),(11,.int .i64 (x.ts.length:Int)),(12,.int .i64 (X.k:Int))] a∧Mm (fun _=>False) wB [⟨X.A,93,X.cs⟩] w') (fun X=>4-X.k) ⟨0,A,c,cs⟩ ⟨Nat.zero_le _,by dsimp only;rw[List.take_zero,List.map_nil,List.map_nil,List.append_nil];exact hr,(sb_ hs),hm.sub sub_⟩ ?_
 clear hs hm a hr
 rintro⟨k,A,c,cs⟩ a w' ⟨hk,hr,hs,hm⟩
 dsimp only at hk hr hs hm
 by_cases hlt:k<4
 ·obtain⟨b1,o1,hA1,hb1,r1⟩:=hx.t.ro (by rw[flat_len VwV.v 8 VwV.len];omega)
  have hlt':k<x.ts.length:=by omega
  have r2:=r1.flat VwV.len hlt'
  have htk:(x.ts.take (k+1)).map VwV.r=(x.ts.take k).map VwV.r++[(x.ts[k]).r]:=by
   rw[List.take_add_one,List.getElem?_eq_getElem hlt',Option.toList_some,List.map_append,List.map_singleton]
  generalize x.ts[k]=q at r2 htk
  unfold VwV.v at r2
  rw[hA1]at hs
  refine gsc5af_ ?_;clear hs hm a;intros;rename_i a hm hs
  refine dv hs (Wnt.none rfl) rfl rfl (d_append (A:=A) (n:=x.rs.length+k) (c:=c) (news:=[.slice q.r.A q.r.xs.length q.r.c]) hs rfl rfl rfl rfl rfl tab rfl rfl rfl rfl rfl hm mem_ hr rfl (hm.ro (n:=1) mem_ (cutF_ok rfl)) rfl (by show(x.rs.length+k+1)*24≤_;omega) (by omega)) ?_
  clear hs
  rintro _ w4 ⟨A2,c2,cs2,rfl,hr2,hM⟩ a hs
  replace hm:=hM _ rep_
  clear hM
  refine gsc5af_ ?_;clear hs hm a;intros;rename_i a hm hs
  rw[←hA1]at hs
  refine⟨⟨k+1,A2,c2,cs2⟩,by dsimp only;omega,by dsimp only;omega,?_,(sb_ hs),hm.sub sub_⟩
  dsimp only
  rw[htk,List.map_append,←List.append_assoc]
  exact hr2
 ·obtain rfl:k=4:=by omega
  have hl:(lsS x).length=x.rs.length+4:=by unfold lsS;rw[List.length_append,List.length_map,hn4]
  have hmp:(lsS x).map CnS.v=x.rs.map CnS.v++((x.ts.take 4).map VwV.r).map CnS.v:=by unfold lsS;rw[List.map_append,List.take_of_length_le (by omega)]
  refine gsc5af_ ?_;clear hs hm a;intros;rename_i a hm hs
  rw[hl,hmp]
  exact gRet1 hs rfl rfl ⟨A,c,cs,rfl,hr,hm.new (List.Sublist.refl _),hm.fr⟩
theorem gpSim0_{G H:Prop}(k:H)(s:Bx H→G:=by intro k_;(repeat(first|(refine ov701a_ ?_;(try clear hs a);intro a hs)|((with_reducible apply lCons);first|(refine dv hs gw_ rfl rfl (by first|exact da_|exact d_makeSlice hs rfl rfl rfl tab rfl rfl rfl rfl rfl (by omega) rfl hm) ?_;(try clear hs hm a);rintro _ w_ ⟨g_,rfl,-,hm⟩ a hs)|(refine stn hs rfl rfl ds_ ?_;(try clear hs hm a);rintro-w_ hm a hs))|refine sc_ ?_));have m_:=hm;have s_:=hs;clear hs;(try clear hm);revert m_ s_ a;(try revert w_);(repeat revert g_);exact k_.h):G:=s ⟨k⟩
theorem gcSim1_{G H:Prop}(k:H)(s:Bx H→G:=by intro k_;(repeat(first|(refine ov701a_ ?_;(try clear hs a);intro a hs)|((with_reducible apply lCons);first|(refine dv hs gw_ rfl rfl (by first|exact da_|exact d_makeSlice hs rfl rfl rfl tab rfl rfl rfl rfl rfl (by omega) rfl hm) ?_;(try clear hs hm a);rintro _ w_ ⟨g_,rfl,-,hm⟩ a hs)|(refine stn hs rfl rfl ds_ ?_;(try clear hs hm a);rintro-w_ hm a hs))|refine sc_ ?_|((with_reducible apply lCons);first|(refine dvc hs hm gw_ rfl rfl rfl rfl rfl (pl 61 rfl) (kp _ hm.fr) ?_;(try clear hs hm a);intro w_ hm a hs))));(first|(have m_:=hm;have s_:=hs;clear hs;(try clear hm);revert m_ s_ a)|((first|refine rexc_ hs hm ?_|refine rexl_ hs hm ?_|refine rexg_ hs hm ?_|refine rexq_ hs hm ?_);intro a hm hs;revert hm hs a));(try revert w_);(repeat revert g_);exact k_.h):G:=s ⟨k⟩
def mV(f:Nat→Option Addr × Nat × Nat)(k:Int):List Value:=[.slice (f 0).1 (f 0).2.1 (f 0).2.2,.int .u16 k,.slice (f 1).1 (f 1).2.1 (f 1).2.2,.slice (f 2).1 (f 2).2.1 (f 2).2.2,.slice (f 3).1 (f 3).2.1 (f 3).2.2]
def MO.f(y:MO):Nat→Option Addr × Nat × Nat
 |0=>(ad y.bA,y.bs.length,y.bc)
 |1=>(ad y.m.cA,y.m.xs.length,y.m.cc)
 |2=>(ad y.m.lA,y.m.ls.length,y.m.lc)
 |3=>(ad y.tA,y.ts.length,y.tc)
 |_=>(none,0,0)
theorem MO.vs_f(y:MO):y.vs=mV y.f y.key:=rfl
def lsP(p:PV)(A:Option Addr)(c:Nat)(bs:List Int)(key:Int):LS:=⟨A,p.ss.length,c,bs,key,p.sA,p.sc,p.ss⟩
theorem lsP_ok [HB]{p:PV}{A:Option Addr}{c:Nat}{bs:List Int}{key:Int}{w:World}(hp:p.ok w)(hpv:p.val)(hA:Rd w w.heap.size A (ints bs))(hg:LGap bs p.ss):(lsP p A c bs key).ok w:=⟨hg.len,rfl,hA,hp.s,(fun y hy=>by
  have hy':y∈bs:=hy
  obtain⟨i,hi,rfl⟩:=List.getElem_of_mem hy'
  have h1:=hg.b i hi
  have h2:=hpv.sz.bd (p.ss[i]'(by rw[←hg.len];exact hi)) (List.getElem_mem _)
  rw[getI (l:=bs) (k:=i) hi,getI (l:=p.ss) (k:=i) (by rw[←hg.len];exact hi)]at h1
  omega),hpv.sz.bd,hpv.sz.four⟩
theorem lsS_ok{x:SV}{w:World}(h:x.ok w):∀y∈lsS x,y.ok w:=fun y hy=>by
 rcases List.mem_append.1 hy with hy|hy
 ·exact h.rr y hy
 ·obtain⟨z,hz,rfl⟩:=List.mem_map.1 hy
  exact h.tt z hz
theorem lsS_val [HB]{x:SV}{ss:List Int}{B:Int}(h:x.val ss B):∀y∈lsS x,∀c∈y.xs,c.val:=fun y hy=>by
 rcases List.mem_append.1 hy with hy|hy
 ·exact h.rv hy
 ·obtain⟨z,hz,rfl⟩:=List.mem_map.1 hy
  exact(h.t z hz).v
theorem lsS_len [HB]{x:SV}{p:PV}{B:Int}(hpv:p.val)(h:x.val p.ss B):∀y∈lsS x,y.xs.length≤32:=fun y hy=>by
 rcases List.mem_append.1 hy with hy|hy
 ·obtain⟨k,hk,rfl⟩:=List.getElem_of_mem hy
  have hk':k<p.ss.length:=by have:=h.n;omega
  have h1:=h.rl hk hk'
  have h2:=hpv.sz.bd _ (List.getElem_mem hk')
  omega
 ·obtain⟨z,hz,rfl⟩:=List.mem_map.1 hy
  have:=(h.t z hz).n
  omega
structure RwX where
 rs:List CV
 A:Option Nat
 c:Nat
 cs:List Value
theorem cvs_snoc(xs:List CV)(q:CV):cvs xs++q.cs=cvs (xs++[q]):=by unfold cvs;rw[List.flatMap_append,List.flatMap_singleton]
theorem inject_c [HB](p:PV)(A:Option Addr)(c:Nat)(bs:List Int)(key:Int)(x:SV)(B:Int)(wB:World)(hp:p.ok wB)(hpv:p.val)(hA:Rd wB wB.heap.size A (ints bs))(hnc:p.ss.length≤c)(hg:LGap bs p.ss)(hkey:0≤key∧key≤65535)(hx:x.ok wB)(h:x.val p.ss B)(hB:B≤1099511627776):Ret Tryz.prog 33 [p.v,.agg #[.slice A p.ss.length c,.int .u16 key],x.v] wB (fun u w'=>∃(f:Nat→Option Addr × Nat × Nat)(k:Int)(b:Bool),u= .tuple #[.agg (mV f k).toArray,.bool b]∧(b=true→∃y:MO,y.vs=mV f k∧y.ok∧y.d.val p.ss B∧New wB w' y.hps)∧Pu wB w'):=by
 have hs1:=hpv.sz.one
 have hs4:=hpv.sz.four
 have hbl:=hg.len
 have hn:=h.n
 have htn:=h.tn
 obtain⟨gb,ob,rfl,hbb,rB⟩:=hA.ro (by rw[ints_len];omega)
 obtain⟨X,hXe⟩:∃X,lsP p (some ⟨gb,ob,none⟩) c bs key=X:=⟨_,rfl⟩
 have hX:X.ok wB:=by rw[←hXe];exact lsP_ok hp hpv hA hg
 have hXl:X.l= .agg #[.slice (some ⟨gb,ob,none⟩) p.ss.length c,.int .u16 key]:=by rw[←hXe];rfl
 have hXs:X.s= .slice p.sA p.ss.length p.sc:=by rw[←hXe];rfl
 have kpr:=fun(w'':World) (hf:Pu wB w'') (q:CN) (hq:q.val)=>rprp_c X q.t q.v q.r q.o w'' (hX.pu hf) (CN.tag hq)
 have krw:=fun(w'':World) (hf:Pu wB w'') (q:CN) (hq:q.val)=>rawz_c X q w'' (hX.pu hf) hq
 rw[hXs]at kpr
 rw[hXs,hXl]at krw
 unfold cnV at kpr
 have kvS:=fun w'' (hf:Pu wB w'')=>vldS_c p x B w'' (hp.pu hf) hpv (hx.pu hf) h hB
 have kvl:=fun w'' (hf:Pu wB w'')=>lv_c (some ⟨gb,ob,none⟩) p.ss.length c bs key p.sA p.sc p.ss w'' rfl hnc (hf.rd' hA) (hf.rd' hp.s) hpv.sz hg
 have kls:=fun w'' (hf:Pu wB w'')=>lists_c x w'' (hx.pu hf) (by omega) htn
 have hlo:=lsS_ok hx
 have hlv:=lsS_val h
 have hll:=lsS_len hpv h
 have hlsn:(lsS x).length=x.rs.length+4:=by unfold lsS;rw[List.length_append,List.length_map,htn]
 unfold PV.v SV.v at*
 refine enterR Tryz.func33 rfl rfl rfl fun a hs hm=>?_
 repeat(first|(refine gpSim0_ ?_;clear hs hm a;intros;rename_i a hm hs)|refine sc_ ?_|((with_reducible apply lCons);first|(refine dvc hs hm gw_ rfl rfl rfl rfl rfl (pl 59 rfl) (kvS _ hm.fr) ?_;clear hs hm a;intro w hm a hs)|(refine dvc hs hm gw_ rfl rfl rfl rfl rfl (pl 39 rfl) (kvl _ hm.fr) ?_;clear hs hm a;intro w hm a hs)))
 obtain⟨g3,rfl⟩:=hs.pp 3
 obtain⟨g4,rfl⟩:=hs.pp 4
 obtain⟨g5,rfl⟩:=hs.pp 5
 obtain⟨g6,rfl⟩:=hs.pp 6
 refine st hs rfl rfl rfl (d_call hs rfl rfl rfl (pl 60 rfl) ((kls _ hm.fr))) ?_;clear hs a;rintro _ w1 ⟨lA,lc,lcs,rfl,hlr,hN,hf⟩ a hs
 replace hm:=hm.gain hf hN
 clear hN hf kvS kvl kls
 simp only[List.cons_append,List.nil_append]at hm
 obtain⟨ga,rfl⟩:=hlr.some_ (by omega)
 refine gs088d_ ?_;clear hs hm a;intros;rename_i a hm hs
 refine cLoop (X:=Nat) (fun k a w'=>k≤(lsS x).length∧Sl Tryz.f33.ntmps [(3,pt g3),(4,pt g4),(5,pt g5),(6,pt g6),(37,slv (some ga) (lsS x).length lc),(38,.int .i64 ((lsS x).length:Int)),(39,.int .i64 (k:Int))] a∧Mm (fun _=>False) wB [⟨some ga,93,lcs⟩,⟨some g6,32,[nS,.int .u16 0,nS,nS,nS]⟩,⟨some g5,91,[.slice x.rA x.rs.length x.rc,.slice x.tA x.ts.length x.tc]⟩,⟨some g4,25,[.slice (some ⟨gb,ob,none⟩) p.ss.length c,.int .u16 key]⟩,⟨some g3,38,(p.cl [])⟩] w') (fun k=>(lsS x).length-k) 0 ⟨Nat.zero_le _,(sb_ hs),hm⟩ ?_
 clear hs hm a
 rintro k a w' ⟨hk,hs,hm⟩
 by_cases hlt:k<(lsS x).length
 ·have hcell:lcs[k]?=some (.slice ((lsS x)[k]).A ((lsS x)[k]).xs.length ((lsS x)[k]).c):=hlr.get (by rw[List.getElem?_map,List.getElem?_eq_getElem hlt];rfl)
  have hyo:=hlo _ (List.getElem_mem hlt)
  have hyv:=hlv _ (List.getElem_mem hlt)
  have hyl:=hll _ (List.getElem_mem hlt)
  generalize(lsS x)[k]=y at hcell hyo hyv hyl
  refine gs088d_ ?_;clear hs hm a;intros;rename_i a hm hs
  refine cLoop (X:=Nat) (fun i a w'=>i≤y.xs.length∧Sl Tryz.f33.ntmps [(3,pt g3),(4,pt g4),(5,pt g5),(6,pt g6),(37,slv (some ga) (lsS x).length lc),(38,.int .i64 ((lsS x).length:Int)),(39,.int .i64 (k:Int)),(43,.slice y.A y.xs.length y.c),(44,.int .i64 (y.xs.length:Int)),(45,.int .i64 (i:Int))] a∧Mm (fun _=>False) wB [⟨some ga,93,lcs⟩,⟨some g6,32,[nS,.int .u16 0,nS,nS,nS]⟩,⟨some g5,91,[.slice x.rA x.rs.length x.rc,.slice x.tA x.ts.length x.tc]⟩,⟨some g4,25,[.slice (some ⟨gb,ob,none⟩) p.ss.length c,.int .u16 key]⟩,⟨some g3,38,(p.cl [])⟩] w') (fun i=>y.xs.length-i) 0 ⟨Nat.zero_le _,(sb_ hs),hm⟩ ?_
  clear hs hm a
  rintro i a w' ⟨hi,hs,hm⟩
  by_cases hlt2:i<y.xs.length
  ·obtain⟨b2,o2,hA2,hb2,r2⟩:=Rd.ro hyo (by rw[cns_len];omega)
   have r3:=r2.flat CN.cs_len hlt2
   have hqv:=hyv _ (List.getElem_mem hlt2)
   generalize y.xs[i]=q at r3 hqv
   have kp:=fun(w'':World) (hf:Pu wB w'')=>kpr w'' hf q hqv
   unfold CN.cs at r3
   rw[hA2]at hs
   clear r2
   cases hpf:prpF X.ss q.t q.v q.r q.o
   ·rw[hpf]at kp
    refine gcSim1_ ?_;clear hs hm a;intros;rename_i a hm hs
    exact gRetN tab hs rfl (.cons (.cells rfl rfl rfl rfl (hm.ro (k:=0) (n:=5) (g:=g6) mem_ (cutF_ok rfl))) (.cons (.tmp rfl) .nil)) ⟨nof,0,false,rfl,(fun e=>by cases e),hm.fr⟩
   ·rw[hpf]at kp
    refine gcSim1_ ?_;clear hs hm a;intros;rename_i a hm hs
    rw[←hA2]at hs
    exact⟨i+1,by omega,by omega,(sb_ hs),hm.sub sub_⟩
  ·obtain rfl:i=y.xs.length:=by omega
   refine gs088d_ ?_;clear hs hm a;intros;rename_i a hm hs
   exact zb7e7_
 obtain rfl:k=(lsS x).length:=by omega
 refine gs088d_ ?_;clear hs hm a;intros;rename_i a hm hs
 replace hm:=(hm.sub (M':=[⟨some g6,32,[nS,.int .u16 0,nS,nS,nS]⟩,⟨some g5,91,[.slice x.rA x.rs.length x.rc,.slice x.tA x.ts.length x.tc]⟩,⟨some g4,25,[.slice (some ⟨gb,ob,none⟩) p.ss.length c,.int .u16 key]⟩,⟨some g3,38,(p.cl [])⟩]) (List.Sublist.cons _ (List.Sublist.refl _))).zero 3
 refine cMid (fun a w=>∃(g12 gc gl:Nat)(bA:Option Nat)(bc:Nat)(bcs:List Value),Row bA p.ss.length bc 1 (ints bs) bcs∧Sl Tryz.f33.ntmps [(3,pt g3),(4,pt g4),(5,pt g5),(6,pt g6),(12,pt g12)] a∧Mm (fun _=>False) wB [⟨some g12,32,[slv bA p.ss.length bc,.int .u16 key,.slice (some ⟨gc,0,none⟩) 512 512,.slice (some ⟨gl,0,none⟩) 4 4,nS]⟩,⟨bA,3,bcs⟩,⟨some gc,103,cvs (List.replicate 512 ⟨0,0⟩)⟩,⟨some gl,61,ln4⟩,⟨some g6,32,[nS,.int .u16 0,nS,nS,nS]⟩,⟨some g5,91,[.slice x.rA x.rs.length x.rc,.slice x.tA x.ts.length x.tc]⟩,⟨some g4,25,[.slice (some ⟨gb,ob,none⟩) p.ss.length c,.int .u16 key]⟩,⟨some g3,38,(p.cl [])⟩] w) ?_ ?_
 ·with_reducible repeat(first|apply gThen|apply wp_seq)
  refine cDrawT (n:=12) (.s [0,1,3,4]<| .e [(2,.x<| .t 5<| .e [(6,.x<| .e [(7,.x<| .s [8,9]<| .o 10<| .o 11<| .d),(10,.o 7<| .x<| .s [8,9]<| .o 11<| .d)]),(7,.x<| .e [(6,.x<| .s [8,9]<| .o 10<| .o 11<| .d),(10,.o 6<| .x<| .s [8,9]<| .o 11<| .d)]),(10,.e [(6,.x<| .o 7<| .x<| .s [8,9]<| .o 11<| .d),(7,.x<| .o 6<| .x<| .s [8,9]<| .o 11<| .d)])]),(6,.x<| .e [(2,.x<| .t 5<| .e [(7,.x<| .s [8,9]<| .o 10<| .o 11<| .d),(10,.o 7<| .x<| .s [8,9]<| .o 11<| .d)]),(10,.o 2<| .x<| .t 5<| .o 7<| .x<| .s [8,9]<| .o 11<| .d)]),(10,.e [(2,.x<| .t 5<| .e [(6,.x<| .o 7<| .x<| .s [8,9]<| .o 11<| .d),(7,.x<| .o 6<| .x<| .s [8,9]<| .o 11<| .d)]),(6,.x<| .o 2<| .x<| .t 5<| .o 7<| .x<| .s [8,9]<| .o 11<| .d)])]) [⟨some g4,25,[.slice (some ⟨gb,ob,none⟩) p.ss.length c,.int .u16 key]⟩] hm rfl rfl ?_
  clear hm;intro t_ w1_ hm
  repeat' (first|(refine dgd799_ ?_;clear t_ hs hm a;intros;rename_i a hm hs t_)|refine tE t_ ?_|refine tC ?_ ?_|exact tN|intro t_|(refine oDo (i:=2) hs rfl (Wnt.none rfl) rfl rfl (by exact d_appendS (A:=none) (n:=0) (c:=0) (xs:=[]) (news:=ints bs) hs rfl rfl rfl rfl tab rfl rfl rfl rfl rfl hm mem_ (Row.empty 1) (by rw[ints_len,hbl];exact(Nat.mul_one _).symm) (hm.fr.rd' hA) (ints_one _) (by show(0+p.ss.length)*8≤_;omega) (by omega)) ?_;clear hs;rintro _ w1 ⟨bA,bc,bcs,rfl,hbr,hM⟩ a hs;(replace hm:=hM _ rep_);(clear hM);(rw[Nat.zero_add,List.nil_append]at hbr);(rw[Nat.zero_add]at hs);replace t_:=tX t_;refine⟨(hm.sub sub_),?_⟩)|(refine oDo (i:=6) hs rfl (Wnt.none rfl) rfl rfl (by exact d_makeSlice (n:=512) hs rfl rfl rfl tab rfl rfl rfl rfl rfl (by omega) rfl hm) ?_;clear hs;rintro _ w1 ⟨gc,rfl,-,hm⟩ a hs;(rw[zrep_cvs]at hm);replace t_:=tX t_;refine⟨(hm.sub sub_),?_⟩)|(refine oDo (i:=7) hs rfl (Wnt.none rfl) rfl rfl (by exact d_call hs rfl rfl rfl (pl 62 rfl) ((empty_c _))) ?_;clear hs;rintro _ w1 ⟨gl,rfl,hN,hf⟩ a hs;(replace hm:=gainE hm hf hN);(clear hf hN);(simp only[List.cons_append,List.nil_append]at hm);replace t_:=tX t_;refine⟨(hm.sub sub_),?_⟩)|(refine tD t_ ?_;(obtain⟨g12,rfl⟩:=hs.pp 12);(first|exact And.intro rfl ⟨g12,gc,gl,bA,bc,bcs,hbr,(sb_ hs),hm.sel [0,2,1,7,3,4,5,6] (by decide) rfl⟩|exact And.intro rfl ⟨g12,gc,gl,bA,bc,bcs,hbr,(sb_ hs),hm.sel [1,2,0,7,3,4,5,6] (by decide) rfl⟩))|fail)
 clear hs hm a
 rintro a w ⟨g12,gc,gl,bA,bc,bcs,hbr,hs,hm⟩
 refine gs088d_ ?_;clear hs hm a;intros;rename_i a hm hs
 refine cLoop (X:=Nat × List CV) (fun X a w'=>X.1≤x.rs.length∧X.2.length=512∧(∀z∈X.2,z.val)∧Sl Tryz.f33.ntmps [(3,pt g3),(4,pt g4),(5,pt g5),(6,pt g6),(12,pt g12),(68,.slice x.rA x.rs.length x.rc),(69,.int .i64 (x.rs.length:Int)),(70,.int .i64 (X.1:Int))] a∧Mm (fun _=>False) wB [⟨some g12,32,[slv bA p.ss.length bc,.int .u16 key,.slice (some ⟨gc,0,none⟩) 512 512,.slice (some ⟨gl,0,none⟩) 4 4,nS]⟩,⟨bA,3,bcs⟩,⟨some gc,103,cvs X.2⟩,⟨some gl,61,ln4⟩,⟨some g6,32,[nS,.int .u16 0,nS,nS,nS]⟩,⟨some g5,91,[.slice x.rA x.rs.length x.rc,.slice x.tA x.ts.length x.tc]⟩,⟨some g4,25,[.slice (some ⟨gb,ob,none⟩) p.ss.length c,.int .u16 key]⟩,⟨some g3,38,(p.cl [])⟩] w') (fun X=>x.rs.length-X.1) (0,List.replicate 512 ⟨0,0⟩) ⟨Nat.zero_le _,List.length_replicate,(fun z hz=>by rw[List.eq_of_mem_replicate hz];exact⟨.inl rfl,by dsimp only;omega,by dsimp only;omega⟩),(sb_ hs),hm⟩ ?_
 clear hs hm a
 rintro⟨k,xs⟩ a w' ⟨hk,hxl,hxv,hs,hm⟩
 dsimp only at hk hxl hxv hs hm
 by_cases hlt:k<x.rs.length
 ·obtain⟨b1,o1,hA1,hb1,r1⟩:=hx.r.ro (by rw[List.length_map];omega)
  have hcell:(x.rs.map CnS.v)[k]?=some (.slice (x.rs[k]).A (x.rs[k]).xs.length (x.rs[k]).c):=by rw[List.getElem?_map,List.getElem?_eq_getElem hlt];rfl
  have hl:=h.rl hlt (by omega)
  have hyo:=hx.rr _ (List.getElem_mem hlt)
  have hyv:=h.rv (List.getElem_mem hlt)
  have e1:=ints_some (xs:=bs) (k:=k) (by omega)
  have hgb:=hg.b k (by omega)
  rw[getI (l:=bs) (k:=k) (by omega),getI (l:=p.ss) (k:=k) (by omega)]at hgb
  have hsz:=hpv.sz.bd _ (List.getElem_mem (show k<p.ss.length by omega))
  generalize x.rs[k]=y at hcell hl hyo hyv
  generalize p.ss[k]'_=sk at*
  generalize bs[k]'_=bk at*
  rw[hA1]at hs hm
  refine gs088d_ ?_;clear hs hm a;intros;rename_i a hm hs
  rw[←hA1]at hs hm
  refine cLoop (X:=Nat × List CV) (fun X a w'=>X.1≤y.xs.length∧X.2.length=512∧(∀z∈X.2,z.val)∧Sl Tryz.f33.ntmps [(3,pt g3),(4,pt g4),(5,pt g5),(6,pt g6),(12,pt g12),(68,.slice x.rA x.rs.length x.rc),(69,.int .i64 (x.rs.length:Int)),(70,.int .i64 (k:Int)),(13,.int .i64 (k:Int)),(75,.slice y.A y.xs.length y.c),(76,.int .i64 (y.xs.length:Int)),(77,.int .i64 (X.1:Int))] a∧Mm (fun _=>False) wB [⟨some g12,32,[slv bA p.ss.length bc,.int .u16 key,.slice (some ⟨gc,0,none⟩) 512 512,.slice (some ⟨gl,0,none⟩) 4 4,nS]⟩,⟨bA,3,bcs⟩,⟨some gc,103,cvs X.2⟩,⟨some gl,61,ln4⟩,⟨some g6,32,[nS,.int .u16 0,nS,nS,nS]⟩,⟨some g5,91,[.slice x.rA x.rs.length x.rc,.slice x.tA x.ts.length x.tc]⟩,⟨some g4,25,[.slice (some ⟨gb,ob,none⟩) p.ss.length c,.int .u16 key]⟩,⟨some g3,38,(p.cl [])⟩] w') (fun X=>y.xs.length-X.1) (0,xs) ⟨Nat.zero_le _,hxl,hxv,(sb_ hs),hm⟩ ?_
  clear hs hm a
  rintro⟨i,ys⟩ a w' ⟨hi,hyl,hyw,hs,hm⟩
  dsimp only at hi hyl hyw hs hm
  by_cases hlt2:i<y.xs.length
  ·obtain⟨b2,o2,hA2,hb2,r2⟩:=Rd.ro hyo (by rw[cns_len];omega)
   have r3:=r2.flat CN.cs_len hlt2
   have hqv:=hyv _ (List.getElem_mem hlt2)
   generalize y.xs[i]=q at r3 hqv
   unfold CN.cs at r3
   obtain⟨m,hm1⟩:∃m:Nat,bk+(i:Int)=(m:Int):=⟨(bk+(i:Int)).toNat,by omega⟩
   have hm2:m<512:=by omega
   rw[hA2]at hs
   clear r2
   refine gs088d_ ?_;clear hs hm a;intros;rename_i a hm hs
   obtain⟨g16,rfl⟩:=hs.pp 16
   refine cMid (fun a w=>Sl Tryz.f33.ntmps [(3,pt g3),(4,pt g4),(5,pt g5),(6,pt g6),(12,pt g12),(68,.slice x.rA x.rs.length x.rc),(69,.int .i64 (x.rs.length:Int)),(70,.int .i64 (k:Int)),(13,.int .i64 (k:Int)),(75,.slice y.A y.xs.length y.c),(76,.int .i64 (y.xs.length:Int)),(77,.int .i64 (i:Int))] a∧Mm (fun _=>False) wB [⟨some g12,32,[slv bA p.ss.length bc,.int .u16 key,.slice (some ⟨gc,0,none⟩) 512 512,.slice (some ⟨gl,0,none⟩) 4 4,nS]⟩,⟨bA,3,bcs⟩,⟨some gc,103,(cvs ys).take (m*2)++[.int .u8 (rawC X q).t,.int .u16 (rawC X q).v]++(cvs ys).drop (m*2+2)⟩,⟨some gl,61,ln4⟩,⟨some g6,32,[nS,.int .u16 0,nS,nS,nS]⟩,⟨some g5,91,[.slice x.rA x.rs.length x.rc,.slice x.tA x.ts.length x.tc]⟩,⟨some g4,25,[.slice (some ⟨gb,ob,none⟩) p.ss.length c,.int .u16 key]⟩,⟨some g3,38,(p.cl [])⟩] w) ?_ ?_
   ·with_reducible repeat(first|apply gThen|apply wp_seq)
    refine cDrawT (n:=20) (.s [0,1,2,3,4,5,6,7,8,9,10,11,12,13]<| .o 14<| .x<| .s [15,16,17,18]<| .o 19<| .x<| .d) [⟨some g16,95,[.int .u8 q.t,.int .u16 q.v,.int .i64 q.r,.int .i64 q.o]⟩,⟨some g12,32,[slv bA p.ss.length bc,.int .u16 key,.slice (some ⟨gc,0,none⟩) 512 512,.slice (some ⟨gl,0,none⟩) 4 4,nS]⟩,⟨some g4,25,[.slice (some ⟨gb,ob,none⟩) p.ss.length c,.int .u16 key]⟩,⟨some g3,38,(p.cl [])⟩] hm rfl rfl ?_
    clear hm;intro t_ w1_ hm
    repeat' (first|(refine dgd799_ ?_;clear t_ hs hm a;intros;rename_i a hm hs t_)|refine tE t_ ?_|refine tC ?_ ?_|exact tN|intro t_|(refine oDo (i:=14) hs rfl (Wnt.none rfl) rfl rfl (by exact d_call hs rfl rfl rfl (pl 63 rfl) ((krw _ hm.fr q hqv))) ?_;clear hs;rintro _ w1 ⟨rfl,hf⟩ a hs;(replace hm:=hm.pu hf);(clear hf);replace t_:=tX t_;refine⟨(hm.sub sub_),?_⟩)|(refine oDoN (i:=19) hs rfl (Wnt.none rfl) rfl (by exact d_store hs rfl rfl rfl tab rfl rfl rfl rfl hm rep_ (putG (by show m*2+2≤_;rw[cvs_len];omega))) ?_;clear hs;rintro-w1 hm a hs;replace t_:=tX t_;refine⟨(hm.sub sub_),?_⟩)|(refine tD t_ ?_;(rw[←hA2]at hs);(exact And.intro rfl ⟨(sb_ hs),hm.sub sub_⟩))|fail)
   clear hs hm a
   rintro a w ⟨hs,hm⟩
   rw[show(cvs ys).take (m*2)++[.int .u8 (rawC X q).t,.int .u16 (rawC X q).v]++(cvs ys).drop (m*2+2)=cvs (ys.set m (rawC X q))from flat_splice CV.cs 2 CV.cs_len ys m (rawC X q) (by omega)]at hm
   refine gs088d_ ?_;clear hs hm a;intros;rename_i a hm hs
   refine⟨(i+1,ys.set m (rawC X q)),by dsimp only;omega,by dsimp only;omega,by dsimp only;rw[List.length_set];exact hyl,fun z hz=>?_,(sb_ hs),hm⟩
   dsimp only at hz
   rcases List.mem_or_eq_of_mem_set hz with hz|rfl
   ·exact hyw z hz
   ·exact rawC_val X hqv
  ·obtain rfl:i=y.xs.length:=by omega
   refine gs088d_ ?_;clear hs hm a;intros;rename_i a hm hs
   exact⟨(k+1,ys),by dsimp only;omega,by dsimp only;omega,hyl,hyw,(sb_ hs),hm⟩
 obtain rfl:k=x.rs.length:=by omega
 refine gs088d_ ?_;clear hs hm a;intros;rename_i a hm hs
 replace hm:=(hm.zero 52).perm (List.Perm.swap _ _ _)
 refine cLoop (X:=MtX) (fun X a w'=>X.rs.length≤4∧Sl Tryz.f33.ntmps [(3,pt g3),(4,pt g4),(5,pt g5),(6,pt g6),(12,pt g12),(104,.slice x.tA x.ts.length x.tc),(105,.int .i64 (x.ts.length:Int)),(106,.int .i64 (X.rs.length:Int))] a∧Mm (fun _=>False) wB (⟨some g12,32,[slv bA p.ss.length bc,.int .u16 key,.slice (some ⟨gc,0,none⟩) 512 512,.slice (some ⟨gl,0,none⟩) 4 4,slv X.tA X.rs.length X.tc]⟩::⟨X.tA,52,X.tcs⟩::⟨bA,3,bcs⟩::⟨some gc,103,cvs xs⟩::⟨some gl,61,ln4⟩::⟨some g6,32,[nS,.int .u16 0,nS,nS,nS]⟩::⟨some g5,91,[.slice x.rA x.rs.length x.rc,.slice x.tA x.ts.length x.tc]⟩::⟨some g4,25,[.slice (some ⟨gb,ob,none⟩) p.ss.length c,.int .u16 key]⟩::⟨some g3,38,(p.cl [])⟩::X.rs.map ThO.hp) w'∧Row X.tA X.rs.length X.tc 8 (X.rs.flatMap ThO.v) X.tcs∧(∀r∈X.rs,r.ok)∧(∀r∈X.rs,r.d.val B)) (fun X=>4-X.rs.length) ⟨[],none,0,[]⟩ ⟨Nat.zero_le _,(sb_ hs),hm,Row.empty 8,(fun r hr=>by cases hr),(fun r hr=>by cases hr)⟩ ?_
 clear hs hm a
 rintro⟨rs,tA,tc,tcs⟩ a w' ⟨hlen,hs,hm,hlr3,hok,hov⟩
 dsimp only at hlen hs hm hlr3 hok hov
 by_cases hlt:rs.length<4
 ·obtain⟨b1,o1,hA1,hb1,r1⟩:=hx.t.ro (by rw[flat_len VwV.v 8 VwV.len];omega)
  have hlt':rs.length<x.ts.length:=by omega
  have r2:=r1.flat VwV.len hlt'
  have hyo:=hx.tt _ (List.getElem_mem hlt')
  have hyv:=h.t _ (List.getElem_mem hlt')
  generalize x.ts[rs.length]=z at r2 hyo hyv
  obtain⟨⟨sst,pc,cnt,han,sav,trp,cod⟩,y⟩:=z
  obtain⟨⟨v1,v2,v3,v4,v5,v6,v7⟩,v8,v9⟩:=hyv
  unfold VwV.v at r2
  dsimp only at*
  rw[hA1]at hs hm
  clear r1
  refine gs088d_ ?_;clear hs hm a;intros;rename_i a hm hs
  rw[←hA1]at hs hm
  obtain⟨g18,rfl⟩:=hs.pp 18
  obtain⟨g19,rfl⟩:=hs.pp 19
  replace hm:=(hm.sub (List.Sublist.cons_cons _ (List.Sublist.cons _ (List.Sublist.refl _)))).zero 103
  refine cLoop (X:=RwX) (fun X a w'=>X.rs.length≤8∧Sl Tryz.f33.ntmps [(3,pt g3),(4,pt g4),(5,pt g5),(6,pt g6),(12,pt g12),(104,.slice x.tA x.ts.length x.tc),(105,.int .i64 (x.ts.length:Int)),(106,.int .i64 (rs.length:Int)),(19,pt g19),(126,.slice y.A y.xs.length y.c),(127,.int .i64 (y.xs.length:Int)),(128,.int .i64 (X.rs.length:Int))] a∧Mm (fun _=>False) wB (⟨X.A,103,X.cs⟩::⟨some g19,52,[.int .i64 sst,slv X.A X.rs.length X.c,.int .i64 pc,.int .i64 cnt,.int .i64 han,.int .i64 sav,.int .i64 trp,.int .u16 cod]⟩::(⟨some g12,32,[slv bA p.ss.length bc,.int .u16 key,.slice (some ⟨gc,0,none⟩) 512 512,.slice (some ⟨gl,0,none⟩) 4 4,slv tA rs.length tc]⟩::⟨tA,52,tcs⟩::⟨bA,3,bcs⟩::⟨some gc,103,cvs xs⟩::⟨some gl,61,ln4⟩::⟨some g6,32,[nS,.int .u16 0,nS,nS,nS]⟩::⟨some g5,91,[.slice x.rA x.rs.length x.rc,.slice x.tA x.ts.length x.tc]⟩::⟨some g4,25,[.slice (some ⟨gb,ob,none⟩) p.ss.length c,.int .u16 key]⟩::⟨some g3,38,(p.cl [])⟩::rs.map ThO.hp)) w'∧Row X.A X.rs.length X.c 2 (cvs X.rs) X.cs∧(∀z∈X.rs,z.val)) (fun X=>8-X.rs.length) ⟨[],none,0,[]⟩ ⟨Nat.zero_le _,(sb_ hs),hm,Row.empty 2,(fun c hc=>by cases hc)⟩ ?_
  clear hs hm a
  rintro⟨zs,A2,c2,cs2⟩ a w' ⟨hzl,hs,hm,hr,hzv⟩
  dsimp only at hzl hs hm hr hzv
  by_cases hlt2:zs.length<8
  ·obtain⟨b2,o2,hA2,hb2,r2⟩:=Rd.ro hyo (by rw[cns_len];omega)
   have hzy:zs.length<y.xs.length:=by omega
   have r3:=r2.flat CN.cs_len hzy
   have hqv:=v9 _ (List.getElem_mem hzy)
   generalize y.xs[zs.length]=q at r3 hqv
   unfold CN.cs at r3
   rw[hA2]at hs
   clear r2
   refine gs088d_ ?_;clear hs hm a;intros;rename_i a hm hs
   refine st hs rfl rfl rfl (d_call hs rfl rfl rfl (pl 63 rfl) ((krw _ hm.fr q hqv))) ?_;clear hs a;rintro _ w1 ⟨rfl,hf⟩ a hs
   replace hm:=hm.pu hf
   clear hf
   refine gs088d_ ?_;clear hs hm a;intros;rename_i a hm hs
   refine dv hs (Wnt.none rfl) rfl rfl (d_append (A:=A2) (n:=zs.length) (c:=c2) (news:=[.int .u8 (rawC X q).t,.int .u16 (rawC X q).v]) hs rfl rfl rfl rfl rfl tab rfl rfl rfl rfl rfl hm mem_ hr rfl (hm.ro (n:=2) mem_ (cutF_ok rfl)) rfl (by show(zs.length+1)*4≤_;omega) (by omega)) ?_
   clear hs
   rintro _ w4 ⟨A3,c3,cs3,rfl,hr3,hM⟩ a hs
   replace hm:=hM _ rep_
   clear hM
   rw[show cvs zs++[.int .u8 (rawC X q).t,.int .u16 (rawC X q).v]=cvs (zs++[rawC X q])from cvs_snoc _ _]at hr3
   refine gs088d_ ?_;clear hs hm a;intros;rename_i a hm hs
   rw[←hA2]at hs
   refine⟨⟨zs++[rawC X q],A3,c3,cs3⟩,by dsimp only;rw[List.length_append,List.length_singleton];omega,by dsimp only;rw[List.length_append,List.length_singleton];omega,?_,?_,?_,fun z hz=>?_⟩
   ·dsimp only
    rw[List.length_append,List.length_singleton]
    exact(sb_ hs)
   ·dsimp only
    rw[List.length_append,List.length_singleton]
    exact hm.sub (List.Sublist.cons _ (List.Sublist.cons _ (List.Sublist.cons _ (List.Sublist.refl _))))
   ·dsimp only
    rw[List.length_append,List.length_singleton]
    exact hr3
   ·rcases List.mem_append.1 hz with hz|hz
    ·exact hzv z hz
    ·rcases List.mem_singleton.1 hz with rfl;exact rawC_val X hqv
  ·have hz8:zs.length=8:=by omega
   obtain⟨r,hre⟩:∃r:ThO,r=⟨A2,c2,cs2,⟨sst,zs,pc,cnt,han,sav,trp,cod⟩⟩:=⟨_,rfl⟩
   have hrv:r.v=[.int .i64 sst,slv A2 zs.length c2,.int .i64 pc,.int .i64 cnt,.int .i64 han,.int .i64 sav,.int .i64 trp,.int .u16 cod]:=by rw[hre];rfl
   have hrh:r.hp=⟨A2,103,cs2⟩:=by rw[hre];rfl
   have hro:r.ok:=by rw[hre];exact hr
   have hrd:r.d.val B:=by rw[hre];exact⟨v1,hz8,v2,v3,v4,v5,v6,v7,hzv⟩
   refine gs088d_ ?_;clear hs hm a;intros;rename_i a hm hs
   refine dv hs (Wnt.none rfl) rfl rfl (d_append (A:=tA) (n:=rs.length) (c:=tc) (news:=[.int .i64 sst,slv A2 zs.length c2,.int .i64 pc,.int .i64 cnt,.int .i64 han,.int .i64 sav,.int .i64 trp,.int .u16 cod]) hs rfl rfl rfl rfl rfl tab rfl rfl rfl rfl rfl hm mem_ hlr3 rfl (hm.ro (n:=8) mem_ (cutF_ok rfl)) rfl (by show(rs.length+1)*80≤_;omega) (by omega)) ?_
   clear hs
   rintro _ w4 ⟨tA2,tc2,tcs2,rfl,hlr2,hM⟩ a hs
   replace hm:=hM _ rep_
   clear hM
   rw[←hrv,th_snoc]at hlr2
   refine gs088d_ ?_;clear hs hm a;intros;rename_i a hm hs
   rw[←hrh]at hm
   refine⟨⟨rs++[r],tA2,tc2,tcs2⟩,by dsimp only;rw[List.length_append,List.length_singleton];omega,by dsimp only;rw[List.length_append,List.length_singleton];omega,?_,?_,?_,?_,?_⟩
   ·dsimp only
    rw[List.length_append,List.length_singleton]
    exact(sb_ hs)
   ·dsimp only
    have hm2:=th_perm (L:=⟨some g12,32,[slv bA p.ss.length bc,.int .u16 key,.slice (some ⟨gc,0,none⟩) 512 512,.slice (some ⟨gl,0,none⟩) 4 4,slv tA2 (rs.length+1) tc2]⟩::⟨tA2,52,tcs2⟩::⟨bA,3,bcs⟩::⟨some gc,103,cvs xs⟩::⟨some gl,61,ln4⟩::⟨some g6,32,[nS,.int .u16 0,nS,nS,nS]⟩::⟨some g5,91,[.slice x.rA x.rs.length x.rc,.slice x.tA x.ts.length x.tc]⟩::⟨some g4,25,[.slice (some ⟨gb,ob,none⟩) p.ss.length c,.int .u16 key]⟩::[⟨some g3,38,(p.cl [])⟩]) (rs:=rs) (r:=r) (hm.sub (List.Sublist.cons _ (List.Sublist.cons_cons _ (List.Sublist.cons _ (List.Sublist.refl _)))))
    rw[List.length_append,List.length_singleton]
    exact hm2
   ·dsimp only
    rw[List.length_append,List.length_singleton]
    exact hlr2
   ·intro z hz
    rcases List.mem_append.1 hz with hz|hz
    ·exact hok z hz
    ·rcases List.mem_singleton.1 hz with rfl;exact hro
   ·intro z hz
    rcases List.mem_append.1 hz with hz|hz
    ·exact hov z hz
    ·rcases List.mem_singleton.1 hz with rfl;exact hrd
 have hln:rs.length=4:=by omega
 refine gs088d_ ?_;clear hs hm a;intros;rename_i a hm hs
 have hz4:=(((hm.zero 103).zero 103).zero 103).zero 103
 obtain⟨Y,hY⟩:∃Y:MO,Y=⟨bA,bc,bcs,bs,key,⟨some gc,512,cvs xs,xs,some gl,4,ln4,List.replicate 4 le0⟩,tA,tc,tcs,rs⟩:=⟨_,rfl⟩
 have hYv:Y.vs=[slv bA p.ss.length bc,.int .u16 key,.slice (some ⟨gc,0,none⟩) 512 512,.slice (some ⟨gl,0,none⟩) 4 4,slv tA rs.length tc]:=by
  rw[hY]
  unfold MO.vs
  dsimp only
  rw[hbl,hxl]
  rfl
 refine gRetN tab hs rfl (.cons (.cells rfl rfl rfl rfl (hm.ro (k:=0) (n:=5) (g:=g6) mem_ (cutF_ok rfl))) (.cons (.tmp rfl) .nil)) ⟨Y.f,Y.key,true,?_,(fun _=>⟨Y,rfl,?_,?_,?_⟩),hm.fr⟩
 ·rw[←MO.vs_f,hYv]
  rfl
 ·rw[hY]
  refine⟨by dsimp only;rw[hbl];exact hbr,⟨?_,ln4_row gl,le0_ok⟩,hlr3,hok⟩
  dsimp only
  rw[hxl]
  exact row_full (fun e=>by cases e) (by rw[cvs_len,hxl]) (by unfold maxLen;omega)
 ·rw[hY]
  refine⟨hg,hkey,hxl,rfl,?_,hxv,fun i hi=>?_,fun z hz=>?_⟩
  ·show(rs.map ThO.d).length=4
   rw[List.length_map]
   exact hln
  ·have h1:∀(l:List LnD)(hl:l=List.replicate 4 le0.d)(i:Nat)(hi:i<l.length),(l[i]).val i:=fun l hl i hi=>by
    subst hl
    rw[List.getElem_replicate]
    exact le0_val i
   exact h1 _ rfl i hi
  ·have hz':z∈rs.map ThO.d:=hz
   obtain⟨r,hr,rfl⟩:=List.mem_map.1 hz'
   exact hov r hr
 ·rw[hY]
  have hz5:=(hz4.sub (M':=([⟨none,103,[]⟩,⟨none,103,[]⟩,⟨none,103,[]⟩,⟨none,103,[]⟩]++[⟨tA,52,tcs⟩,⟨bA,3,bcs⟩,⟨some gc,103,cvs xs⟩,⟨some gl,61,ln4⟩])++rs.map ThO.hp) (List.Sublist.cons_cons _ (List.Sublist.cons_cons _ (List.Sublist.cons_cons _ (List.Sublist.cons_cons _ (List.Sublist.cons _ (List.Sublist.cons_cons _ (List.Sublist.cons_cons _ (List.Sublist.cons_cons _ (List.Sublist.cons_cons _ (List.Sublist.cons _ (List.Sublist.cons _ (List.Sublist.cons _ (List.Sublist.cons _ (List.Sublist.refl _))))))))))))))).perm (List.Perm.append_right (rs.map ThO.hp) (List.perm_append_comm (l₁:=([⟨tA,52,tcs⟩,⟨bA,3,bcs⟩,⟨some gc,103,cvs xs⟩,⟨some gl,61,ln4⟩]:List Hp)) (l₂:=([⟨none,103,[]⟩,⟨none,103,[]⟩,⟨none,103,[]⟩,⟨none,103,[]⟩]:List Hp))))
  exact hz5.new (List.Sublist.refl _)
theorem ovXSia0_{G H:Prop}(k:H)(s:H→G:=by intro k;(with_reducible refine toL hm ?_);first|exact oneV hs gw_ rfl rfl (by intro w hm;(first|exact kvR_|exact kb2_)) k|exact oneN hs rfl rfl rfl rfl rfl rfl rfl k|exact oneU hs rfl rfl rfl rfl rfl rfl k):G:=s k
theorem atv_c(A:Option Addr)(n c:Nat)(ss:List Int)(i:Int)(w:World)(hl:ss.length=n)(hr:Rd w w.heap.size A (ints ss))(hs':∀y∈ss,1≤y∧y≤32)(hn:n≤4)(hi:0≤i∧i≤65535):
  Ret Tryz.prog 56 [.slice A n c,.int .i64 i] w (fun v w'=>∃r o e:Int,v= .tuple #[.agg #[.int .i64 r,.int .i64 o],.int .i64 e]∧(0≤r∧r≤3)∧(0≤o∧o≤31)∧Pu w w'):=by
 refine enterR Tryz.func56 rfl rfl rfl fun a hs hm=>?_
 repeat(first|(refine ov_ ?_;clear hs a;intro a hs)|((with_reducible apply lCons);first|(refine dv hs gw_ rfl rfl da_ ?_;clear hs hm a;rintro _ w ⟨g,rfl,-,hm⟩ a hs)|(refine stn hs rfl rfl ds_ ?_;clear hs hm a;rintro-w hm a hs))|refine sc_ ?_)
 rename_i w0
 rename Nat=>g4
 refine cLoop (X:=Nat × Int) (fun x a w'=>Sl Tryz.f56.ntmps [(1,.int .i64 x.2),(4,pt g4),(8,.slice A n c),(9,.int .i64 (n:Int)),(10,.int .i64 (x.1:Int))] a∧Mm (fun _=>False) w0 [⟨some g4,129,[.int .i64 0,.int .i64 0]⟩] w'∧x.1≤n∧-32*(x.1:Int)≤x.2∧x.2≤65535) (fun x=>n-x.1) (0,i) ⟨hs.sub (Has.all ⟨rfl,rfl,rfl,rfl,rfl,trivial⟩),hm,Nat.zero_le _,by dsimp only;omega,by dsimp only;omega⟩ ?_
 clear hs hm a
 rintro⟨k,j⟩ a w' ⟨hs,hm,hk,h1,h2⟩
 dsimp only at*
 by_cases hlt:k<n
 ·obtain⟨b1,o1,rfl,hb1,r1⟩:=hr.ro (by rw[ints_len];omega)
  have e1:=ints_some (xs:=ss) (k:=k) (by omega)
  have hsk:=hs' ss[k] (List.getElem_mem (by omega))
  generalize ss[k]'(_)=sk at*
  by_cases h3:0≤j
  ·by_cases h4:j<sk
   ·repeat(first|(refine ov_ ?_;clear hs a;intro a hs)|((with_reducible apply lCons);first|(refine dv hs gw_ rfl rfl da_ ?_;clear hs hm a;rintro _ w ⟨g,rfl,-,hm⟩ a hs)|(refine stn hs rfl rfl ds_ ?_;clear hs hm a;rintro-w hm a hs))|refine sc_ ?_)
    exact gRetN tab hs rfl (.cons (.cells rfl rfl rfl rfl (hm.ro (k:=0) (n:=2) mem_ (cutF_ok rfl))) (.cons (.tmp rfl) .nil)) ⟨_,_,_,rfl,by omega,by omega,hm.fr⟩
   ·repeat(first|(refine ov_ ?_;clear hs a;intro a hs)|((with_reducible apply lCons);first|(refine dv hs gw_ rfl rfl da_ ?_;clear hs hm a;rintro _ w ⟨g,rfl,-,hm⟩ a hs)|(refine stn hs rfl rfl ds_ ?_;clear hs hm a;rintro-w hm a hs))|refine sc_ ?_)
    exact⟨(k+1,j-sk),by dsimp only;omega,hs.sub (Has.all ⟨rfl,rfl,rfl,rfl,rfl,trivial⟩),hm,by dsimp only;omega,by dsimp only;omega,by dsimp only;omega⟩
  ·repeat(first|(refine ov_ ?_;clear hs a;intro a hs)|((with_reducible apply lCons);first|(refine dv hs gw_ rfl rfl da_ ?_;clear hs hm a;rintro _ w ⟨g,rfl,-,hm⟩ a hs)|(refine stn hs rfl rfl ds_ ?_;clear hs hm a;rintro-w hm a hs))|refine sc_ ?_)
   exact⟨(k+1,j-sk),by dsimp only;omega,hs.sub (Has.all ⟨rfl,rfl,rfl,rfl,rfl,trivial⟩),hm,by dsimp only;omega,by dsimp only;omega,by dsimp only;omega⟩
 ·repeat(first|(refine ov_ ?_;clear hs a;intro a hs)|((with_reducible apply lCons);first|(refine dv hs gw_ rfl rfl da_ ?_;clear hs hm a;rintro _ w ⟨g,rfl,-,hm⟩ a hs)|(refine stn hs rfl rfl ds_ ?_;clear hs hm a;rintro-w hm a hs))|refine sc_ ?_)
  exact gRetN tab hs rfl (.cons (.cells rfl rfl rfl rfl (hm.ro (k:=0) (n:=2) mem_ (cutF_ok rfl))) (.cons (.tmp rfl) .nil)) ⟨_,_,_,rfl,by omega,by omega,hm.fr⟩
theorem cnv_c(gd:Nat)(A:Option Addr)(n c at_:Nat)(xs:List Int)(x:LS)(w:World)(h:Dk gd A n c at_ xs w)(hx:x.ok w)(hne:x.ne gd)(h1n:1≤x.n):
  Ret Tryz.prog 32 [pt gd,x.s] w (fun u w'=>∃q:CN,u=q.a∧q.val∧DkR gd A n c xs w w'):=by
 have hwr:∀y:Int,0≤IntKind.u16.wrap y∧IntKind.u16.wrap y≤65535:=u16_bd
 have hn4:=hx.n
 unfold LS.s
 refine enterR Tryz.func32 rfl rfl rfl fun a hs hm=>?_
 clear hm
 have hm:=h.in_
 repeat(first|(refine ovXSia0_ ?_;clear hs a;intro a hs)|((with_reducible apply lCons);first|(refine dv hs gw_ rfl rfl da_ ?_;clear hs hm a;rintro _ w ⟨g,rfl,-,hm⟩ a hs)|(refine stn hs rfl rfl ds_ ?_;clear hs hm a;rintro-w hm a hs))|refine sc_ ?_)
 refine st hs rfl rfl rfl (d_call hs rfl rfl rfl (pl 21 rfl) ((nxt_c gd A n c _ xs 6 _ (h.now hm mem_) (by omega) (by omega)))) ?_;clear hs a;rintro _ w1 ⟨r1,rfl,b1,a1,k1,hf⟩ a hs
 replace hm:=hm.dkt rep_ k1 hf
 clear hf
 by_cases h4:(r1:Int)=4
 ·repeat(first|(refine ovXSia0_ ?_;clear hs a;intro a hs)|((with_reducible apply lCons);first|(refine dv hs gw_ rfl rfl da_ ?_;clear hs hm a;rintro _ w ⟨g,rfl,-,hm⟩ a hs)|(refine stn hs rfl rfl ds_ ?_;clear hs hm a;rintro-w hm a hs))|refine sc_ ?_)
  have hx1:=hx.dk hne hm
  refine st hs rfl rfl rfl (d_call hs rfl rfl rfl (pl 57 rfl) ((tot_c x.B x.n x.d x.ss _ hx1.sl hx1.sr hx1.s hx1.n))) ?_;clear hs a;rintro _ w1 ⟨s,rfl,s1,s2,hf⟩ a hs
  replace hm:=hm.pu hf
  clear hf
  repeat(first|(refine ovXSia0_ ?_;clear hs a;intro a hs)|((with_reducible apply lCons);first|(refine dv hs gw_ rfl rfl da_ ?_;clear hs hm a;rintro _ w ⟨g,rfl,-,hm⟩ a hs)|(refine stn hs rfl rfl ds_ ?_;clear hs hm a;rintro-w hm a hs))|refine sc_ ?_)
  refine st hs rfl rfl rfl (d_call hs rfl rfl rfl (pl 21 rfl) ((nxt_c gd A n c _ xs s _ (h.now hm mem_) (by omega) (by omega)))) ?_;clear hs a;rintro _ w1 ⟨r2,rfl,b2,a1,k2,hf⟩ a hs
  replace hm:=hm.dkt rep_ k2 hf
  clear hf
  have hx2:=hx.dk hne hm
  repeat(first|(refine ovXSia0_ ?_;clear hs a;intro a hs)|((with_reducible apply lCons);first|(refine dv hs gw_ rfl rfl da_ ?_;clear hs hm a;rintro _ w ⟨g,rfl,-,hm⟩ a hs)|(refine stn hs rfl rfl ds_ ?_;clear hs hm a;rintro-w hm a hs))|refine sc_ ?_)
  refine st hs rfl rfl rfl (d_call hs rfl rfl rfl (pl 56 rfl) ((atv_c x.B x.n x.d x.ss (r2:Int) _ hx2.sl hx2.sr hx2.s hx2.n (by omega)))) ?_;clear hs a;rintro _ w1 ⟨r,o,e,rfl,hr3,ho3,hf⟩ a hs
  replace hm:=hm.pu hf
  clear hf
  repeat(first|(refine ovXSia0_ ?_;clear hs a;intro a hs)|((with_reducible apply lCons);first|(refine dv hs gw_ rfl rfl da_ ?_;clear hs hm a;rintro _ w ⟨g,rfl,-,hm⟩ a hs)|(refine stn hs rfl rfl ds_ ?_;clear hs hm a;rintro-w hm a hs))|refine sc_ ?_)
  refine gRetN tab hs rfl (.cons (.cells rfl rfl rfl rfl (hm.ro (k:=0) (n:=4) mem_ (cutF_ok rfl))) .nil) ⟨⟨_,_,_,_⟩,rfl,?_,_,h.now hm mem_,Dk.out hm⟩
  exact⟨.inr (.inr rfl),by dsimp only;omega,(fun h=>absurd rfl h),(fun _=>⟨rfl,by dsimp only;omega,by dsimp only;omega,by dsimp only;omega,by dsimp only;omega,by dsimp only;omega⟩)⟩
 ·by_cases h5:(r1:Int)=5
  ·repeat(first|(refine ovXSia0_ ?_;clear hs a;intro a hs)|((with_reducible apply lCons);first|(refine dv hs gw_ rfl rfl da_ ?_;clear hs hm a;rintro _ w ⟨g,rfl,-,hm⟩ a hs)|(refine stn hs rfl rfl ds_ ?_;clear hs hm a;rintro-w hm a hs))|refine sc_ ?_)
   refine st hs rfl rfl rfl (d_call hs rfl rfl rfl (pl 21 rfl) ((nxt_c gd A n c _ xs 10 _ (h.now hm mem_) (by omega) (by omega)))) ?_;clear hs a;rintro _ w1 ⟨r2,rfl,b2,a1,k2,hf⟩ a hs
   replace hm:=hm.dkt rep_ k2 hf
   clear hf
   repeat(first|(refine ovXSia0_ ?_;clear hs a;intro a hs)|((with_reducible apply lCons);first|(refine dv hs gw_ rfl rfl da_ ?_;clear hs hm a;rintro _ w ⟨g,rfl,-,hm⟩ a hs)|(refine stn hs rfl rfl ds_ ?_;clear hs hm a;rintro-w hm a hs))|refine sc_ ?_)
   refine gRetN tab hs rfl (.cons (.cells rfl rfl rfl rfl (hm.ro (k:=0) (n:=4) mem_ (cutF_ok rfl))) .nil) ⟨⟨_,_,_,_⟩,rfl,?_,_,h.now hm mem_,Dk.out hm⟩
   exact⟨.inr (.inl rfl),hwr _,(fun _=>⟨rfl,rfl⟩),(fun h=>by cases h)⟩
  ·repeat(first|(refine ovXSia0_ ?_;clear hs a;intro a hs)|((with_reducible apply lCons);first|(refine dv hs gw_ rfl rfl da_ ?_;clear hs hm a;rintro _ w ⟨g,rfl,-,hm⟩ a hs)|(refine stn hs rfl rfl ds_ ?_;clear hs hm a;rintro-w hm a hs))|refine sc_ ?_)
   refine st hs rfl rfl rfl (d_call hs rfl rfl rfl (pl 58 rfl) ((wrd_c gd A n c _ xs _ (h.now hm mem_)))) ?_;clear hs a;rintro _ w1 ⟨y,rfl,hy,a1,k2,hf⟩ a hs
   replace hm:=hm.dkt rep_ k2 hf
   clear hf
   repeat(first|(refine ovXSia0_ ?_;clear hs a;intro a hs)|((with_reducible apply lCons);first|(refine dv hs gw_ rfl rfl da_ ?_;clear hs hm a;rintro _ w ⟨g,rfl,-,hm⟩ a hs)|(refine stn hs rfl rfl ds_ ?_;clear hs hm a;rintro-w hm a hs))|refine sc_ ?_)
   refine gRetN tab hs rfl (.cons (.cells rfl rfl rfl rfl (hm.ro (k:=0) (n:=4) mem_ (cutF_ok rfl))) .nil) ⟨⟨_,_,_,_⟩,rfl,?_,_,h.now hm mem_,Dk.out hm⟩
   exact⟨.inl rfl,hy,(fun _=>⟨rfl,rfl⟩),(fun h=>by cases h)⟩
theorem dgSin0_{G H:Prop}(k:H)(s:Bx H→G:=by intro k_;(repeat(first|(refine tTake t_ hs rfl (by kernel_rfl) gw_ rfl rfl (by intro w hm;replace hm:Mm _ _ _ w:=hm;(first|exact kvR_|exact r_loadO hs rfl rfl tab rfl rfl rfl hm (by repeat(first|exact mH|apply mT)) (by assumption))) (hm.sub sub_) ?_;(try clear t_ hs a);intro t_ a hs)|(refine tTakeN t_ hs rfl (by kernel_rfl) rfl rfl rfl rfl rfl rfl rfl (hm.sub sub_) ?_;(try clear t_ hs a);intro t_ a hs)|(refine tTakeU t_ hs rfl (by kernel_rfl) rfl rfl rfl rfl rfl rfl (hm.sub sub_) ?_;(try clear t_ hs a);intro t_ a hs)|(refine tE1 t_ ?_;(try clear t_);intro t_)|(refine nx_ t_ rfl ?_;have t_:=t_;first|(refine oDo hs rfl gw_ rfl rfl da_ ?_;(try clear hs hm a);rintro _ w_ ⟨g_,rfl,-,hm⟩ a hs;refine⟨(hm.sub sub_),?_⟩)|(refine oDoN hs rfl gw_ rfl ds_ ?_;(try clear hs hm a);rintro-w_ hm a hs;refine⟨(hm.sub sub_),?_⟩)|(refine oDoV hs rfl gw_ rfl rfl (by(first|exact klR_|exact r_loadO hs rfl rfl tab rfl rfl rfl hm (by repeat(first|exact mH|apply mT)) (by assumption))) ?_;(try clear hs a);intro a hs;refine⟨(hm.sub sub_),?_⟩))));have y_:=t_;clear t_;(first|(have m_:=hm;have s_:=hs;have z_:=y_;clear hs;(try clear hm);revert m_ s_ z_ a)|((first|refine rexd_ hs hm ?_|refine rexb_ hs hm ?_);intro a hm hs;have z_:=y_;revert hm hs z_ a));(try revert w_);(repeat revert g_);exact k_.h):G:=s ⟨k⟩
section
set_option linter.unusedSectionVars false
variable [HB]
theorem New.fr{S:Nat→Prop}{w0 w w':World}{R:List Hp}(h:New w0 w R)(hf:Fr S w w')(hn:∀g,own R g→¬S g):New w0 w' R:=⟨fun x hx=>Hp.sat_fr hf (h.me x hx) fun g hg=>hn g ⟨x,hx,hg⟩,h.dj,h.fresh⟩
theorem Mm.take_new{S:Nat→Prop}{w0 w1 w:World}{M R:List Hp}(hm:Mm S w0 M w)(hN:New w1 w R)(hle:w0.heap.size≤w1.heap.size)(hd:∀g,own R g→¬own M g):Mm S w0 (M++R) w:=⟨fun x hx=>by
 rcases List.mem_append.1 hx with hx|hx
 ·exact hm.me x hx
 ·exact hN.me x hx,hm.fr,hm.dj.append hN.dj (fun x hx y hy g e1 e2=>hd g ⟨y,hy,e2⟩ ⟨x,hx,e1⟩),fun x hx g e=>by
 rcases List.mem_append.1 hx with hx|hx
 ·exact hm.ow x hx g e
 ·exact .inl (Nat.le_trans hle (hN.fresh x hx g e))⟩
theorem Rep.appL{A A' B:List Hp}{x y:Hp}(h:Rep A x y A'):Rep (A++B) x y (A'++B):=by
 induction h with
 |head M x h=>exact Rep.head _ _ _
 |tail z r ih=>exact Rep.tail z ih
theorem Rep.appR{B B':List Hp}{x y:Hp}(h:Rep B x y B'):∀A:List Hp,Rep (A++B) x y (A++B')
 |[]=>h
 |z::A=>Rep.tail z (Rep.appR h A)
theorem Rep.mapset{α:Type}(f:α→Hp){q q':α}:∀{l:List α}{k:Nat},l[k]?=some q→Rep (l.map f) (f q) (f q') ((l.set k q').map f)
 |[],k,h=>by cases h
 |z::l,0,h=>by
  have h':z=q:=by simpa using h
  subst h'
  exact Rep.head _ _ _
 |z::l,k+1,h=>Rep.tail _ (Rep.mapset f (l:=l) (k:=k) (by simpa using h))
def CO.put(q:CO)(i:Nat)(c:CN):CO:={q with cs:=q.cs.take (i*4)++c.cs++q.cs.drop (i*4+4),xs:=q.xs.set i c}
theorem CO.put_v(q:CO)(i:Nat)(c:CN):(q.put i c).v=q.v:=by
 unfold CO.put CO.v
 dsimp only
 rw[List.length_set]
theorem CO.put_ok{q:CO}{i:Nat}{c:CN}(h:q.ok)(hi:i<q.xs.length):(q.put i c).ok:=by
 have hq:Row q.A q.xs.length q.c 4 (cns q.xs) q.cs:=h
 have hsp:=hq.splice (o:=i*4) (ys:=c.cs) (by rw[CN.cs_len];omega)
 rw[CN.cs_len,show(cns q.xs).take (i*4)++c.cs++(cns q.xs).drop (i*4+4)=cns (q.xs.set i c)from flat_splice CN.cs 4 CN.cs_len q.xs i c hi]at hsp
 show Row q.A (q.xs.set i c).length q.c 4 (cns (q.xs.set i c)) _
 rw[List.length_set]
 exact hsp
theorem map_set_same{α β:Type}{f:α→β}{l:List α}{k:Nat}{q q':α}(hq:l[k]?=some q) (h:f q'=f q):(l.set k q').map f=l.map f:=by
 rw[List.map_set,h]
 exact set_self (by rw[List.getElem?_map,hq];rfl)
theorem RgOk.put{rs:List CO}{ss:List Int}{k i:Nat}{q:CO}{c:CN}(h:RgOk (rs.map CO.xs) ss)(hq:rs[k]?=some q) (hc:c.val):RgOk ((rs.set k (q.put i c)).map CO.xs) ss:=by
 have hqx:(rs.map CO.xs)[k]?=some q.xs:=by rw[List.getElem?_map,hq];rfl
 refine⟨by rw[List.length_map,List.length_set,←List.length_map (f:=CO.xs)];exact h.n,fun j h1 h2=>?_,fun r hr=>?_⟩
 ·rw[List.length_map,List.length_set]at h1
  have h3:=h.l j (by rw[List.length_map];exact h1) h2
  rw[List.getElem_map]at h3 ⊢
  rw[List.getElem_set]
  split
  ·next e=>
   subst e
   rw[List.getElem?_eq_getElem h1]at hq
   have hq':rs[k]=q:=Option.some.inj hq
   rw[hq']at h3
   show((q.xs.set i c).length:Int)=_
   rw[List.length_set]
   exact h3
  ·exact h3
 ·obtain⟨z,hz,rfl⟩:=List.mem_map.1 hr
  rcases List.mem_or_eq_of_mem_set hz with hz|rfl
  ·exact h.v _ (List.mem_map.2 ⟨z,hz,rfl⟩)
  ·intro x hx
   have hx':x∈q.xs.set i c:=hx
   rcases List.mem_or_eq_of_mem_set hx' with hx'|rfl
   ·exact h.v _ (List.mem_of_getElem? hqx) x hx'
   ·exact hc
def SO.setR(s:SO)(k:Nat)(q:CO):SO:={s with rs:=s.rs.set k q}
def SO.setT(s:SO)(k:Nat)(q:VwO):SO:={s with ts:=s.ts.set k q}
theorem SO.setR_ok{s:SO}{ss:List Int}{B:Int}{k i:Nat}{q:CO}{c:CN}(h:s.ok)(hv:s.val ss B)(hq:s.rs[k]?=some q) (hi:i<q.xs.length) (hc:c.val):(s.setR k (q.put i c)).ok∧(s.setR k (q.put i c)).val ss B:=by
 refine⟨⟨?_,h.t,fun r hr=>?_,h.tt⟩,⟨?_,hv.r.put hq hc,hv.tn,hv.t⟩⟩
 ·unfold SO.setR
  dsimp only
  rw[List.length_set,map_set_same hq (CO.put_v q i c)]
  exact h.q
 ·rcases List.mem_or_eq_of_mem_set hr with hr|rfl
  ·exact h.rr r hr
  ·exact CO.put_ok (h.rr q (List.mem_of_getElem? hq)) hi
 ·show(s.rs.set k _).length=_
  rw[List.length_set];exact hv.n
theorem SO.setT_ok{s:SO}{ss:List Int}{B:Int}{k i:Nat}{q:VwO}{c:CN}(h:s.ok)(hv:s.val ss B)(hq:s.ts[k]?=some q) (hi:i<q.r.xs.length) (hc:c.val):(s.setT k ⟨q.d,q.r.put i c⟩).ok∧(s.setT k ⟨q.d,q.r.put i c⟩).val ss B:=by
 have hqv:=hv.t q (List.mem_of_getElem? hq)
 have hqo:=h.tt q (List.mem_of_getElem? hq)
 refine⟨⟨h.q,?_,h.rr,fun r hr=>?_⟩,⟨hv.n,hv.r,?_,fun r hr=>?_⟩⟩
 ·unfold SO.setT
  dsimp only
  rw[List.length_set,show(s.ts.set k ⟨q.d,q.r.put i c⟩).flatMap VwO.v=s.ts.flatMap VwO.v by
   rw[List.flatMap_def,List.flatMap_def,map_set_same hq (by
    have:=CO.put_v q.r i c
    unfold CO.v at this
    unfold VwO.v
    dsimp only
    rw[this])]]
  exact h.t
 ·rcases List.mem_or_eq_of_mem_set hr with hr|rfl
  ·exact h.tt r hr
  ·exact CO.put_ok hqo hi
 ·show(s.ts.set k _).length=_
  rw[List.length_set];exact hv.tn
 ·rcases List.mem_or_eq_of_mem_set hr with hr|rfl
  ·exact hv.t r hr
  ·exact⟨hqv.d,by show(q.r.xs.set i c).length=8;rw[List.length_set];exact hqv.n,fun x hx=>by
    have hx':x∈q.r.xs.set i c:=hx
    rcases List.mem_or_eq_of_mem_set hx' with hx'|rfl
    ·exact hqv.v x hx'
    ·exact hc⟩
def VwO.stp(q:VwO)(v:Int):VwO:=⟨{q.d with st:=v},q.r⟩
def SO.setS(s:SO)(k:Nat)(q:VwO)(v:Int):SO:={s with ts:=s.ts.set k (q.stp v),tcs:=s.tcs.set (k*8+0) (.int .i64 v)}
theorem SO.setS_ok{s:SO}{ss:List Int}{B:Int}{k:Nat}{q:VwO}{v:Int}(h:s.ok)(hv:s.val ss B)(hq:s.ts[k]?=some q) (h0:0≤v∧v≤4):(s.setS k q v).ok∧(s.setS k q v).val ss B:=by
 have hqv:=hv.t q (List.mem_of_getElem? hq)
 have hqo:=h.tt q (List.mem_of_getElem? hq)
 refine⟨⟨h.q,?_,h.rr,fun r hr=>?_⟩,⟨hv.n,hv.r,?_,fun r hr=>?_⟩⟩
 ·unfold SO.setS
  dsimp only
  rw[List.length_set,←flat_set VwO.v 8 VwO.len s.ts k 0 q (.int .i64 v) hq (by omega) (q.stp v) rfl]
  exact h.t.set _ _
 ·rcases List.mem_or_eq_of_mem_set hr with hr|rfl
  ·exact h.tt r hr
  ·exact hqo
 ·show(s.ts.set k _).length=_
  rw[List.length_set];exact hv.tn
 ·rcases List.mem_or_eq_of_mem_set hr with hr|rfl
  ·exact hv.t r hr
  ·exact⟨⟨h0,hqv.d.pc,hqv.d.cnt,hqv.d.han,hqv.d.sav,hqv.d.trp,hqv.d.cod⟩,hqv.n,hqv.v⟩
def lsZ(p:PV):LS:=⟨p.sA,p.ss.length,p.sc,p.ss,0,p.sA,p.sc,p.ss⟩
theorem lsZ_ok{p:PV}{w:World}(hp:p.ok w)(hpv:p.val):(lsZ p).ok w:=⟨rfl,rfl,hp.s,hp.s,(fun y hy=>by have:=hpv.sz.bd y hy;omega),hpv.sz.bd,hpv.sz.four⟩
theorem inj2_c(p:PV)(y:MO)(gq gt qc tc:Nat)(s:SO)(B:Int)(w:World)(hp:p.ok w)(hpv:p.val)(hyv:y.mv.ok w)(yo:y.ok)(yv:y.d.val p.ss B)(hbl:y.bs.length=p.ss.length)(hsr:s.rd.ok w)(sv:s.val p.ss B)(hsv:s.rd.v= .agg #[slv (some gq) p.ss.length qc,slv (some gt) 4 tc])(hB:B≤1099511627776):Ret Tryz.prog 33 [p.v,.agg #[slv y.bA y.bs.length y.bc,.int .u16 y.key],.agg #[slv (some gq) p.ss.length qc,slv (some gt) 4 tc]] w (fun u w'=>∃(f:Nat→Option Addr × Nat × Nat)(k:Int)(b:Bool),u= .tuple #[.agg (mV f k).toArray,.bool b]∧(b=true→∃z:MO,z.vs=mV f k∧z.ok∧z.d.val p.ss B∧New w w' z.hps)∧Pu w w'):=by
 rw[hbl,←hsv]
 exact inject_c p (ad y.bA) y.bc y.bs y.key s.rd B w hp hpv hyv.b (by have:=yo.b.le;omega) yv.gap yv.key hsr (SO.rd_val sv) hB
structure McX where
 i:Nat
 a:Nat
 rs:List CO
structure MtY where
 i:Nat
 a:Nat
 tcs:List Value
 ts:List VwO
theorem own_app{A B:List Hp}{g:Nat}(h:own (A++B) g):own A g∨own B g:=by
 obtain⟨x,hx,e⟩:=h
 rcases List.mem_append.1 hx with hx|hx
 ·exact .inl ⟨x,hx,e⟩
 ·exact .inr ⟨x,hx,e⟩
end
theorem machine_c(gd:Nat)(A:Option Addr)(n c at_:Nat)(xs:List Int)(wB:World)(h:Dk gd A n c at_ xs wB):
  Ret Tryz.prog 20 [pt gd] wB (fun u w'=>∃(_:HB)(p:PV)(y:MO)(a1:Nat),u= .tuple #[p.v,y.v]∧HB.h+1=(p.code.length:Int)∧p.val∧p.ok w'∧(∃lo hi,p.btw lo hi∧wB.heap.size≤lo∧∀b,lo≤b→b<hi→¬own (dk gd A n c a1::y.hps) b)∧y.ok∧y.d.val p.ss 400000∧Mm (own [dk gd A n c at_]) wB (dk gd A n c a1::y.hps) w'):=by
 have hgd:=Hp.lt h.sat (g:=gd) rfl
 refine enterR Tryz.func20 rfl rfl rfl fun a hs hm=>?_
 clear hm
 have hm:=h.in_
 refine gsce98_ ?_;clear hs hm a;intros;rename_i a hm hs
 obtain⟨g2,rfl⟩:=hs.pp 2
 obtain⟨g3,rfl⟩:=hs.pp 3
 have hlo:=fun g (hg:own _ g)=>hm.own_lt hg
 have hle0:=hm.fr.size
 refine st hs rfl rfl rfl (d_call hs rfl rfl rfl (pl 30 rfl) ((run_c gd A n c _ xs _ (h.now hm mem_)))) ?_;clear hs a;rintro _ w1 ⟨hb,Z,a1,wp,rfl,hhb,hZ,hbw,hle,hk⟩ a hs
 replace hm:=hm.into hk rfl rep_
 obtain⟨lo,hi,hhi,hBl,hbw2,hno0⟩:∃lo hi,wp.heap.size=hi∧wB.heap.size≤lo∧Z.r.p.btw lo hi∧∀b,lo≤b→¬own [⟨some g3,32,[nS,.int .u16 0,nS,nS,nS]⟩,⟨some g2,38,[nS,nS,nS]⟩,dk gd A n c a1] b:=⟨_,_,rfl,hle0,hbw,fun b hb hg=>by
  have:=hlo b (own_eq hg rfl)
  omega⟩
 have hleB:wB.heap.size≤wp.heap.size:=Nat.le_trans hle0 hle
 clear hbw hlo hle0 hle hk
 have pok:=hZ.i.p.now
 have hpv:=hZ.i.pv
 have yN:=hZ.i.y.now
 have yo:=hZ.i.yo
 have yv:=hZ.i.yv
 have hszi:=hZ.i.sz
 have h4:=hZ.i.gt.1
 unfold RV.v RV.cs RD.cs at hs
 clear hZ
 obtain⟨⟨p,y,oy,ky⟩,eA,ec,nn,es,jA,jd,js⟩:=Z
 dsimp only at hs pok hpv yN yo yv h4 hbw2 hhb
 have hmB:=hm
 obtain⟨M1,hM1⟩:∃M1,[⟨some g3,32,[nS,.int .u16 0,nS,nS,nS]⟩,⟨some g2,38,[nS,nS,nS]⟩,dk gd A n c a1]=M1:=⟨_,rfl⟩
 have hm0:Mm (own M1) w1 ([⟨some g3,32,[nS,.int .u16 0,nS,nS,nS]⟩,⟨some g2,38,[nS,nS,nS]⟩,dk gd A n c a1]) w1:=by rw[←hM1];exact hm.rebase
 replace hmB:Mm (own [dk gd A n c at_]) wB M1 w1:=by rw[←hM1];exact hmB
 have hno1:∀b,lo≤b→¬own M1 b:=by rw[←hM1];exact hno0
 clear hm hno0
 have hm:=hm0
 clear hm0
 have hlh:∀g,own y.hps g→hi≤g:=fun g ⟨x,hx,e⟩=>by rw[←hhi];exact yN.fresh x hx g e
 have hlohi:lo≤hi:=by
  have h1:=hpv.sz.one
  obtain⟨b,o,e,-,-⟩:=pok.s.ro (by rw[ints_len];omega)
  have:=hbw2.s (by rintro e0;rw[e0]at h1;simp at h1) b o e
  omega
 have hpk:∀(w:World)(M':List Hp),Mm (own M1) w1 M' w→p.ok w:=fun w M' hm=>pok.keep hbw2 hm.fr fun b hb _=>hno1 b hb
 have hi1:hi≤w1.heap.size:=by rw[←hhi];exact hszi
 have hnoM:∀(w:World)(L:List Hp),Mm (own M1) w1 L w→∀b,lo≤b→b<hi→¬own L b:=fun w L hm b h1 h2 hg=>by
  rcases hm.own_ hg with h3|h3
  ·omega
  ·exact hno1 b h1 h3
 have hne:(lsZ p).ne gd:=by
  have h1:=hpv.sz.one
  have hx:∀b o,p.sA=some ⟨b,o,none⟩→b≠gd:=fun b o e=>by
   have:=(hbw2.s (by rintro e0;rw[e0]at h1;simp at h1) b o e).1
   omega
  exact⟨hx,hx⟩
 have hyk:∀(w:World)(M':List Hp),Mm (own M1) w1 M' w→New wp w y.hps:=fun w M' hm=>yN.fr hm.fr fun g hg=>hno1 g (Nat.le_trans hlohi (hlh g hg))
 refine gsce98_ ?_;clear hs hm a;intros;rename_i a hm hs
 obtain⟨g4,rfl⟩:=hs.pp 4
 obtain⟨g5,rfl⟩:=hs.pp 5
 refine st hs rfl rfl rfl (d_call hs rfl rfl rfl (pl 21 rfl) ((nxt_c gd A n c _ xs 3 _ (h.now (hmB.trans hm) mem_) (by omega) (by omega)))) ?_;clear hs a;rintro _ w2 ⟨r0,rfl,b0,a2,k0,hf⟩ a hs
 replace hm:=hm.dkt rep_ k0 hf
 clear hf k0
 refine gs730d_ ?_;clear hs hm a;intros;rename_i a hm hs
 with_reducible apply lNilThen
 refine cMid (fun a w=>∃(z:MO)(a3:Nat),z.ok∧z.d.val p.ss 400000∧(∀b,lo≤b→b<hi→¬own (⟨some g5,32,z.vs⟩::⟨some g4,87,(p.cl (y.cl (slv y.tA y.ts.length y.tc::oy.cl (oy.f.cl [.slice oy.us.A oy.us.us.length oy.us.c,.slice ky.o.A ky.o.n ky.o.c,.slice ky.qA ky.qs.length ky.qc,.slice eA nn ec,.slice jA 4 jd]))))⟩::⟨some g3,32,[nS,.int .u16 0,nS,nS,nS]⟩::⟨some g2,38,[nS,nS,nS]⟩::dk gd A n c a3::z.hps) b)∧p.ok w∧Sl Tryz.f20.ntmps [(2,pt g2),(3,pt g3),(4,pt g4),(5,pt g5)] a∧Mm (own [dk gd A n c at_]) wB (⟨some g5,32,z.vs⟩::⟨some g4,87,(p.cl (y.cl (slv y.tA y.ts.length y.tc::oy.cl (oy.f.cl [.slice oy.us.A oy.us.us.length oy.us.c,.slice ky.o.A ky.o.n ky.o.c,.slice ky.qA ky.qs.length ky.qc,.slice eA nn ec,.slice jA 4 jd]))))⟩::⟨some g3,32,[nS,.int .u16 0,nS,nS,nS]⟩::⟨some g2,38,[nS,nS,nS]⟩::dk gd A n c a3::z.hps) w) ?_ ?_
 ·by_cases h0:(r0:Int)=0
  ·refine gsce98_ ?_;clear hs hm a;intros;rename_i a hm hs
   have kst:=state_c p y 400000 _ (hpk _ _ hm) hpv (MO.of_new (hyk _ _ hm) yo) yo yv
   unfold PV.v MO.v at kst
   refine st hs rfl rfl rfl (d_call hs rfl rfl rfl (pl 31 rfl) ((kst))) ?_;clear hs a;rintro _ w3 ⟨s,rfl,so,sv,hN,hf⟩ a hs
   replace hm:=gainE hm hf hN
   clear hN hf kst
   unfold SO.hps at hm
   simp only[List.cons_append,List.nil_append]at hm
   unfold SO.v at hs
   rw[sv.n,sv.tn]at hs
   have hss1:=hpv.sz.one
   obtain⟨gq,hgq⟩:=so.q.some_ (by rw[sv.n];omega)
   obtain⟨gt,hgt⟩:=so.t.some_ (by rw[sv.tn];omega)
   obtain⟨qA,qc,qcs,rs0,tA,tc,tcs0,ts0⟩:=s
   dsimp only at hs hm hgq hgt
   subst hgq
   subst hgt
   have hn0:0<rs0.length:=by have:=sv.n;dsimp only at this;omega
   obtain⟨q0,hq0⟩:∃q0,rs0[0]?=some q0:=⟨_,List.getElem?_eq_getElem hn0⟩
   have hc0:qcs[0]?=some (slv q0.A q0.xs.length q0.c):=so.q.get (by rw[List.getElem?_map,hq0];rfl)
   obtain⟨m0,hm0⟩:∃m0,q0.xs.length=m0:=⟨_,rfl⟩
   rw[hm0]at hc0
   have hm32:m0≤32:=by
    have h1:=sv.r.l 0 (by rw[List.length_map];exact hn0) (by omega)
    have h2:=hpv.sz.bd _ (List.getElem_mem (show 0<p.ss.length by omega))
    rw[List.getElem_map]at h1
    rw[List.getElem?_eq_getElem hn0]at hq0
    rw[Option.some.inj hq0]at h1
    omega
   refine gsce98_ ?_;clear hs hm a;intros;rename_i a hm hs
   obtain⟨g6,rfl⟩:=hs.pp 6
   refine cLoop (X:=McX) (fun X a w'=>X.i≤m0∧(SO.mk (some gq) qc qcs X.rs (some gt) tc tcs0 ts0).ok∧(SO.mk (some gq) qc qcs X.rs (some gt) tc tcs0 ts0).val p.ss 400000∧(∃q,X.rs[0]?=some q∧q.xs.length=m0)∧Sl Tryz.f20.ntmps [(0,pt gd),(2,pt g2),(3,pt g3),(4,pt g4),(5,pt g5),(6,pt g6),(27,.int .i64 (m0:Int)),(28,.int .i64 (X.i:Int))] a∧Mm (own M1) w1 (⟨some g6,91,[slv (some gq) p.ss.length qc,slv (some gt) 4 tc]⟩::⟨some g5,32,(y.cl [slv y.tA y.ts.length y.tc])⟩::⟨some g4,87,(p.cl (y.cl (slv y.tA y.ts.length y.tc::oy.cl (oy.f.cl [.slice oy.us.A oy.us.us.length oy.us.c,.slice ky.o.A ky.o.n ky.o.c,.slice ky.qA ky.qs.length ky.qc,.slice eA nn ec,.slice jA 4 jd]))))⟩::⟨some g3,32,[nS,.int .u16 0,nS,nS,nS]⟩::⟨some g2,38,[nS,nS,nS]⟩::dk gd A n c X.a::⟨some gt,98,tcs0⟩::⟨some gq,93,qcs⟩::(X.rs.map CO.hp++ts0.map VwO.hp)) w') (fun X=>m0-X.i) ⟨0,a2,rs0⟩ ⟨Nat.zero_le _,so,sv,⟨q0,hq0,hm0⟩,(sb_ hs),hm⟩ ?_
   clear hs hm a hc0
   rintro⟨i,a3,rs⟩ a w' ⟨hi3,so,sv,⟨q,hq,hqm⟩,hs,hm⟩
   dsimp only at hi3 so sv hq hqm hs hm
   by_cases hlt:i<m0
   ·refine gsce98_ ?_;clear hs hm a;intros;rename_i a hm hs
    refine st hs rfl rfl rfl (d_call hs rfl rfl rfl (pl 21 rfl) ((nxt_c gd A n c _ xs 3 _ (h.now (hmB.trans hm) mem_) (by omega) (by omega)))) ?_;clear hs a;rintro _ w3 ⟨r3,rfl,b3,a4,k3,hf⟩ a hs
    replace hm:=hm.dkt rep_ k3 hf
    clear hf k3
    by_cases h3:(r3:Int)=0
    ·have hc1:qcs[0]?=some (slv q.A q.xs.length q.c):=so.q.get (by rw[List.getElem?_map,hq];rfl)
     rw[hqm]at hc1
     have hqo:=so.rr q (List.mem_of_getElem? hq)
     obtain⟨qa,q2,q3,q4⟩:=q
     dsimp only at hqm hc1
     obtain⟨gr,hgr⟩:∃gr,qa=some gr:=Row.some_ hqo (by show 0<q4.length;omega)
     subst hgr
     have hqlen:q3.length=q2*4:=Row.len hqo
     have hqle:q4.length≤q2:=Row.le hqo
     refine gsce98_ ?_;clear hs hm a;intros;rename_i a hm hs
     refine cMid (fun a w=>∃(cq:CN)(a5:Nat),cq.val∧Sl Tryz.f20.ntmps [(0,pt gd),(2,pt g2),(3,pt g3),(4,pt g4),(5,pt g5),(6,pt g6),(27,.int .i64 (m0:Int)),(28,.int .i64 (i:Int))] a∧Mm (own M1) w1 (⟨some g6,91,[slv (some gq) p.ss.length qc,slv (some gt) 4 tc]⟩::⟨some g5,32,(y.cl [slv y.tA y.ts.length y.tc])⟩::⟨some g4,87,(p.cl (y.cl (slv y.tA y.ts.length y.tc::oy.cl (oy.f.cl [.slice oy.us.A oy.us.us.length oy.us.c,.slice ky.o.A ky.o.n ky.o.c,.slice ky.qA ky.qs.length ky.qc,.slice eA nn ec,.slice jA 4 jd]))))⟩::⟨some g3,32,[nS,.int .u16 0,nS,nS,nS]⟩::⟨some g2,38,[nS,nS,nS]⟩::dk gd A n c a5::⟨some gt,98,tcs0⟩::⟨some gq,93,qcs⟩::((rs.set 0 (CO.put ⟨some gr,q2,q3,q4⟩ i cq)).map CO.hp++ts0.map VwO.hp)) w) ?_ ?_
     ·with_reducible repeat(first|apply gThen|apply wp_seq)
      refine cDrawT (n:=12) (.s [0,1,2,3,4,5,6,7,8]<| .o 9<| .x<| .t 10<| .o 11<| .x<| .d) [⟨some g6,91,[slv (some gq) p.ss.length qc,slv (some gt) 4 tc]⟩,⟨some g4,87,(p.cl (y.cl (slv y.tA y.ts.length y.tc::oy.cl (oy.f.cl [.slice oy.us.A oy.us.us.length oy.us.c,.slice ky.o.A ky.o.n ky.o.c,.slice ky.qA ky.qs.length ky.qc,.slice eA nn ec,.slice jA 4 jd]))))⟩,⟨some gq,93,qcs⟩] hm rfl rfl ?_
      clear hm;intro t_ w1_ hm
      repeat' (first|(refine dgSin0_ ?_;clear t_ hs hm a;intros;rename_i a hm hs t_)|refine tE t_ ?_|refine tC ?_ ?_|exact tN|intro t_|(refine oDo (i:=9) hs rfl (Wnt.none rfl) rfl rfl (by exact d_call hs rfl rfl rfl (pl 32 rfl) ((cnv_c gd A n c _ xs (lsZ p) _ (h.now (hmB.trans hm) mem_) (lsZ_ok (hpk _ _ hm) hpv) hne hss1))) ?_;clear hs;rintro _ w4 ⟨cq,rfl,hcv,a5,k5,hf⟩ a hs;(replace hm:=hm.dkt rep_ k5 hf);(clear hf);(unfold CN.a at hs);replace t_:=tX t_;refine⟨(hm.sub sub_),?_⟩)|(refine oDoN (i:=11) hs rfl (Wnt.none rfl) rfl (by exact d_store hs rfl rfl rfl tab rfl rfl rfl rfl hm (Rep.tail _<|Rep.tail _<|Rep.tail _<|Rep.tail _<|Rep.tail _<|Rep.tail _<|Rep.tail _<|Rep.tail _ (Rep.appL (Rep.mapset CO.hp (q':=CO.put ⟨some gr,q2,q3,q4⟩ i cq) hq))) (putG (by show i*4+4≤q3.length;omega))) ?_;clear hs;rintro-w1 hm a hs;replace t_:=tX t_;refine⟨(hm.sub sub_),?_⟩)|(refine tD t_ ?_;(exact And.intro rfl ⟨cq,a5,hcv,(sb_ hs),hm⟩))|fail)
     clear hs hm a
     rintro a w ⟨cq,a5,hcv,hs,hm⟩
     obtain⟨so2,sv2⟩:=SO.setR_ok (i:=i) so sv hq (by show i<q4.length;omega) hcv
     refine gsce98_ ?_;clear hs hm a;intros;rename_i a hm hs
     exact⟨⟨i+1,a5,rs.set 0 (CO.put ⟨some gr,q2,q3,q4⟩ i cq)⟩,by dsimp only;omega,by dsimp only;omega,so2,sv2,⟨_,List.getElem?_set_self (by rcases Nat.lt_or_ge 0 rs.length with h|h;exact h;rw[List.getElem?_eq_none h]at hq;cases hq),by show(q4.set i cq).length=m0;rw[List.length_set];exact hqm⟩,(sb_ hs),hm⟩
    ·refine gsce98_ ?_;clear hs hm a;intros;rename_i a hm hs
     exact⟨⟨i+1,a4,rs⟩,by dsimp only;omega,by dsimp only;omega,so,sv,⟨q,hq,hqm⟩,(sb_ hs),hm⟩
   obtain rfl:i=m0:=by omega
   refine gsce98_ ?_;clear hs hm a;intros;rename_i a hm hs
   refine cLoop (X:=MtY) (fun X a w'=>X.i≤4∧(SO.mk (some gq) qc qcs rs (some gt) tc X.tcs X.ts).ok∧(SO.mk (some gq) qc qcs rs (some gt) tc X.tcs X.ts).val p.ss 400000∧Sl Tryz.f20.ntmps [(0,pt gd),(2,pt g2),(3,pt g3),(4,pt g4),(5,pt g5),(6,pt g6),(48,.int .i64 ((4:Nat):Int)),(49,.int .i64 (X.i:Int))] a∧Mm (own M1) w1 (⟨some g6,91,[slv (some gq) p.ss.length qc,slv (some gt) 4 tc]⟩::⟨some g5,32,(y.cl [slv y.tA y.ts.length y.tc])⟩::⟨some g4,87,(p.cl (y.cl (slv y.tA y.ts.length y.tc::oy.cl (oy.f.cl [.slice oy.us.A oy.us.us.length oy.us.c,.slice ky.o.A ky.o.n ky.o.c,.slice ky.qA ky.qs.length ky.qc,.slice eA nn ec,.slice jA 4 jd]))))⟩::⟨some g3,32,[nS,.int .u16 0,nS,nS,nS]⟩::⟨some g2,38,[nS,nS,nS]⟩::dk gd A n c X.a::⟨some gt,98,X.tcs⟩::⟨some gq,93,qcs⟩::(rs.map CO.hp++X.ts.map VwO.hp)) w') (fun X=>4-X.i) ⟨0,a3,tcs0,ts0⟩ ⟨Nat.zero_le _,so,sv,(sb_ hs),hm⟩ ?_
   clear hs hm a so sv
   rintro⟨k,a4,tcs,ts⟩ a w' ⟨hk4,so,sv,hs,hm⟩
   dsimp only at hk4 so sv hs hm
   have htl:ts.length=4:=sv.tn
   by_cases hlt:k<4
   ·have hc7:∀(ts:List VwO)(q:VwO),(SO.mk (some gq) qc qcs rs (some gt) tc tcs ts).ok→(SO.mk (some gq) qc qcs rs (some gt) tc tcs ts).val p.ss 400000→ts[k]?=some q→tcs[k*8+7]?=some (slv q.r.A 8 q.r.c):=fun ts q so sv hq=>by
     have hkl:k<ts.length:=by
      rcases Nat.lt_or_ge k ts.length with h|h
      ·exact h
      ·rw[List.getElem?_eq_none h]at hq;cases hq
     have h1:=so.t.get (j:=k*8+7) (u:=slv q.r.A q.r.xs.length q.r.c) (by
      rw[flat_get VwO.v 8 VwO.len ts k 7 hkl (by omega)]
      rw[List.getElem?_eq_getElem hkl]at hq
      rw[Option.some.inj hq]
      rfl)
     rw[(sv.t q (List.mem_of_getElem? hq)).n]at h1
     exact h1
    obtain⟨q1,hq1⟩:∃q1,ts[k]?=some q1:=⟨_,List.getElem?_eq_getElem (by omega)⟩
    have hc1:=hc7 ts q1 so sv hq1
    have hcl:tcs.length=tc*8:=so.t.len
    have hcle:4≤tc:=by have:=so.t.le;dsimp only at this;omega
    refine gsce98_ ?_;clear hs hm a;intros;rename_i a hm hs
    refine cLoop (X:=MtY) (fun X a w'=>X.i≤8∧(SO.mk (some gq) qc qcs rs (some gt) tc tcs X.ts).ok∧(SO.mk (some gq) qc qcs rs (some gt) tc tcs X.ts).val p.ss 400000∧Sl Tryz.f20.ntmps [(0,pt gd),(2,pt g2),(3,pt g3),(4,pt g4),(5,pt g5),(6,pt g6),(48,.int .i64 ((4:Nat):Int)),(49,.int .i64 (k:Int)),(8,.int .i64 (k:Int)),(58,.int .i64 ((8:Nat):Int)),(59,.int .i64 (X.i:Int))] a∧Mm (own M1) w1 (⟨some g6,91,[slv (some gq) p.ss.length qc,slv (some gt) 4 tc]⟩::⟨some g5,32,(y.cl [slv y.tA y.ts.length y.tc])⟩::⟨some g4,87,(p.cl (y.cl (slv y.tA y.ts.length y.tc::oy.cl (oy.f.cl [.slice oy.us.A oy.us.us.length oy.us.c,.slice ky.o.A ky.o.n ky.o.c,.slice ky.qA ky.qs.length ky.qc,.slice eA nn ec,.slice jA 4 jd]))))⟩::⟨some g3,32,[nS,.int .u16 0,nS,nS,nS]⟩::⟨some g2,38,[nS,nS,nS]⟩::dk gd A n c X.a::⟨some gt,98,tcs⟩::⟨some gq,93,qcs⟩::(rs.map CO.hp++X.ts.map VwO.hp)) w') (fun X=>8-X.i) ⟨0,a4,tcs,ts⟩ ⟨Nat.zero_le _,so,sv,(sb_ hs),hm⟩ ?_
    clear hs hm a so sv hq1 hc1 q1 htl
    rintro⟨i,a5,tcsx,ts⟩ a w' ⟨hi8,so,sv,hs,hm⟩
    dsimp only at hi8 so sv hs hm
    have htl:ts.length=4:=sv.tn
    obtain⟨q,hq⟩:∃q,ts[k]?=some q:=⟨_,List.getElem?_eq_getElem (by omega)⟩
    by_cases hlt2:i<8
    ·refine gsce98_ ?_;clear hs hm a;intros;rename_i a hm hs
     refine st hs rfl rfl rfl (d_call hs rfl rfl rfl (pl 21 rfl) ((nxt_c gd A n c _ xs 3 _ (h.now (hmB.trans hm) mem_) (by omega) (by omega)))) ?_;clear hs a;rintro _ w3 ⟨r3,rfl,b3,a6,k3,hf⟩ a hs
     replace hm:=hm.dkt rep_ k3 hf
     clear hf k3
     by_cases h3:(r3:Int)=0
     ·have hc1:=hc7 ts q so sv hq
      have hqo:=so.tt q (List.mem_of_getElem? hq)
      have hqn:=(sv.t q (List.mem_of_getElem? hq)).n
      obtain⟨qd,⟨qa,q2,q3,q4⟩⟩:=q
      dsimp only at hqn hc1 hqo
      obtain⟨gr,hgr⟩:∃gr,qa=some gr:=Row.some_ hqo (by show 0<q4.length;omega)
      subst hgr
      have hqlen:q3.length=q2*4:=Row.len hqo
      have hqle:q4.length≤q2:=Row.le hqo
      refine gsce98_ ?_;clear hs hm a;intros;rename_i a hm hs
      refine cMid (fun a w=>∃(cq:CN)(a7:Nat),cq.val∧Sl Tryz.f20.ntmps [(0,pt gd),(2,pt g2),(3,pt g3),(4,pt g4),(5,pt g5),(6,pt g6),(48,.int .i64 ((4:Nat):Int)),(49,.int .i64 (k:Int)),(8,.int .i64 (k:Int)),(58,.int .i64 ((8:Nat):Int)),(59,.int .i64 (i:Int))] a∧Mm (own M1) w1 (⟨some g6,91,[slv (some gq) p.ss.length qc,slv (some gt) 4 tc]⟩::⟨some g5,32,(y.cl [slv y.tA y.ts.length y.tc])⟩::⟨some g4,87,(p.cl (y.cl (slv y.tA y.ts.length y.tc::oy.cl (oy.f.cl [.slice oy.us.A oy.us.us.length oy.us.c,.slice ky.o.A ky.o.n ky.o.c,.slice ky.qA ky.qs.length ky.qc,.slice eA nn ec,.slice jA 4 jd]))))⟩::⟨some g3,32,[nS,.int .u16 0,nS,nS,nS]⟩::⟨some g2,38,[nS,nS,nS]⟩::dk gd A n c a7::⟨some gt,98,tcs⟩::⟨some gq,93,qcs⟩::(rs.map CO.hp++(ts.set k ⟨qd,CO.put ⟨some gr,q2,q3,q4⟩ i cq⟩).map VwO.hp)) w) ?_ ?_
      ·with_reducible repeat(first|apply gThen|apply wp_seq)
       refine cDrawT (n:=14) (.s [0,1,2,3,4,5,6,7,8,9,10]<| .o 11<| .x<| .t 12<| .o 13<| .x<| .d) [⟨some g6,91,[slv (some gq) p.ss.length qc,slv (some gt) 4 tc]⟩,⟨some g4,87,(p.cl (y.cl (slv y.tA y.ts.length y.tc::oy.cl (oy.f.cl [.slice oy.us.A oy.us.us.length oy.us.c,.slice ky.o.A ky.o.n ky.o.c,.slice ky.qA ky.qs.length ky.qc,.slice eA nn ec,.slice jA 4 jd]))))⟩,⟨some gt,98,tcs⟩] hm rfl rfl ?_
       clear hm;intro t_ w1_ hm
       repeat' (first|(refine dgSin0_ ?_;clear t_ hs hm a;intros;rename_i a hm hs t_)|refine tE t_ ?_|refine tC ?_ ?_|exact tN|intro t_|(refine oDo (i:=11) hs rfl (Wnt.none rfl) rfl rfl (by exact d_call hs rfl rfl rfl (pl 32 rfl) ((cnv_c gd A n c _ xs (lsZ p) _ (h.now (hmB.trans hm) mem_) (lsZ_ok (hpk _ _ hm) hpv) hne hss1))) ?_;clear hs;rintro _ w4 ⟨cq,rfl,hcv,a7,k5,hf⟩ a hs;(replace hm:=hm.dkt rep_ k5 hf);(clear hf);(unfold CN.a at hs);replace t_:=tX t_;refine⟨(hm.sub sub_),?_⟩)|(refine oDoN (i:=13) hs rfl (Wnt.none rfl) rfl (by exact d_store hs rfl rfl rfl tab rfl rfl rfl rfl hm (Rep.tail _<|Rep.tail _<|Rep.tail _<|Rep.tail _<|Rep.tail _<|Rep.tail _<|Rep.tail _<|Rep.tail _ (Rep.appR (Rep.mapset VwO.hp (q':=⟨qd,CO.put ⟨some gr,q2,q3,q4⟩ i cq⟩) hq) _)) (putG (by show i*4+4≤q3.length;omega))) ?_;clear hs;rintro-w1 hm a hs;replace t_:=tX t_;refine⟨(hm.sub sub_),?_⟩)|(refine tD t_ ?_;(exact And.intro rfl ⟨cq,a7,hcv,(sb_ hs),hm⟩))|fail)
      clear hs hm a
      rintro a w ⟨cq,a7,hcv,hs,hm⟩
      obtain⟨so2,sv2⟩:=SO.setT_ok (i:=i) so sv hq (by show i<q4.length;omega) hcv
      refine gsce98_ ?_;clear hs hm a;intros;rename_i a hm hs
      exact⟨⟨i+1,a7,tcs,ts.set k ⟨qd,CO.put ⟨some gr,q2,q3,q4⟩ i cq⟩⟩,by dsimp only;omega,by dsimp only;omega,so2,sv2,(sb_ hs),hm⟩
     ·refine gsce98_ ?_;clear hs hm a;intros;rename_i a hm hs
      exact⟨⟨i+1,a6,tcs,ts⟩,by dsimp only;omega,by dsimp only;omega,so,sv,(sb_ hs),hm⟩
    obtain rfl:i=8:=by omega
    refine gsce98_ ?_;clear hs hm a;intros;rename_i a hm hs
    refine st hs rfl rfl rfl (d_call hs rfl rfl rfl (pl 21 rfl) ((nxt_c gd A n c _ xs 4 _ (h.now (hmB.trans hm) mem_) (by omega) (by omega)))) ?_;clear hs a;rintro _ w3 ⟨r3,rfl,b3,a6,k3,hf⟩ a hs
    replace hm:=hm.dkt rep_ k3 hf
    clear hf k3
    by_cases h3:(r3:Int)=0
    ·have hk0:k*8+0<tcs.length:=by omega
     refine gsce98_ ?_;clear hs hm a;intros;rename_i a hm hs
     refine cMid (fun a w=>∃(v:Int)(a7:Nat),(0≤v∧v≤4)∧Sl Tryz.f20.ntmps [(0,pt gd),(2,pt g2),(3,pt g3),(4,pt g4),(5,pt g5),(6,pt g6),(48,.int .i64 ((4:Nat):Int)),(49,.int .i64 (k:Int))] a∧Mm (own M1) w1 (⟨some g6,91,[slv (some gq) p.ss.length qc,slv (some gt) 4 tc]⟩::⟨some g5,32,(y.cl [slv y.tA y.ts.length y.tc])⟩::⟨some g4,87,(p.cl (y.cl (slv y.tA y.ts.length y.tc::oy.cl (oy.f.cl [.slice oy.us.A oy.us.us.length oy.us.c,.slice ky.o.A ky.o.n ky.o.c,.slice ky.qA ky.qs.length ky.qc,.slice eA nn ec,.slice jA 4 jd]))))⟩::⟨some g3,32,[nS,.int .u16 0,nS,nS,nS]⟩::⟨some g2,38,[nS,nS,nS]⟩::dk gd A n c a7::⟨some gt,98,(tcs.set (k*8+0) (.int .i64 v))⟩::⟨some gq,93,qcs⟩::(rs.map CO.hp++ts.map VwO.hp)) w) ?_ ?_
     ·with_reducible repeat(first|apply gThen|apply wp_seq)
      refine cDrawT (n:=8) (.s [0,1,2,3]<| .o 4<| .x<| .s [5,6]<| .o 7<| .d) [⟨some g6,91,[slv (some gq) p.ss.length qc,slv (some gt) 4 tc]⟩] hm rfl rfl ?_
      clear hm;intro t_ w1_ hm
      repeat' (first|(refine dgSin0_ ?_;clear t_ hs hm a;intros;rename_i a hm hs t_)|refine tE t_ ?_|refine tC ?_ ?_|exact tN|intro t_|(refine oDo (i:=4) hs rfl (Wnt.none rfl) rfl rfl (by exact d_call hs rfl rfl rfl (pl 21 rfl) ((nxt_c gd A n c _ xs 5 _ (h.now (hmB.trans hm) mem_) (by omega) (by omega)))) ?_;clear hs;rintro _ w4 ⟨r5,rfl,b5,a7,k5,hf⟩ a hs;(replace hm:=hm.dkt rep_ k5 hf);(clear hf);replace t_:=tX t_;refine⟨(hm.sub sub_),?_⟩)|(refine tD t_ ?_;(exact And.intro rfl ⟨(r5:Int),a7,by omega,(sb_ hs),hm⟩))|fail)
     clear hs hm a
     rintro a w ⟨v,a7,hv,hs,hm⟩
     obtain⟨so2,sv2⟩:=SO.setS_ok so sv hq hv
     rw[←map_set_same (f:=VwO.hp) hq (q':=q.stp v) rfl]at hm
     refine gsce98_ ?_;clear hs hm a;intros;rename_i a hm hs
     exact⟨⟨k+1,a7,tcs.set (k*8+0) (.int .i64 v),ts.set k (q.stp v)⟩,by dsimp only;omega,by dsimp only;omega,so2,sv2,(sb_ hs),hm⟩
    ·refine gsce98_ ?_;clear hs hm a;intros;rename_i a hm hs
     exact⟨⟨k+1,a6,tcs,ts⟩,by dsimp only;omega,by dsimp only;omega,so,sv,(sb_ hs),hm⟩
   obtain rfl:k=4:=by omega
   have hbl:y.bs.length=p.ss.length:=yv.gap.len
   have h1n:rs.length=p.ss.length:=sv.n
   obtain⟨s,hse⟩:∃s,(SO.mk (some gq) qc qcs rs (some gt) tc tcs ts)=s:=⟨_,rfl⟩
   have hsv:s.rd.v= .agg #[slv (some gq) p.ss.length qc,slv (some gt) 4 tc]:=by
    rw[SO.rd_v,←hse]
    unfold SO.v
    dsimp only
    rw[h1n,htl]
   refine gsce98_ ?_;clear hs hm a;intros;rename_i a hm hs
   have hyv:=MO.of_new (hyk _ _ hm) yo
   have hso:s.ok:=by rw[←hse];exact so
   have hsr:s.rd.ok _:=SO.rd_ok hm (by
    rw[←hse]
    intro z hz
    unfold SO.hps at hz
    dsimp only at hz
    simp only[List.mem_cons,List.mem_append]at hz ⊢
    rcases hz with hz|(hz|hz)|hz<;>simp[hz]) hso
   have kin:=inj2_c p y gq gt qc tc s 400000 _ (hpk _ _ hm) hpv hyv yo yv hbl hsr (by rw[←hse];exact sv) hsv (by omega)
   unfold PV.v at kin
   refine st hs rfl rfl rfl (d_call hs rfl rfl rfl (pl 33 rfl) ((kin))) ?_;clear hs a;rintro _ w3 ⟨f,kk,b,rfl,hb,hf⟩ a hs
   clear kin
   unfold mV at hs
   cases b
   ·replace hm:=hm.pu hf
    refine gsce98_ ?_;clear hs hm a;intros;rename_i g w a hm hs
    replace hm:=hm.sub (M':=⟨some g5,32,y.vs⟩::⟨some g4,87,(p.cl (y.cl (slv y.tA y.ts.length y.tc::oy.cl (oy.f.cl [.slice oy.us.A oy.us.us.length oy.us.c,.slice ky.o.A ky.o.n ky.o.c,.slice ky.qA ky.qs.length ky.qc,.slice eA nn ec,.slice jA 4 jd]))))⟩::⟨some g3,32,[nS,.int .u16 0,nS,nS,nS]⟩::⟨some g2,38,[nS,nS,nS]⟩::[dk gd A n c a4]) (List.Sublist.cons _ (List.Sublist.cons _ (List.Sublist.cons_cons _ (List.Sublist.cons_cons _ (List.Sublist.cons_cons _ (List.Sublist.cons_cons _ (List.Sublist.cons_cons _ (List.nil_sublist _))))))))
    have hY:=hyk _ _ hm
    have hD:∀g,own y.hps g→¬own (⟨some g5,32,y.vs⟩::⟨some g4,87,(p.cl (y.cl (slv y.tA y.ts.length y.tc::oy.cl (oy.f.cl [.slice oy.us.A oy.us.us.length oy.us.c,.slice ky.o.A ky.o.n ky.o.c,.slice ky.qA ky.qs.length ky.qc,.slice eA nn ec,.slice jA 4 jd]))))⟩::⟨some g3,32,[nS,.int .u16 0,nS,nS,nS]⟩::⟨some g2,38,[nS,nS,nS]⟩::[dk gd A n c a4]) g:=fun g hg hg2=>by
     have h1:=hlh g hg
     have h2:=hm.own_ hg2
     rcases h2 with h2|h2
     ·obtain⟨x,hx,e⟩:=hg
      have:=Hp.lt (yN.me x hx) e
      omega
     ·exact hno1 g (Nat.le_trans hlohi h1) h2
    have hnoZ:∀b,lo≤b→b<hi→¬own ((⟨some g5,32,y.vs⟩::⟨some g4,87,(p.cl (y.cl (slv y.tA y.ts.length y.tc::oy.cl (oy.f.cl [.slice oy.us.A oy.us.us.length oy.us.c,.slice ky.o.A ky.o.n ky.o.c,.slice ky.qA ky.qs.length ky.qc,.slice eA nn ec,.slice jA 4 jd]))))⟩::⟨some g3,32,[nS,.int .u16 0,nS,nS,nS]⟩::⟨some g2,38,[nS,nS,nS]⟩::[dk gd A n c a4])++y.hps) b:=fun b h1 h2 hg=>by
     rcases own_app hg with hg|hg
     ·exact hnoM _ _ hm b h1 h2 hg
     ·have:=hlh b hg;omega
    exact And.intro rfl ⟨y,a4,yo,yv,hnoZ,hpk _ _ hm,(sb_ hs),(hmB.trans hm).take_new hY hleB hD⟩
   ·obtain⟨z,hzv,zo,zv,hN⟩:=hb rfl
    replace hm:=gainE hm hf hN
    simp only[List.cons_append,List.append_assoc]at hm
    have hzf:mV f kk=z.vs:=hzv.symm
    unfold mV MO.vs at hzf
    simp only[List.cons.injEq,Value.int.injEq,true_and,and_true]at hzf
    obtain⟨e1,e2,e3,e4,e5⟩:=hzf
    rw[e1,e2,e3,e4,e5]at hs
    refine gsce98_ ?_;clear hs hm a;intros;rename_i a hm hs
    replace hm:=hm.sub (M':=⟨some g5,32,z.vs⟩::⟨some g4,87,(p.cl (y.cl (slv y.tA y.ts.length y.tc::oy.cl (oy.f.cl [.slice oy.us.A oy.us.us.length oy.us.c,.slice ky.o.A ky.o.n ky.o.c,.slice ky.qA ky.qs.length ky.qc,.slice eA nn ec,.slice jA 4 jd]))))⟩::⟨some g3,32,[nS,.int .u16 0,nS,nS,nS]⟩::⟨some g2,38,[nS,nS,nS]⟩::dk gd A n c a4::z.hps) (List.Sublist.cons _ (List.Sublist.cons _ (List.Sublist.cons_cons _ (List.Sublist.cons_cons _ (List.Sublist.cons_cons _ (List.Sublist.cons_cons _ (List.Sublist.cons_cons _ (List.Sublist.cons _ (List.Sublist.cons _ ((List.sublist_append_right _ _).trans (List.sublist_append_right _ _)))))))))))
    exact And.intro rfl ⟨z,a4,zo,zv,hnoM _ _ hm,hpk _ _ hm,(sb_ hs),hmB.trans hm⟩
  ·refine gsce98_ ?_;clear hs hm a;intros;rename_i g w a hm hs
   have hY:=hyk _ _ hm
   have hD:∀g,own y.hps g→¬own (⟨some g5,32,y.vs⟩::⟨some g4,87,(p.cl (y.cl (slv y.tA y.ts.length y.tc::oy.cl (oy.f.cl [.slice oy.us.A oy.us.us.length oy.us.c,.slice ky.o.A ky.o.n ky.o.c,.slice ky.qA ky.qs.length ky.qc,.slice eA nn ec,.slice jA 4 jd]))))⟩::⟨some g3,32,[nS,.int .u16 0,nS,nS,nS]⟩::⟨some g2,38,[nS,nS,nS]⟩::[dk gd A n c a2]) g:=fun g hg hg2=>by
    have h1:=hlh g hg
    have h2:=hm.own_ hg2
    rcases h2 with h2|h2
    ·obtain⟨x,hx,e⟩:=hg
     have:=Hp.lt (yN.me x hx) e
     omega
    ·exact hno1 g (Nat.le_trans hlohi h1) h2
   have hnoZ:∀b,lo≤b→b<hi→¬own ((⟨some g5,32,y.vs⟩::⟨some g4,87,(p.cl (y.cl (slv y.tA y.ts.length y.tc::oy.cl (oy.f.cl [.slice oy.us.A oy.us.us.length oy.us.c,.slice ky.o.A ky.o.n ky.o.c,.slice ky.qA ky.qs.length ky.qc,.slice eA nn ec,.slice jA 4 jd]))))⟩::⟨some g3,32,[nS,.int .u16 0,nS,nS,nS]⟩::⟨some g2,38,[nS,nS,nS]⟩::[dk gd A n c a2])++y.hps) b:=fun b h1 h2 hg=>by
    rcases own_app hg with hg|hg
    ·exact hnoM _ _ hm b h1 h2 hg
    ·have:=hlh b hg;omega
   exact And.intro rfl ⟨y,a2,yo,yv,hnoZ,hpk _ _ hm,(sb_ hs),(hmB.trans hm).take_new hY hleB hD⟩
 clear hs hm a
 rintro a w ⟨z,a3,zo,zv,hnoZ,hpw,hs,hmC⟩
 have hm:=hmC.rebase
 with_reducible apply gThen
 with_reducible apply wp_seq
 refine cMid (fun a w'=>p.ok w'∧Sl Tryz.f20.ntmps [(2,pt g2),(3,pt g3)] a∧Mm (own [dk gd A n c at_]) wB (⟨some g5,32,z.vs⟩::⟨some g4,87,(p.cl (y.cl (slv y.tA y.ts.length y.tc::oy.cl (oy.f.cl [.slice oy.us.A oy.us.us.length oy.us.c,.slice ky.o.A ky.o.n ky.o.c,.slice ky.qA ky.qs.length ky.qc,.slice eA nn ec,.slice jA 4 jd]))))⟩::⟨some g3,32,z.vs⟩::⟨some g2,38,(p.cl [])⟩::dk gd A n c a3::z.hps) w') ?_ ?_
 ·with_reducible repeat(first|apply gThen|apply wp_seq)
  refine cDrawT (n:=5) (.s [0,1,2]<| .o 3<| .o 4<| .d) [⟨some g5,32,z.vs⟩,⟨some g4,87,(p.cl (y.cl (slv y.tA y.ts.length y.tc::oy.cl (oy.f.cl [.slice oy.us.A oy.us.us.length oy.us.c,.slice ky.o.A ky.o.n ky.o.c,.slice ky.qA ky.qs.length ky.qc,.slice eA nn ec,.slice jA 4 jd]))))⟩] hm rfl rfl ?_
  clear hm;intro t_ w1_ hm
  repeat' (first|(refine dgSin0_ ?_;clear t_ hs hm a;intros;rename_i a hm hs t_)|refine tE t_ ?_|refine tC ?_ ?_|exact tN|intro t_|(refine tD t_ ?_;(exact And.intro rfl ⟨hpw.keep hbw2 hm.fr hnoZ,(sb_ hs),hmC.trans hm⟩))|fail)
 clear hs hm a hmC
 rintro a w ⟨hpw,hs,hm⟩
 refine gsce98_ ?_;clear hs hm a;intros;rename_i a hm hs
 exact gRetN tab hs rfl (.cons (.cells rfl rfl rfl rfl (hm.ro (k:=0) (n:=3) (g:=g2) mem_ (cutF_ok rfl))) (.cons (.cells rfl rfl rfl rfl (hm.ro (k:=0) (n:=5) (g:=g3) mem_ (cutF_ok rfl))) .nil)) ⟨hb,p,z,a3,rfl,hhb,hpv,hpw,⟨lo,hi,hbw2,hBl,fun b h1 h2 hg=>hnoZ b h1 h2 (own_sub (List.Sublist.cons _ (List.Sublist.cons _ (List.Sublist.cons _ (List.Sublist.cons _ (List.Sublist.refl _))))) b hg)⟩,zo,zv,hm.sub (List.Sublist.cons _ (List.Sublist.cons _ (List.Sublist.cons _ (List.Sublist.cons _ (List.Sublist.refl _)))))⟩
end Go.Proofs.YtbjffoojenpmfaaGreat
