/- Texts put together: Sim, Sia, Sin, Sio. -/
import Derived.Test.YtbjffoojenpmfaaGreatMgSOq
set_option maxRecDepth 20000
set_option maxHeartbeats 64000000
set_option linter.unusedVariables false
set_option linter.unusedSimpArgs false
namespace Go.Proofs.YtbjffoojenpmfaaGreat
open Go.RowKit
theorem gpSim0_{G H:Prop}(k:H)(s:Bx H→G:=by intro k_;(repeat(first|(refine ov701a_ ?_;(try clear hs a);intro a hs)|((with_reducible apply lCons);first|(refine dv hs gw_ rfl rfl (by first|exact da_|exact d_makeSlice hs rfl rfl rfl tab rfl rfl rfl rfl rfl (by omega) rfl hm) ?_;(try clear hs hm a);rintro _ w_ ⟨g_,rfl,-,hm⟩ a hs)|(refine stn hs rfl rfl ds_ ?_;(try clear hs hm a);rintro-w_ hm a hs))|refine sc_ ?_));have m_:=hm;have s_:=hs;clear hs;(try clear hm);revert m_ s_ a;(try revert w_);(repeat revert g_);exact k_.h):G:=s ⟨k⟩
theorem gcSim1_{G H:Prop}(k:H)(s:Bx H→G:=by intro k_;(repeat(first|(refine ov701a_ ?_;(try clear hs a);intro a hs)|((with_reducible apply lCons);first|(refine dv hs gw_ rfl rfl (by first|exact da_|exact d_makeSlice hs rfl rfl rfl tab rfl rfl rfl rfl rfl (by omega) rfl hm) ?_;(try clear hs hm a);rintro _ w_ ⟨g_,rfl,-,hm⟩ a hs)|(refine stn hs rfl rfl ds_ ?_;(try clear hs hm a);rintro-w_ hm a hs))|refine sc_ ?_|((with_reducible apply lCons);first|(refine dvc hs hm gw_ rfl rfl rfl rfl rfl (pl 61 rfl) (kp _ hm.fr) ?_;(try clear hs hm a);intro w_ hm a hs))));(first|(have m_:=hm;have s_:=hs;clear hs;(try clear hm);revert m_ s_ a)|((first|refine rexc_ hs hm ?_|refine rexl_ hs hm ?_|refine rexg_ hs hm ?_|refine rexq_ hs hm ?_);intro a hm hs;revert hm hs a));(try revert w_);(repeat revert g_);exact k_.h):G:=s ⟨k⟩
def mV(f:Nat→Option Addr × Nat × Nat)(k:Int):List Value:=[.slice (f 0).1 (f 0).2.1 (f 0).2.2,.int .u16 k,.slice (f 1).1 (f 1).2.1 (f 1).2.2,.slice (f 2).1 (f 2).2.1 (f 2).2.2,.slice (f 3).1 (f 3).2.1 (f 3).2.2]
def MO.f(y:MO):Nat→Option Addr × Nat × Nat
 |0=>(ad y.bA,y.bs.length,y.bc)
 |1=>(ad y.m.cA,y.m.xs.length,y.m.cc)
 |2=>(ad y.m.lA,y.m.ls.length,y.m.lc)
 |3=>(ad y.tA,y.ts.length,y.tc)
 |_=>(none,0,0)
theorem MO.vs_f(y:MO):y.vs=mV y.f y.key:=rfl
def lsP(p:PV)(A:Option Addr)(c:Nat)(bs:List Int)(key:Int):LS:=⟨A,p.ss.length,c,bs,key,p.sA,p.sc,p.ss⟩
theorem lsP_ok [HB]{p:PV}{A:Option Addr}{c:Nat}{bs:List Int}{key:Int}{w:World}(hp:p.ok w)(hpv:p.val)(hA:Rd w w.heap.size A (ints bs))(hg:LGap bs p.ss):(lsP p A c bs key).ok w:=⟨hg.len,rfl,hA,hp.s,(fun y hy=>by
  have hy':y∈bs:=hy
  obtain⟨i,hi,rfl⟩:=List.getElem_of_mem hy'
  have h1:=hg.b i hi
  have h2:=hpv.sz.bd (p.ss[i]'(by rw[←hg.len];exact hi)) (List.getElem_mem _)
  rw[getI (l:=bs) (k:=i) hi,getI (l:=p.ss) (k:=i) (by rw[←hg.len];exact hi)]at h1
  omega),hpv.sz.bd,hpv.sz.four⟩
theorem lsS_ok{x:SV}{w:World}(h:x.ok w):∀y∈lsS x,y.ok w:=fun y hy=>by
 rcases List.mem_append.1 hy with hy|hy
 ·exact h.rr y hy
 ·obtain⟨z,hz,rfl⟩:=List.mem_map.1 hy
  exact h.tt z hz
theorem lsS_val [HB]{x:SV}{ss:List Int}{B:Int}(h:x.val ss B):∀y∈lsS x,∀c∈y.xs,c.val:=fun y hy=>by
 rcases List.mem_append.1 hy with hy|hy
 ·exact h.rv hy
 ·obtain⟨z,hz,rfl⟩:=List.mem_map.1 hy
  exact(h.t z hz).v
theorem lsS_len [HB]{x:SV}{p:PV}{B:Int}(hpv:p.val)(h:x.val p.ss B):∀y∈lsS x,y.xs.length≤32:=fun y hy=>by
 rcases List.mem_append.1 hy with hy|hy
 ·obtain⟨k,hk,rfl⟩:=List.getElem_of_mem hy
  have hk':k<p.ss.length:=by have:=h.n;omega
  have h1:=h.rl hk hk'
  have h2:=hpv.sz.bd _ (List.getElem_mem hk')
  omega
 ·obtain⟨z,hz,rfl⟩:=List.mem_map.1 hy
  have:=(h.t z hz).n
  omega
structure RwX where
 rs:List CV
 A:Option Nat
 c:Nat
 cs:List Value
theorem cvs_snoc(xs:List CV)(q:CV):cvs xs++q.cs=cvs (xs++[q]):=by unfold cvs;rw[List.flatMap_append,List.flatMap_singleton]
theorem inject_c [HB](p:PV)(A:Option Addr)(c:Nat)(bs:List Int)(key:Int)(x:SV)(B:Int)(wB:World)(hp:p.ok wB)(hpv:p.val)(hA:Rd wB wB.heap.size A (ints bs))(hnc:p.ss.length≤c)(hg:LGap bs p.ss)(hkey:0≤key∧key≤65535)(hx:x.ok wB)(h:x.val p.ss B)(hB:B≤1099511627776):Ret Tryz.prog 33 [p.v,.agg #[.slice A p.ss.length c,.int .u16 key],x.v] wB (fun u w'=>∃(f:Nat→Option Addr × Nat × Nat)(k:Int)(b:Bool),u= .tuple #[.agg (mV f k).toArray,.bool b]∧(b=true→∃y:MO,y.vs=mV f k∧y.ok∧y.d.val p.ss B∧New wB w' y.hps)∧Pu wB w'):=by
 have hs1:=hpv.sz.one
 have hs4:=hpv.sz.four
 have hbl:=hg.len
 have hn:=h.n
 have htn:=h.tn
 obtain⟨gb,ob,rfl,hbb,rB⟩:=hA.ro (by rw[ints_len];omega)
 obtain⟨X,hXe⟩:∃X,lsP p (some ⟨gb,ob,none⟩) c bs key=X:=⟨_,rfl⟩
 have hX:X.ok wB:=by rw[←hXe];exact lsP_ok hp hpv hA hg
 have hXl:X.l= .agg #[.slice (some ⟨gb,ob,none⟩) p.ss.length c,.int .u16 key]:=by rw[←hXe];rfl
 have hXs:X.s= .slice p.sA p.ss.length p.sc:=by rw[←hXe];rfl
 have kpr:=fun(w'':World) (hf:Pu wB w'') (q:CN) (hq:q.val)=>rprp_c X q.t q.v q.r q.o w'' (hX.pu hf) (CN.tag hq)
 have krw:=fun(w'':World) (hf:Pu wB w'') (q:CN) (hq:q.val)=>rawz_c X q w'' (hX.pu hf) hq
 rw[hXs]at kpr
 rw[hXs,hXl]at krw
 unfold cnV at kpr
 have kvS:=fun w'' (hf:Pu wB w'')=>vldS_c p x B w'' (hp.pu hf) hpv (hx.pu hf) h hB
 have kvl:=fun w'' (hf:Pu wB w'')=>lv_c (some ⟨gb,ob,none⟩) p.ss.length c bs key p.sA p.sc p.ss w'' rfl hnc (hf.rd' hA) (hf.rd' hp.s) hpv.sz hg
 have kls:=fun w'' (hf:Pu wB w'')=>lists_c x w'' (hx.pu hf) (by omega) htn
 have hlo:=lsS_ok hx
 have hlv:=lsS_val h
 have hll:=lsS_len hpv h
 have hlsn:(lsS x).length=x.rs.length+4:=by unfold lsS;rw[List.length_append,List.length_map,htn]
 unfold PV.v SV.v at*
 refine enterR Tryz.func33 rfl rfl rfl fun a hs hm=>?_
 repeat(first|(refine gpSim0_ ?_;clear hs hm a;intros;rename_i a hm hs)|refine sc_ ?_|((with_reducible apply lCons);first|(refine dvc hs hm gw_ rfl rfl rfl rfl rfl (pl 59 rfl) (kvS _ hm.fr) ?_;clear hs hm a;intro w hm a hs)|(refine dvc hs hm gw_ rfl rfl rfl rfl rfl (pl 39 rfl) (kvl _ hm.fr) ?_;clear hs hm a;intro w hm a hs)))
 obtain⟨g3,rfl⟩:=hs.pp 3
 obtain⟨g4,rfl⟩:=hs.pp 4
 obtain⟨g5,rfl⟩:=hs.pp 5
 obtain⟨g6,rfl⟩:=hs.pp 6
 refine st hs rfl rfl rfl (d_call hs rfl rfl rfl (pl 60 rfl) ((kls _ hm.fr))) ?_;clear hs a;rintro _ w1 ⟨lA,lc,lcs,rfl,hlr,hN,hf⟩ a hs
 replace hm:=hm.gain hf hN
 clear hN hf kvS kvl kls
 simp only[List.cons_append,List.nil_append]at hm
 obtain⟨ga,rfl⟩:=hlr.some_ (by omega)
 refine gs088d_ ?_;clear hs hm a;intros;rename_i a hm hs
 refine cLoop (X:=Nat) (fun k a w'=>k≤(lsS x).length∧Sl Tryz.f33.ntmps [(3,pt g3),(4,pt g4),(5,pt g5),(6,pt g6),(37,slv (some ga) (lsS x).length lc),(38,.int .i64 ((lsS x).length:Int)),(39,.int .i64 (k:Int))] a∧Mm (fun _=>False) wB [⟨some ga,93,lcs⟩,⟨some g6,32,[nS,.int .u16 0,nS,nS,nS]⟩,⟨some g5,91,[.slice x.rA x.rs.length x.rc,.slice x.tA x.ts.length x.tc]⟩,⟨some g4,25,[.slice (some ⟨gb,ob,none⟩) p.ss.length c,.int .u16 key]⟩,⟨some g3,38,(p.cl [])⟩] w') (fun k=>(lsS x).length-k) 0 ⟨Nat.zero_le _,(sb_ hs),hm⟩ ?_
 clear hs hm a
 rintro k a w' ⟨hk,hs,hm⟩
 by_cases hlt:k<(lsS x).length
 ·have hcell:lcs[k]?=some (.slice ((lsS x)[k]).A ((lsS x)[k]).xs.length ((lsS x)[k]).c):=hlr.get (by rw[List.getElem?_map,List.getElem?_eq_getElem hlt];rfl)
  have hyo:=hlo _ (List.getElem_mem hlt)
  have hyv:=hlv _ (List.getElem_mem hlt)
  have hyl:=hll _ (List.getElem_mem hlt)
  generalize(lsS x)[k]=y at hcell hyo hyv hyl
  refine gs088d_ ?_;clear hs hm a;intros;rename_i a hm hs
  refine cLoop (X:=Nat) (fun i a w'=>i≤y.xs.length∧Sl Tryz.f33.ntmps [(3,pt g3),(4,pt g4),(5,pt g5),(6,pt g6),(37,slv (some ga) (lsS x).length lc),(38,.int .i64 ((lsS x).length:Int)),(39,.int .i64 (k:Int)),(43,.slice y.A y.xs.length y.c),(44,.int .i64 (y.xs.length:Int)),(45,.int .i64 (i:Int))] a∧Mm (fun _=>False) wB [⟨some ga,93,lcs⟩,⟨some g6,32,[nS,.int .u16 0,nS,nS,nS]⟩,⟨some g5,91,[.slice x.rA x.rs.length x.rc,.slice x.tA x.ts.length x.tc]⟩,⟨some g4,25,[.slice (some ⟨gb,ob,none⟩) p.ss.length c,.int .u16 key]⟩,⟨some g3,38,(p.cl [])⟩] w') (fun i=>y.xs.length-i) 0 ⟨Nat.zero_le _,(sb_ hs),hm⟩ ?_
  clear hs hm a
  rintro i a w' ⟨hi,hs,hm⟩
  by_cases hlt2:i<y.xs.length
  ·obtain⟨b2,o2,hA2,hb2,r2⟩:=Rd.ro hyo (by rw[cns_len];omega)
   have r3:=r2.flat CN.cs_len hlt2
   have hqv:=hyv _ (List.getElem_mem hlt2)
   generalize y.xs[i]=q at r3 hqv
   have kp:=fun(w'':World) (hf:Pu wB w'')=>kpr w'' hf q hqv
   unfold CN.cs at r3
   rw[hA2]at hs
   clear r2
   cases hpf:prpF X.ss q.t q.v q.r q.o
   ·rw[hpf]at kp
    refine gcSim1_ ?_;clear hs hm a;intros;rename_i a hm hs
    exact gRetN tab hs rfl (.cons (.cells rfl rfl rfl rfl (hm.ro (k:=0) (n:=5) (g:=g6) mem_ (cutF_ok rfl))) (.cons (.tmp rfl) .nil)) ⟨nof,0,false,rfl,(fun e=>by cases e),hm.fr⟩
   ·rw[hpf]at kp
    refine gcSim1_ ?_;clear hs hm a;intros;rename_i a hm hs
    rw[←hA2]at hs
    exact⟨i+1,by omega,by omega,(sb_ hs),hm.sub sub_⟩
  ·obtain rfl:i=y.xs.length:=by omega
   refine gs088d_ ?_;clear hs hm a;intros;rename_i a hm hs
   exact zb7e7_
 obtain rfl:k=(lsS x).length:=by omega
 refine gs088d_ ?_;clear hs hm a;intros;rename_i a hm hs
 replace hm:=(hm.sub (M':=[⟨some g6,32,[nS,.int .u16 0,nS,nS,nS]⟩,⟨some g5,91,[.slice x.rA x.rs.length x.rc,.slice x.tA x.ts.length x.tc]⟩,⟨some g4,25,[.slice (some ⟨gb,ob,none⟩) p.ss.length c,.int .u16 key]⟩,⟨some g3,38,(p.cl [])⟩]) (List.Sublist.cons _ (List.Sublist.refl _))).zero 3
 refine cMid (fun a w=>∃(g12 gc gl:Nat)(bA:Option Nat)(bc:Nat)(bcs:List Value),Row bA p.ss.length bc 1 (ints bs) bcs∧Sl Tryz.f33.ntmps [(3,pt g3),(4,pt g4),(5,pt g5),(6,pt g6),(12,pt g12)] a∧Mm (fun _=>False) wB [⟨some g12,32,[slv bA p.ss.length bc,.int .u16 key,.slice (some ⟨gc,0,none⟩) 512 512,.slice (some ⟨gl,0,none⟩) 4 4,nS]⟩,⟨bA,3,bcs⟩,⟨some gc,103,cvs (List.replicate 512 ⟨0,0⟩)⟩,⟨some gl,61,ln4⟩,⟨some g6,32,[nS,.int .u16 0,nS,nS,nS]⟩,⟨some g5,91,[.slice x.rA x.rs.length x.rc,.slice x.tA x.ts.length x.tc]⟩,⟨some g4,25,[.slice (some ⟨gb,ob,none⟩) p.ss.length c,.int .u16 key]⟩,⟨some g3,38,(p.cl [])⟩] w) ?_ ?_
 ·with_reducible repeat(first|apply gThen|apply wp_seq)
  refine cDrawT (n:=12) (.s [0,1,3,4]<| .e [(2,.x<| .t 5<| .e [(6,.x<| .e [(7,.x<| .s [8,9]<| .o 10<| .o 11<| .d),(10,.o 7<| .x<| .s [8,9]<| .o 11<| .d)]),(7,.x<| .e [(6,.x<| .s [8,9]<| .o 10<| .o 11<| .d),(10,.o 6<| .x<| .s [8,9]<| .o 11<| .d)]),(10,.e [(6,.x<| .o 7<| .x<| .s [8,9]<| .o 11<| .d),(7,.x<| .o 6<| .x<| .s [8,9]<| .o 11<| .d)])]),(6,.x<| .e [(2,.x<| .t 5<| .e [(7,.x<| .s [8,9]<| .o 10<| .o 11<| .d),(10,.o 7<| .x<| .s [8,9]<| .o 11<| .d)]),(10,.o 2<| .x<| .t 5<| .o 7<| .x<| .s [8,9]<| .o 11<| .d)]),(10,.e [(2,.x<| .t 5<| .e [(6,.x<| .o 7<| .x<| .s [8,9]<| .o 11<| .d),(7,.x<| .o 6<| .x<| .s [8,9]<| .o 11<| .d)]),(6,.x<| .o 2<| .x<| .t 5<| .o 7<| .x<| .s [8,9]<| .o 11<| .d)])]) [⟨some g4,25,[.slice (some ⟨gb,ob,none⟩) p.ss.length c,.int .u16 key]⟩] hm rfl rfl ?_
  clear hm;intro t_ w1_ hm
  repeat' (first|(refine dgd799_ ?_;clear t_ hs hm a;intros;rename_i a hm hs t_)|refine tE t_ ?_|refine tC ?_ ?_|exact tN|intro t_|(refine oDo (i:=2) hs rfl (Wnt.none rfl) rfl rfl (by exact d_appendS (A:=none) (n:=0) (c:=0) (xs:=[]) (news:=ints bs) hs rfl rfl rfl rfl tab rfl rfl rfl rfl rfl hm mem_ (Row.empty 1) (by rw[ints_len,hbl];exact(Nat.mul_one _).symm) (hm.fr.rd' hA) (ints_one _) (by show(0+p.ss.length)*8≤_;omega) (by omega)) ?_;clear hs;rintro _ w1 ⟨bA,bc,bcs,rfl,hbr,hM⟩ a hs;(replace hm:=hM _ rep_);(clear hM);(rw[Nat.zero_add,List.nil_append]at hbr);(rw[Nat.zero_add]at hs);replace t_:=tX t_;refine⟨(hm.sub sub_),?_⟩)|(refine oDo (i:=6) hs rfl (Wnt.none rfl) rfl rfl (by exact d_makeSlice (n:=512) hs rfl rfl rfl tab rfl rfl rfl rfl rfl (by omega) rfl hm) ?_;clear hs;rintro _ w1 ⟨gc,rfl,-,hm⟩ a hs;(rw[zrep_cvs]at hm);replace t_:=tX t_;refine⟨(hm.sub sub_),?_⟩)|(refine oDo (i:=7) hs rfl (Wnt.none rfl) rfl rfl (by exact d_call hs rfl rfl rfl (pl 62 rfl) ((empty_c _))) ?_;clear hs;rintro _ w1 ⟨gl,rfl,hN,hf⟩ a hs;(replace hm:=gainE hm hf hN);(clear hf hN);(simp only[List.cons_append,List.nil_append]at hm);replace t_:=tX t_;refine⟨(hm.sub sub_),?_⟩)|(refine tD t_ ?_;(obtain⟨g12,rfl⟩:=hs.pp 12);(first|exact And.intro rfl ⟨g12,gc,gl,bA,bc,bcs,hbr,(sb_ hs),hm.sel [0,2,1,7,3,4,5,6] (by decide) rfl⟩|exact And.intro rfl ⟨g12,gc,gl,bA,bc,bcs,hbr,(sb_ hs),hm.sel [1,2,0,7,3,4,5,6] (by decide) rfl⟩))|fail)
 clear hs hm a
 rintro a w ⟨g12,gc,gl,bA,bc,bcs,hbr,hs,hm⟩
 refine gs088d_ ?_;clear hs hm a;intros;rename_i a hm hs
 refine cLoop (X:=Nat × List CV) (fun X a w'=>X.1≤x.rs.length∧X.2.length=512∧(∀z∈X.2,z.val)∧Sl Tryz.f33.ntmps [(3,pt g3),(4,pt g4),(5,pt g5),(6,pt g6),(12,pt g12),(68,.slice x.rA x.rs.length x.rc),(69,.int .i64 (x.rs.length:Int)),(70,.int .i64 (X.1:Int))] a∧Mm (fun _=>False) wB [⟨some g12,32,[slv bA p.ss.length bc,.int .u16 key,.slice (some ⟨gc,0,none⟩) 512 512,.slice (some ⟨gl,0,none⟩) 4 4,nS]⟩,⟨bA,3,bcs⟩,⟨some gc,103,cvs X.2⟩,⟨some gl,61,ln4⟩,⟨some g6,32,[nS,.int .u16 0,nS,nS,nS]⟩,⟨some g5,91,[.slice x.rA x.rs.length x.rc,.slice x.tA x.ts.length x.tc]⟩,⟨some g4,25,[.slice (some ⟨gb,ob,none⟩) p.ss.length c,.int .u16 key]⟩,⟨some g3,38,(p.cl [])⟩] w') (fun X=>x.rs.length-X.1) (0,List.replicate 512 ⟨0,0⟩) ⟨Nat.zero_le _,List.length_replicate,(fun z hz=>by rw[List.eq_of_mem_replicate hz];exact⟨.inl rfl,by dsimp only;omega,by dsimp only;omega⟩),(sb_ hs),hm⟩ ?_
 clear hs hm a
 rintro⟨k,xs⟩ a w' ⟨hk,hxl,hxv,hs,hm⟩
 dsimp only at hk hxl hxv hs hm
 by_cases hlt:k<x.rs.length
 ·obtain⟨b1,o1,hA1,hb1,r1⟩:=hx.r.ro (by rw[List.length_map];omega)
  have hcell:(x.rs.map CnS.v)[k]?=some (.slice (x.rs[k]).A (x.rs[k]).xs.length (x.rs[k]).c):=by rw[List.getElem?_map,List.getElem?_eq_getElem hlt];rfl
  have hl:=h.rl hlt (by omega)
  have hyo:=hx.rr _ (List.getElem_mem hlt)
  have hyv:=h.rv (List.getElem_mem hlt)
  have e1:=ints_some (xs:=bs) (k:=k) (by omega)
  have hgb:=hg.b k (by omega)
  rw[getI (l:=bs) (k:=k) (by omega),getI (l:=p.ss) (k:=k) (by omega)]at hgb
  have hsz:=hpv.sz.bd _ (List.getElem_mem (show k<p.ss.length by omega))
  generalize x.rs[k]=y at hcell hl hyo hyv
  generalize p.ss[k]'_=sk at*
  generalize bs[k]'_=bk at*
  rw[hA1]at hs hm
  refine gs088d_ ?_;clear hs hm a;intros;rename_i a hm hs
  rw[←hA1]at hs hm
  refine cLoop (X:=Nat × List CV) (fun X a w'=>X.1≤y.xs.length∧X.2.length=512∧(∀z∈X.2,z.val)∧Sl Tryz.f33.ntmps [(3,pt g3),(4,pt g4),(5,pt g5),(6,pt g6),(12,pt g12),(68,.slice x.rA x.rs.length x.rc),(69,.int .i64 (x.rs.length:Int)),(70,.int .i64 (k:Int)),(13,.int .i64 (k:Int)),(75,.slice y.A y.xs.length y.c),(76,.int .i64 (y.xs.length:Int)),(77,.int .i64 (X.1:Int))] a∧Mm (fun _=>False) wB [⟨some g12,32,[slv bA p.ss.length bc,.int .u16 key,.slice (some ⟨gc,0,none⟩) 512 512,.slice (some ⟨gl,0,none⟩) 4 4,nS]⟩,⟨bA,3,bcs⟩,⟨some gc,103,cvs X.2⟩,⟨some gl,61,ln4⟩,⟨some g6,32,[nS,.int .u16 0,nS,nS,nS]⟩,⟨some g5,91,[.slice x.rA x.rs.length x.rc,.slice x.tA x.ts.length x.tc]⟩,⟨some g4,25,[.slice (some ⟨gb,ob,none⟩) p.ss.length c,.int .u16 key]⟩,⟨some g3,38,(p.cl [])⟩] w') (fun X=>y.xs.length-X.1) (0,xs) ⟨Nat.zero_le _,hxl,hxv,(sb_ hs),hm⟩ ?_
  clear hs hm a
  rintro⟨i,ys⟩ a w' ⟨hi,hyl,hyw,hs,hm⟩
  dsimp only at hi hyl hyw hs hm
  by_cases hlt2:i<y.xs.length
  ·obtain⟨b2,o2,hA2,hb2,r2⟩:=Rd.ro hyo (by rw[cns_len];omega)
   have r3:=r2.flat CN.cs_len hlt2
   have hqv:=hyv _ (List.getElem_mem hlt2)
   generalize y.xs[i]=q at r3 hqv
   unfold CN.cs at r3
   obtain⟨m,hm1⟩:∃m:Nat,bk+(i:Int)=(m:Int):=⟨(bk+(i:Int)).toNat,by omega⟩
   have hm2:m<512:=by omega
   rw[hA2]at hs
   clear r2
   refine gs088d_ ?_;clear hs hm a;intros;rename_i a hm hs
   obtain⟨g16,rfl⟩:=hs.pp 16
   refine cMid (fun a w=>Sl Tryz.f33.ntmps [(3,pt g3),(4,pt g4),(5,pt g5),(6,pt g6),(12,pt g12),(68,.slice x.rA x.rs.length x.rc),(69,.int .i64 (x.rs.length:Int)),(70,.int .i64 (k:Int)),(13,.int .i64 (k:Int)),(75,.slice y.A y.xs.length y.c),(76,.int .i64 (y.xs.length:Int)),(77,.int .i64 (i:Int))] a∧Mm (fun _=>False) wB [⟨some g12,32,[slv bA p.ss.length bc,.int .u16 key,.slice (some ⟨gc,0,none⟩) 512 512,.slice (some ⟨gl,0,none⟩) 4 4,nS]⟩,⟨bA,3,bcs⟩,⟨some gc,103,(cvs ys).take (m*2)++[.int .u8 (rawC X q).t,.int .u16 (rawC X q).v]++(cvs ys).drop (m*2+2)⟩,⟨some gl,61,ln4⟩,⟨some g6,32,[nS,.int .u16 0,nS,nS,nS]⟩,⟨some g5,91,[.slice x.rA x.rs.length x.rc,.slice x.tA x.ts.length x.tc]⟩,⟨some g4,25,[.slice (some ⟨gb,ob,none⟩) p.ss.length c,.int .u16 key]⟩,⟨some g3,38,(p.cl [])⟩] w) ?_ ?_
   ·with_reducible repeat(first|apply gThen|apply wp_seq)
    refine cDrawT (n:=20) (.s [0,1,2,3,4,5,6,7,8,9,10,11,12,13]<| .o 14<| .x<| .s [15,16,17,18]<| .o 19<| .x<| .d) [⟨some g16,95,[.int .u8 q.t,.int .u16 q.v,.int .i64 q.r,.int .i64 q.o]⟩,⟨some g12,32,[slv bA p.ss.length bc,.int .u16 key,.slice (some ⟨gc,0,none⟩) 512 512,.slice (some ⟨gl,0,none⟩) 4 4,nS]⟩,⟨some g4,25,[.slice (some ⟨gb,ob,none⟩) p.ss.length c,.int .u16 key]⟩,⟨some g3,38,(p.cl [])⟩] hm rfl rfl ?_
    clear hm;intro t_ w1_ hm
    repeat' (first|(refine dgd799_ ?_;clear t_ hs hm a;intros;rename_i a hm hs t_)|refine tE t_ ?_|refine tC ?_ ?_|exact tN|intro t_|(refine oDo (i:=14) hs rfl (Wnt.none rfl) rfl rfl (by exact d_call hs rfl rfl rfl (pl 63 rfl) ((krw _ hm.fr q hqv))) ?_;clear hs;rintro _ w1 ⟨rfl,hf⟩ a hs;(replace hm:=hm.pu hf);(clear hf);replace t_:=tX t_;refine⟨(hm.sub sub_),?_⟩)|(refine oDoN (i:=19) hs rfl (Wnt.none rfl) rfl (by exact d_store hs rfl rfl rfl tab rfl rfl rfl rfl hm rep_ (putG (by show m*2+2≤_;rw[cvs_len];omega))) ?_;clear hs;rintro-w1 hm a hs;replace t_:=tX t_;refine⟨(hm.sub sub_),?_⟩)|(refine tD t_ ?_;(rw[←hA2]at hs);(exact And.intro rfl ⟨(sb_ hs),hm.sub sub_⟩))|fail)
   clear hs hm a
   rintro a w ⟨hs,hm⟩
   rw[show(cvs ys).take (m*2)++[.int .u8 (rawC X q).t,.int .u16 (rawC X q).v]++(cvs ys).drop (m*2+2)=cvs (ys.set m (rawC X q))from flat_splice CV.cs 2 CV.cs_len ys m (rawC X q) (by omega)]at hm
   refine gs088d_ ?_;clear hs hm a;intros;rename_i a hm hs
   refine⟨(i+1,ys.set m (rawC X q)),by dsimp only;omega,by dsimp only;omega,by dsimp only;rw[List.length_set];exact hyl,fun z hz=>?_,(sb_ hs),hm⟩
   dsimp only at hz
   rcases List.mem_or_eq_of_mem_set hz with hz|rfl
   ·exact hyw z hz
   ·exact rawC_val X hqv
  ·obtain rfl:i=y.xs.length:=by omega
   refine gs088d_ ?_;clear hs hm a;intros;rename_i a hm hs
   exact⟨(k+1,ys),by dsimp only;omega,by dsimp only;omega,hyl,hyw,(sb_ hs),hm⟩
 obtain rfl:k=x.rs.length:=by omega
 refine gs088d_ ?_;clear hs hm a;intros;rename_i a hm hs
 replace hm:=(hm.zero 52).perm (List.Perm.swap _ _ _)
 refine cLoop (X:=MtX) (fun X a w'=>X.rs.length≤4∧Sl Tryz.f33.ntmps [(3,pt g3),(4,pt g4),(5,pt g5),(6,pt g6),(12,pt g12),(104,.slice x.tA x.ts.length x.tc),(105,.int .i64 (x.ts.length:Int)),(106,.int .i64 (X.rs.length:Int))] a∧Mm (fun _=>False) wB (⟨some g12,32,[slv bA p.ss.length bc,.int .u16 key,.slice (some ⟨gc,0,none⟩) 512 512,.slice (some ⟨gl,0,none⟩) 4 4,slv X.tA X.rs.length X.tc]⟩::⟨X.tA,52,X.tcs⟩::⟨bA,3,bcs⟩::⟨some gc,103,cvs xs⟩::⟨some gl,61,ln4⟩::⟨some g6,32,[nS,.int .u16 0,nS,nS,nS]⟩::⟨some g5,91,[.slice x.rA x.rs.length x.rc,.slice x.tA x.ts.length x.tc]⟩::⟨some g4,25,[.slice (some ⟨gb,ob,none⟩) p.ss.length c,.int .u16 key]⟩::⟨some g3,38,(p.cl [])⟩::X.rs.map ThO.hp) w'∧Row X.tA X.rs.length X.tc 8 (X.rs.flatMap ThO.v) X.tcs∧(∀r∈X.rs,r.ok)∧(∀r∈X.rs,r.d.val B)) (fun X=>4-X.rs.length) ⟨[],none,0,[]⟩ ⟨Nat.zero_le _,(sb_ hs),hm,Row.empty 8,(fun r hr=>by cases hr),(fun r hr=>by cases hr)⟩ ?_
 clear hs hm a
 rintro⟨rs,tA,tc,tcs⟩ a w' ⟨hlen,hs,hm,hlr3,hok,hov⟩
 dsimp only at hlen hs hm hlr3 hok hov
 by_cases hlt:rs.length<4
 ·obtain⟨b1,o1,hA1,hb1,r1⟩:=hx.t.ro (by rw[flat_len VwV.v 8 VwV.len];omega)
  have hlt':rs.length<x.ts.length:=by omega
  have r2:=r1.flat VwV.len hlt'
  have hyo:=hx.tt _ (List.getElem_mem hlt')
  have hyv:=h.t _ (List.getElem_mem hlt')
  generalize x.ts[rs.length]=z at r2 hyo hyv
  obtain⟨⟨sst,pc,cnt,han,sav,trp,cod⟩,y⟩:=z
  obtain⟨⟨v1,v2,v3,v4,v5,v6,v7⟩,v8,v9⟩:=hyv
  unfold VwV.v at r2
  dsimp only at*
  rw[hA1]at hs hm
  clear r1
  refine gs088d_ ?_;clear hs hm a;intros;rename_i a hm hs
  rw[←hA1]at hs hm
  obtain⟨g18,rfl⟩:=hs.pp 18
  obtain⟨g19,rfl⟩:=hs.pp 19
  replace hm:=(hm.sub (List.Sublist.cons_cons _ (List.Sublist.cons _ (List.Sublist.refl _)))).zero 103
  refine cLoop (X:=RwX) (fun X a w'=>X.rs.length≤8∧Sl Tryz.f33.ntmps [(3,pt g3),(4,pt g4),(5,pt g5),(6,pt g6),(12,pt g12),(104,.slice x.tA x.ts.length x.tc),(105,.int .i64 (x.ts.length:Int)),(106,.int .i64 (rs.length:Int)),(19,pt g19),(126,.slice y.A y.xs.length y.c),(127,.int .i64 (y.xs.length:Int)),(128,.int .i64 (X.rs.length:Int))] a∧Mm (fun _=>False) wB (⟨X.A,103,X.cs⟩::⟨some g19,52,[.int .i64 sst,slv X.A X.rs.length X.c,.int .i64 pc,.int .i64 cnt,.int .i64 han,.int .i64 sav,.int .i64 trp,.int .u16 cod]⟩::(⟨some g12,32,[slv bA p.ss.length bc,.int .u16 key,.slice (some ⟨gc,0,none⟩) 512 512,.slice (some ⟨gl,0,none⟩) 4 4,slv tA rs.length tc]⟩::⟨tA,52,tcs⟩::⟨bA,3,bcs⟩::⟨some gc,103,cvs xs⟩::⟨some gl,61,ln4⟩::⟨some g6,32,[nS,.int .u16 0,nS,nS,nS]⟩::⟨some g5,91,[.slice x.rA x.rs.length x.rc,.slice x.tA x.ts.length x.tc]⟩::⟨some g4,25,[.slice (some ⟨gb,ob,none⟩) p.ss.length c,.int .u16 key]⟩::⟨some g3,38,(p.cl [])⟩::rs.map ThO.hp)) w'∧Row X.A X.rs.length X.c 2 (cvs X.rs) X.cs∧(∀z∈X.rs,z.val)) (fun X=>8-X.rs.length) ⟨[],none,0,[]⟩ ⟨Nat.zero_le _,(sb_ hs),hm,Row.empty 2,(fun c hc=>by cases hc)⟩ ?_
  clear hs hm a
  rintro⟨zs,A2,c2,cs2⟩ a w' ⟨hzl,hs,hm,hr,hzv⟩
  dsimp only at hzl hs hm hr hzv
  by_cases hlt2:zs.length<8
  ·obtain⟨b2,o2,hA2,hb2,r2⟩:=Rd.ro hyo (by rw[cns_len];omega)
   have hzy:zs.length<y.xs.length:=by omega
   have r3:=r2.flat CN.cs_len hzy
   have hqv:=v9 _ (List.getElem_mem hzy)
   generalize y.xs[zs.length]=q at r3 hqv
   unfold CN.cs at r3
   rw[hA2]at hs
   clear r2
   refine gs088d_ ?_;clear hs hm a;intros;rename_i a hm hs
   refine st hs rfl rfl rfl (d_call hs rfl rfl rfl (pl 63 rfl) ((krw _ hm.fr q hqv))) ?_;clear hs a;rintro _ w1 ⟨rfl,hf⟩ a hs
   replace hm:=hm.pu hf
   clear hf
   refine gs088d_ ?_;clear hs hm a;intros;rename_i a hm hs
   refine dv hs (Wnt.none rfl) rfl rfl (d_append (A:=A2) (n:=zs.length) (c:=c2) (news:=[.int .u8 (rawC X q).t,.int .u16 (rawC X q).v]) hs rfl rfl rfl rfl rfl tab rfl rfl rfl rfl rfl hm mem_ hr rfl (hm.ro (n:=2) mem_ (cutF_ok rfl)) rfl (by show(zs.length+1)*4≤_;omega) (by omega)) ?_
   clear hs
   rintro _ w4 ⟨A3,c3,cs3,rfl,hr3,hM⟩ a hs
   replace hm:=hM _ rep_
   clear hM
   rw[show cvs zs++[.int .u8 (rawC X q).t,.int .u16 (rawC X q).v]=cvs (zs++[rawC X q])from cvs_snoc _ _]at hr3
   refine gs088d_ ?_;clear hs hm a;intros;rename_i a hm hs
   rw[←hA2]at hs
   refine⟨⟨zs++[rawC X q],A3,c3,cs3⟩,by dsimp only;rw[List.length_append,List.length_singleton];omega,by dsimp only;rw[List.length_append,List.length_singleton];omega,?_,?_,?_,fun z hz=>?_⟩
   ·dsimp only
    rw[List.length_append,List.length_singleton]
    exact(sb_ hs)
   ·dsimp only
    rw[List.length_append,List.length_singleton]
    exact hm.sub (List.Sublist.cons _ (List.Sublist.cons _ (List.Sublist.cons _ (List.Sublist.refl _))))
   ·dsimp only
    rw[List.length_append,List.length_singleton]
    exact hr3
   ·rcases List.mem_append.1 hz with hz|hz
    ·exact hzv z hz
    ·rcases List.mem_singleton.1 hz with rfl;exact rawC_val X hqv
  ·have hz8:zs.length=8:=by omega
   obtain⟨r,hre⟩:∃r:ThO,r=⟨A2,c2,cs2,⟨sst,zs,pc,cnt,han,sav,trp,cod⟩⟩:=⟨_,rfl⟩
   have hrv:r.v=[.int .i64 sst,slv A2 zs.length c2,.int .i64 pc,.int .i64 cnt,.int .i64 han,.int .i64 sav,.int .i64 trp,.int .u16 cod]:=by rw[hre];rfl
   have hrh:r.hp=⟨A2,103,cs2⟩:=by rw[hre];rfl
   have hro:r.ok:=by rw[hre];exact hr
   have hrd:r.d.val B:=by rw[hre];exact⟨v1,hz8,v2,v3,v4,v5,v6,v7,hzv⟩
   refine gs088d_ ?_;clear hs hm a;intros;rename_i a hm hs
   refine dv hs (Wnt.none rfl) rfl rfl (d_append (A:=tA) (n:=rs.length) (c:=tc) (news:=[.int .i64 sst,slv A2 zs.length c2,.int .i64 pc,.int .i64 cnt,.int .i64 han,.int .i64 sav,.int .i64 trp,.int .u16 cod]) hs rfl rfl rfl rfl rfl tab rfl rfl rfl rfl rfl hm mem_ hlr3 rfl (hm.ro (n:=8) mem_ (cutF_ok rfl)) rfl (by show(rs.length+1)*80≤_;omega) (by omega)) ?_
   clear hs
   rintro _ w4 ⟨tA2,tc2,tcs2,rfl,hlr2,hM⟩ a hs
   replace hm:=hM _ rep_
   clear hM
   rw[←hrv,th_snoc]at hlr2
   refine gs088d_ ?_;clear hs hm a;intros;rename_i a hm hs
   rw[←hrh]at hm
   refine⟨⟨rs++[r],tA2,tc2,tcs2⟩,by dsimp only;rw[List.length_append,List.length_singleton];omega,by dsimp only;rw[List.length_append,List.length_singleton];omega,?_,?_,?_,?_,?_⟩
   ·dsimp only
    rw[List.length_append,List.length_singleton]
    exact(sb_ hs)
   ·dsimp only
    have hm2:=th_perm (L:=⟨some g12,32,[slv bA p.ss.length bc,.int .u16 key,.slice (some ⟨gc,0,none⟩) 512 512,.slice (some ⟨gl,0,none⟩) 4 4,slv tA2 (rs.length+1) tc2]⟩::⟨tA2,52,tcs2⟩::⟨bA,3,bcs⟩::⟨some gc,103,cvs xs⟩::⟨some gl,61,ln4⟩::⟨some g6,32,[nS,.int .u16 0,nS,nS,nS]⟩::⟨some g5,91,[.slice x.rA x.rs.length x.rc,.slice x.tA x.ts.length x.tc]⟩::⟨some g4,25,[.slice (some ⟨gb,ob,none⟩) p.ss.length c,.int .u16 key]⟩::[⟨some g3,38,(p.cl [])⟩]) (rs:=rs) (r:=r) (hm.sub (List.Sublist.cons _ (List.Sublist.cons_cons _ (List.Sublist.cons _ (List.Sublist.refl _)))))
    rw[List.length_append,List.length_singleton]
    exact hm2
   ·dsimp only
    rw[List.length_append,List.length_singleton]
    exact hlr2
   ·intro z hz
    rcases List.mem_append.1 hz with hz|hz
    ·exact hok z hz
    ·rcases List.mem_singleton.1 hz with rfl;exact hro
   ·intro z hz
    rcases List.mem_append.1 hz with hz|hz
    ·exact hov z hz
    ·rcases List.mem_singleton.1 hz with rfl;exact hrd
 have hln:rs.length=4:=by omega
 refine gs088d_ ?_;clear hs hm a;intros;rename_i a hm hs
 have hz4:=(((hm.zero 103).zero 103).zero 103).zero 103
 obtain⟨Y,hY⟩:∃Y:MO,Y=⟨bA,bc,bcs,bs,key,⟨some gc,512,cvs xs,xs,some gl,4,ln4,List.replicate 4 le0⟩,tA,tc,tcs,rs⟩:=⟨_,rfl⟩
 have hYv:Y.vs=[slv bA p.ss.length bc,.int .u16 key,.slice (some ⟨gc,0,none⟩) 512 512,.slice (some ⟨gl,0,none⟩) 4 4,slv tA rs.length tc]:=by
  rw[hY]
  unfold MO.vs
  dsimp only
  rw[hbl,hxl]
  rfl
 refine gRetN tab hs rfl (.cons (.cells rfl rfl rfl rfl (hm.ro (k:=0) (n:=5) (g:=g6) mem_ (cutF_ok rfl))) (.cons (.tmp rfl) .nil)) ⟨Y.f,Y.key,true,?_,(fun _=>⟨Y,rfl,?_,?_,?_⟩),hm.fr⟩
 ·rw[←MO.vs_f,hYv]
  rfl
 ·rw[hY]
  refine⟨by dsimp only;rw[hbl];exact hbr,⟨?_,ln4_row gl,le0_ok⟩,hlr3,hok⟩
  dsimp only
  rw[hxl]
  exact row_full (fun e=>by cases e) (by rw[cvs_len,hxl]) (by unfold maxLen;omega)
 ·rw[hY]
  refine⟨hg,hkey,hxl,rfl,?_,hxv,fun i hi=>?_,fun z hz=>?_⟩
  ·show(rs.map ThO.d).length=4
   rw[List.length_map]
   exact hln
  ·have h1:∀(l:List LnD)(hl:l=List.replicate 4 le0.d)(i:Nat)(hi:i<l.length),(l[i]).val i:=fun l hl i hi=>by
    subst hl
    rw[List.getElem_replicate]
    exact le0_val i
   exact h1 _ rfl i hi
  ·have hz':z∈rs.map ThO.d:=hz
   obtain⟨r,hr,rfl⟩:=List.mem_map.1 hz'
   exact hov r hr
 ·rw[hY]
  have hz5:=(hz4.sub (M':=([⟨none,103,[]⟩,⟨none,103,[]⟩,⟨none,103,[]⟩,⟨none,103,[]⟩]++[⟨tA,52,tcs⟩,⟨bA,3,bcs⟩,⟨some gc,103,cvs xs⟩,⟨some gl,61,ln4⟩])++rs.map ThO.hp) (List.Sublist.cons_cons _ (List.Sublist.cons_cons _ (List.Sublist.cons_cons _ (List.Sublist.cons_cons _ (List.Sublist.cons _ (List.Sublist.cons_cons _ (List.Sublist.cons_cons _ (List.Sublist.cons_cons _ (List.Sublist.cons_cons _ (List.Sublist.cons _ (List.Sublist.cons _ (List.Sublist.cons _ (List.Sublist.cons _ (List.Sublist.refl _))))))))))))))).perm (List.Perm.append_right (rs.map ThO.hp) (List.perm_append_comm (l₁:=([⟨tA,52,tcs⟩,⟨bA,3,bcs⟩,⟨some gc,103,cvs xs⟩,⟨some gl,61,ln4⟩]:List Hp)) (l₂:=([⟨none,103,[]⟩,⟨none,103,[]⟩,⟨none,103,[]⟩,⟨none,103,[]⟩]:List Hp))))
  exact hz5.new (List.Sublist.refl _)
theorem ovXSia0_{G H:Prop}(k:H)(s:H→G:=by intro k;(with_reducible refine toL hm ?_);first|exact oneV hs gw_ rfl rfl (by intro w hm;(first|exact kvR_|exact kb2_)) k|exact oneN hs rfl rfl rfl rfl rfl rfl rfl k|exact oneU hs rfl rfl rfl rfl rfl rfl k):G:=s k
theorem atv_c(A:Option Addr)(n c:Nat)(ss:List Int)(i:Int)(w:World)(hl:ss.length=n)(hr:Rd w w.heap.size A (ints ss))(hs':∀y∈ss,1≤y∧y≤32)(hn:n≤4)(hi:0≤i∧i≤65535):
  Ret Tryz.prog 56 [.slice A n c,.int .i64 i] w (fun v w'=>∃r o e:Int,v= .tuple #[.agg #[.int .i64 r,.int .i64 o],.int .i64 e]∧(0≤r∧r≤3)∧(0≤o∧o≤31)∧Pu w w'):=by
 refine enterR Tryz.func56 rfl rfl rfl fun a hs hm=>?_
 repeat(first|(refine ov_ ?_;clear hs a;intro a hs)|((with_reducible apply lCons);first|(refine dv hs gw_ rfl rfl da_ ?_;clear hs hm a;rintro _ w ⟨g,rfl,-,hm⟩ a hs)|(refine stn hs rfl rfl ds_ ?_;clear hs hm a;rintro-w hm a hs))|refine sc_ ?_)
 rename_i w0
 rename Nat=>g4
 refine cLoop (X:=Nat × Int) (fun x a w'=>Sl Tryz.f56.ntmps [(1,.int .i64 x.2),(4,pt g4),(8,.slice A n c),(9,.int .i64 (n:Int)),(10,.int .i64 (x.1:Int))] a∧Mm (fun _=>False) w0 [⟨some g4,129,[.int .i64 0,.int .i64 0]⟩] w'∧x.1≤n∧-32*(x.1:Int)≤x.2∧x.2≤65535) (fun x=>n-x.1) (0,i) ⟨hs.sub (Has.all ⟨rfl,rfl,rfl,rfl,rfl,trivial⟩),hm,Nat.zero_le _,by dsimp only;omega,by dsimp only;omega⟩ ?_
 clear hs hm a
 rintro⟨k,j⟩ a w' ⟨hs,hm,hk,h1,h2⟩
 dsimp only at*
 by_cases hlt:k<n
 ·obtain⟨b1,o1,rfl,hb1,r1⟩:=hr.ro (by rw[ints_len];omega)
  have e1:=ints_some (xs:=ss) (k:=k) (by omega)
  have hsk:=hs' ss[k] (List.getElem_mem (by omega))
  generalize ss[k]'(_)=sk at*
  by_cases h3:0≤j
  ·by_cases h4:j<sk
   ·repeat(first|(refine ov_ ?_;clear hs a;intro a hs)|((with_reducible apply lCons);first|(refine dv hs gw_ rfl rfl da_ ?_;clear hs hm a;rintro _ w ⟨g,rfl,-,hm⟩ a hs)|(refine stn hs rfl rfl ds_ ?_;clear hs hm a;rintro-w hm a hs))|refine sc_ ?_)
    exact gRetN tab hs rfl (.cons (.cells rfl rfl rfl rfl (hm.ro (k:=0) (n:=2) mem_ (cutF_ok rfl))) (.cons (.tmp rfl) .nil)) ⟨_,_,_,rfl,by omega,by omega,hm.fr⟩
   ·repeat(first|(refine ov_ ?_;clear hs a;intro a hs)|((with_reducible apply lCons);first|(refine dv hs gw_ rfl rfl da_ ?_;clear hs hm a;rintro _ w ⟨g,rfl,-,hm⟩ a hs)|(refine stn hs rfl rfl ds_ ?_;clear hs hm a;rintro-w hm a hs))|refine sc_ ?_)
    exact⟨(k+1,j-sk),by dsimp only;omega,hs.sub (Has.all ⟨rfl,rfl,rfl,rfl,rfl,trivial⟩),hm,by dsimp only;omega,by dsimp only;omega,by dsimp only;omega⟩
  ·repeat(first|(refine ov_ ?_;clear hs a;intro a hs)|((with_reducible apply lCons);first|(refine dv hs gw_ rfl rfl da_ ?_;clear hs hm a;rintro _ w ⟨g,rfl,-,hm⟩ a hs)|(refine stn hs rfl rfl ds_ ?_;clear hs hm a;rintro-w hm a hs))|refine sc_ ?_)
   exact⟨(k+1,j-sk),by dsimp only;omega,hs.sub (Has.all ⟨rfl,rfl,rfl,rfl,rfl,trivial⟩),hm,by dsimp only;omega,by dsimp only;omega,by dsimp only;omega⟩
 ·repeat(first|(refine ov_ ?_;clear hs a;intro a hs)|((with_reducible apply lCons);first|(refine dv hs gw_ rfl rfl da_ ?_;clear hs hm a;rintro _ w ⟨g,rfl,-,hm⟩ a hs)|(refine stn hs rfl rfl ds_ ?_;clear hs hm a;rintro-w hm a hs))|refine sc_ ?_)
  exact gRetN tab hs rfl (.cons (.cells rfl rfl rfl rfl (hm.ro (k:=0) (n:=2) mem_ (cutF_ok rfl))) (.cons (.tmp rfl) .nil)) ⟨_,_,_,rfl,by omega,by omega,hm.fr⟩
theorem cnv_c(gd:Nat)(A:Option Addr)(n c at_:Nat)(xs:List Int)(x:LS)(w:World)(h:Dk gd A n c at_ xs w)(hx:x.ok w)(hne:x.ne gd)(h1n:1≤x.n):
  Ret Tryz.prog 32 [pt gd,x.s] w (fun u w'=>∃q:CN,u=q.a∧q.val∧DkR gd A n c xs w w'):=by
 have hwr:∀y:Int,0≤IntKind.u16.wrap y∧IntKind.u16.wrap y≤65535:=u16_bd
 have hn4:=hx.n
 unfold LS.s
 refine enterR Tryz.func32 rfl rfl rfl fun a hs hm=>?_
 clear hm
 have hm:=h.in_
 repeat(first|(refine ovXSia0_ ?_;clear hs a;intro a hs)|((with_reducible apply lCons);first|(refine dv hs gw_ rfl rfl da_ ?_;clear hs hm a;rintro _ w ⟨g,rfl,-,hm⟩ a hs)|(refine stn hs rfl rfl ds_ ?_;clear hs hm a;rintro-w hm a hs))|refine sc_ ?_)
 refine st hs rfl rfl rfl (d_call hs rfl rfl rfl (pl 21 rfl) ((nxt_c gd A n c _ xs 6 _ (h.now hm mem_) (by omega) (by omega)))) ?_;clear hs a;rintro _ w1 ⟨r1,rfl,b1,a1,k1,hf⟩ a hs
 replace hm:=hm.dkt rep_ k1 hf
 clear hf
 by_cases h4:(r1:Int)=4
 ·repeat(first|(refine ovXSia0_ ?_;clear hs a;intro a hs)|((with_reducible apply lCons);first|(refine dv hs gw_ rfl rfl da_ ?_;clear hs hm a;rintro _ w ⟨g,rfl,-,hm⟩ a hs)|(refine stn hs rfl rfl ds_ ?_;clear hs hm a;rintro-w hm a hs))|refine sc_ ?_)
  have hx1:=hx.dk hne hm
  refine st hs rfl rfl rfl (d_call hs rfl rfl rfl (pl 57 rfl) ((tot_c x.B x.n x.d x.ss _ hx1.sl hx1.sr hx1.s hx1.n))) ?_;clear hs a;rintro _ w1 ⟨s,rfl,s1,s2,hf⟩ a hs
  replace hm:=hm.pu hf
  clear hf
  repeat(first|(refine ovXSia0_ ?_;clear hs a;intro a hs)|((with_reducible apply lCons);first|(refine dv hs gw_ rfl rfl da_ ?_;clear hs hm a;rintro _ w ⟨g,rfl,-,hm⟩ a hs)|(refine stn hs rfl rfl ds_ ?_;clear hs hm a;rintro-w hm a hs))|refine sc_ ?_)
  refine st hs rfl rfl rfl (d_call hs rfl rfl rfl (pl 21 rfl) ((nxt_c gd A n c _ xs s _ (h.now hm mem_) (by omega) (by omega)))) ?_;clear hs a;rintro _ w1 ⟨r2,rfl,b2,a1,k2,hf⟩ a hs
  replace hm:=hm.dkt rep_ k2 hf
  clear hf
  have hx2:=hx.dk hne hm
  repeat(first|(refine ovXSia0_ ?_;clear hs a;intro a hs)|((with_reducible apply lCons);first|(refine dv hs gw_ rfl rfl da_ ?_;clear hs hm a;rintro _ w ⟨g,rfl,-,hm⟩ a hs)|(refine stn hs rfl rfl ds_ ?_;clear hs hm a;rintro-w hm a hs))|refine sc_ ?_)
  refine st hs rfl rfl rfl (d_call hs rfl rfl rfl (pl 56 rfl) ((atv_c x.B x.n x.d x.ss (r2:Int) _ hx2.sl hx2.sr hx2.s hx2.n (by omega)))) ?_;clear hs a;rintro _ w1 ⟨r,o,e,rfl,hr3,ho3,hf⟩ a hs
  replace hm:=hm.pu hf
  clear hf
  repeat(first|(refine ovXSia0_ ?_;clear hs a;intro a hs)|((with_reducible apply lCons);first|(refine dv hs gw_ rfl rfl da_ ?_;clear hs hm a;rintro _ w ⟨g,rfl,-,hm⟩ a hs)|(refine stn hs rfl rfl ds_ ?_;clear hs hm a;rintro-w hm a hs))|refine sc_ ?_)
  refine gRetN tab hs rfl (.cons (.cells rfl rfl rfl rfl (hm.ro (k:=0) (n:=4) mem_ (cutF_ok rfl))) .nil) ⟨⟨_,_,_,_⟩,rfl,?_,_,h.now hm mem_,Dk.out hm⟩
  exact⟨.inr (.inr rfl),by dsimp only;omega,(fun h=>absurd rfl h),(fun _=>⟨rfl,by dsimp only;omega,by dsimp only;omega,by dsimp only;omega,by dsimp only;omega,by dsimp only;omega⟩)⟩
 ·by_cases h5:(r1:Int)=5
  ·repeat(first|(refine ovXSia0_ ?_;clear hs a;intro a hs)|((with_reducible apply lCons);first|(refine dv hs gw_ rfl rfl da_ ?_;clear hs hm a;rintro _ w ⟨g,rfl,-,hm⟩ a hs)|(refine stn hs rfl rfl ds_ ?_;clear hs hm a;rintro-w hm a hs))|refine sc_ ?_)
   refine st hs rfl rfl rfl (d_call hs rfl rfl rfl (pl 21 rfl) ((nxt_c gd A n c _ xs 10 _ (h.now hm mem_) (by omega) (by omega)))) ?_;clear hs a;rintro _ w1 ⟨r2,rfl,b2,a1,k2,hf⟩ a hs
   replace hm:=hm.dkt rep_ k2 hf
   clear hf
   repeat(first|(refine ovXSia0_ ?_;clear hs a;intro a hs)|((with_reducible apply lCons);first|(refine dv hs gw_ rfl rfl da_ ?_;clear hs hm a;rintro _ w ⟨g,rfl,-,hm⟩ a hs)|(refine stn hs rfl rfl ds_ ?_;clear hs hm a;rintro-w hm a hs))|refine sc_ ?_)
   refine gRetN tab hs rfl (.cons (.cells rfl rfl rfl rfl (hm.ro (k:=0) (n:=4) mem_ (cutF_ok rfl))) .nil) ⟨⟨_,_,_,_⟩,rfl,?_,_,h.now hm mem_,Dk.out hm⟩
   exact⟨.inr (.inl rfl),hwr _,(fun _=>⟨rfl,rfl⟩),(fun h=>by cases h)⟩
  ·repeat(first|(refine ovXSia0_ ?_;clear hs a;intro a hs)|((with_reducible apply lCons);first|(refine dv hs gw_ rfl rfl da_ ?_;clear hs hm a;rintro _ w ⟨g,rfl,-,hm⟩ a hs)|(refine stn hs rfl rfl ds_ ?_;clear hs hm a;rintro-w hm a hs))|refine sc_ ?_)
   refine st hs rfl rfl rfl (d_call hs rfl rfl rfl (pl 58 rfl) ((wrd_c gd A n c _ xs _ (h.now hm mem_)))) ?_;clear hs a;rintro _ w1 ⟨y,rfl,hy,a1,k2,hf⟩ a hs
   replace hm:=hm.dkt rep_ k2 hf
   clear hf
   repeat(first|(refine ovXSia0_ ?_;clear hs a;intro a hs)|((with_reducible apply lCons);first|(refine dv hs gw_ rfl rfl da_ ?_;clear hs hm a;rintro _ w ⟨g,rfl,-,hm⟩ a hs)|(refine stn hs rfl rfl ds_ ?_;clear hs hm a;rintro-w hm a hs))|refine sc_ ?_)
   refine gRetN tab hs rfl (.cons (.cells rfl rfl rfl rfl (hm.ro (k:=0) (n:=4) mem_ (cutF_ok rfl))) .nil) ⟨⟨_,_,_,_⟩,rfl,?_,_,h.now hm mem_,Dk.out hm⟩
   exact⟨.inl rfl,hy,(fun _=>⟨rfl,rfl⟩),(fun h=>by cases h)⟩
theorem dgSin0_{G H:Prop}(k:H)(s:Bx H→G:=by intro k_;(repeat(first|(refine tTake t_ hs rfl (by kernel_rfl) gw_ rfl rfl (by intro w hm;replace hm:Mm _ _ _ w:=hm;(first|exact kvR_|exact r_loadO hs rfl rfl tab rfl rfl rfl hm (by repeat(first|exact mH|apply mT)) (by assumption))) (hm.sub sub_) ?_;(try clear t_ hs a);intro t_ a hs)|(refine tTakeN t_ hs rfl (by kernel_rfl) rfl rfl rfl rfl rfl rfl rfl (hm.sub sub_) ?_;(try clear t_ hs a);intro t_ a hs)|(refine tTakeU t_ hs rfl (by kernel_rfl) rfl rfl rfl rfl rfl rfl (hm.sub sub_) ?_;(try clear t_ hs a);intro t_ a hs)|(refine tE1 t_ ?_;(try clear t_);intro t_)|(refine nx_ t_ rfl ?_;have t_:=t_;first|(refine oDo hs rfl gw_ rfl rfl da_ ?_;(try clear hs hm a);rintro _ w_ ⟨g_,rfl,-,hm⟩ a hs;refine⟨(hm.sub sub_),?_⟩)|(refine oDoN hs rfl gw_ rfl ds_ ?_;(try clear hs hm a);rintro-w_ hm a hs;refine⟨(hm.sub sub_),?_⟩)|(refine oDoV hs rfl gw_ rfl rfl (by(first|exact klR_|exact r_loadO hs rfl rfl tab rfl rfl rfl hm (by repeat(first|exact mH|apply mT)) (by assumption))) ?_;(try clear hs a);intro a hs;refine⟨(hm.sub sub_),?_⟩))));have y_:=t_;clear t_;(first|(have m_:=hm;have s_:=hs;have z_:=y_;clear hs;(try clear hm);revert m_ s_ z_ a)|((first|refine rexd_ hs hm ?_|refine rexb_ hs hm ?_);intro a hm hs;have z_:=y_;revert hm hs z_ a));(try revert w_);(repeat revert g_);exact k_.h):G:=s ⟨k⟩
section
set_option linter.unusedSectionVars false
variable [HB]
theorem New.fr{S:Nat→Prop}{w0 w w':World}{R:List Hp}(h:New w0 w R)(hf:Fr S w w')(hn:∀g,own R g→¬S g):New w0 w' R:=⟨fun x hx=>Hp.sat_fr hf (h.me x hx) fun g hg=>hn g ⟨x,hx,hg⟩,h.dj,h.fresh⟩
theorem Mm.take_new{S:Nat→Prop}{w0 w1 w:World}{M R:List Hp}(hm:Mm S w0 M w)(hN:New w1 w R)(hle:w0.heap.size≤w1.heap.size)(hd:∀g,own R g→¬own M g):Mm S w0 (M++R) w:=⟨fun x hx=>by
 rcases List.mem_append.1 hx with hx|hx
 ·exact hm.me x hx
 ·exact hN.me x hx,hm.fr,hm.dj.append hN.dj (fun x hx y hy g e1 e2=>hd g ⟨y,hy,e2⟩ ⟨x,hx,e1⟩),fun x hx g e=>by
 rcases List.mem_append.1 hx with hx|hx
 ·exact hm.ow x hx g e
 ·exact .inl (Nat.le_trans hle (hN.fresh x hx g e))⟩
theorem Rep.appL{A A' B:List Hp}{x y:Hp}(h:Rep A x y A'):Rep (A++B) x y (A'++B):=by
 induction h with
 |head M x h=>exact Rep.head _ _ _
 |tail z r ih=>exact Rep.tail z ih
theorem Rep.appR{B B':List Hp}{x y:Hp}(h:Rep B x y B'):∀A:List Hp,Rep (A++B) x y (A++B')
 |[]=>h
 |z::A=>Rep.tail z (Rep.appR h A)
theorem Rep.mapset{α:Type}(f:α→Hp){q q':α}:∀{l:List α}{k:Nat},l[k]?=some q→Rep (l.map f) (f q) (f q') ((l.set k q').map f)
 |[],k,h=>by cases h
 |z::l,0,h=>by
  have h':z=q:=by simpa using h
  subst h'
  exact Rep.head _ _ _
 |z::l,k+1,h=>Rep.tail _ (Rep.mapset f (l:=l) (k:=k) (by simpa using h))
def CO.put(q:CO)(i:Nat)(c:CN):CO:={q with cs:=q.cs.take (i*4)++c.cs++q.cs.drop (i*4+4),xs:=q.xs.set i c}
theorem CO.put_v(q:CO)(i:Nat)(c:CN):(q.put i c).v=q.v:=by
 unfold CO.put CO.v
 dsimp only
 rw[List.length_set]
theorem CO.put_ok{q:CO}{i:Nat}{c:CN}(h:q.ok)(hi:i<q.xs.length):(q.put i c).ok:=by
 have hq:Row q.A q.xs.length q.c 4 (cns q.xs) q.cs:=h
 have hsp:=hq.splice (o:=i*4) (ys:=c.cs) (by rw[CN.cs_len];omega)
 rw[CN.cs_len,show(cns q.xs).take (i*4)++c.cs++(cns q.xs).drop (i*4+4)=cns (q.xs.set i c)from flat_splice CN.cs 4 CN.cs_len q.xs i c hi]at hsp
 show Row q.A (q.xs.set i c).length q.c 4 (cns (q.xs.set i c)) _
 rw[List.length_set]
 exact hsp
theorem map_set_same{α β:Type}{f:α→β}{l:List α}{k:Nat}{q q':α}(hq:l[k]?=some q) (h:f q'=f q):(l.set k q').map f=l.map f:=by
 rw[List.map_set,h]
 exact set_self (by rw[List.getElem?_map,hq];rfl)
theorem RgOk.put{rs:List CO}{ss:List Int}{k i:Nat}{q:CO}{c:CN}(h:RgOk (rs.map CO.xs) ss)(hq:rs[k]?=some q) (hc:c.val):RgOk ((rs.set k (q.put i c)).map CO.xs) ss:=by
 have hqx:(rs.map CO.xs)[k]?=some q.xs:=by rw[List.getElem?_map,hq];rfl
 refine⟨by rw[List.length_map,List.length_set,←List.length_map (f:=CO.xs)];exact h.n,fun j h1 h2=>?_,fun r hr=>?_⟩
 ·rw[List.length_map,List.length_set]at h1
  have h3:=h.l j (by rw[List.length_map];exact h1) h2
  rw[List.getElem_map]at h3 ⊢
  rw[List.getElem_set]
  split
  ·next e=>
   subst e
   rw[List.getElem?_eq_getElem h1]at hq
   have hq':rs[k]=q:=Option.some.inj hq
   rw[hq']at h3
   show((q.xs.set i c).length:Int)=_
   rw[List.length_set]
   exact h3
  ·exact h3
 ·obtain⟨z,hz,rfl⟩:=List.mem_map.1 hr
  rcases List.mem_or_eq_of_mem_set hz with hz|rfl
  ·exact h.v _ (List.mem_map.2 ⟨z,hz,rfl⟩)
  ·intro x hx
   have hx':x∈q.xs.set i c:=hx
   rcases List.mem_or_eq_of_mem_set hx' with hx'|rfl
   ·exact h.v _ (List.mem_of_getElem? hqx) x hx'
   ·exact hc
def SO.setR(s:SO)(k:Nat)(q:CO):SO:={s with rs:=s.rs.set k q}
def SO.setT(s:SO)(k:Nat)(q:VwO):SO:={s with ts:=s.ts.set k q}
theorem SO.setR_ok{s:SO}{ss:List Int}{B:Int}{k i:Nat}{q:CO}{c:CN}(h:s.ok)(hv:s.val ss B)(hq:s.rs[k]?=some q) (hi:i<q.xs.length) (hc:c.val):(s.setR k (q.put i c)).ok∧(s.setR k (q.put i c)).val ss B:=by
 refine⟨⟨?_,h.t,fun r hr=>?_,h.tt⟩,⟨?_,hv.r.put hq hc,hv.tn,hv.t⟩⟩
 ·unfold SO.setR
  dsimp only
  rw[List.length_set,map_set_same hq (CO.put_v q i c)]
  exact h.q
 ·rcases List.mem_or_eq_of_mem_set hr with hr|rfl
  ·exact h.rr r hr
  ·exact CO.put_ok (h.rr q (List.mem_of_getElem? hq)) hi
 ·show(s.rs.set k _).length=_
  rw[List.length_set];exact hv.n
theorem SO.setT_ok{s:SO}{ss:List Int}{B:Int}{k i:Nat}{q:VwO}{c:CN}(h:s.ok)(hv:s.val ss B)(hq:s.ts[k]?=some q) (hi:i<q.r.xs.length) (hc:c.val):(s.setT k ⟨q.d,q.r.put i c⟩).ok∧(s.setT k ⟨q.d,q.r.put i c⟩).val ss B:=by
 have hqv:=hv.t q (List.mem_of_getElem? hq)
 have hqo:=h.tt q (List.mem_of_getElem? hq)
 refine⟨⟨h.q,?_,h.rr,fun r hr=>?_⟩,⟨hv.n,hv.r,?_,fun r hr=>?_⟩⟩
 ·unfold SO.setT
  dsimp only
  rw[List.length_set,show(s.ts.set k ⟨q.d,q.r.put i c⟩).flatMap VwO.v=s.ts.flatMap VwO.v by
   rw[List.flatMap_def,List.flatMap_def,map_set_same hq (by
    have:=CO.put_v q.r i c
    unfold CO.v at this
    unfold VwO.v
    dsimp only
    rw[this])]]
  exact h.t
 ·rcases List.mem_or_eq_of_mem_set hr with hr|rfl
  ·exact h.tt r hr
  ·exact CO.put_ok hqo hi
 ·show(s.ts.set k _).length=_
  rw[List.length_set];exact hv.tn
 ·rcases List.mem_or_eq_of_mem_set hr with hr|rfl
  ·exact hv.t r hr
  ·exact⟨hqv.d,by show(q.r.xs.set i c).length=8;rw[List.length_set];exact hqv.n,fun x hx=>by
    have hx':x∈q.r.xs.set i c:=hx
    rcases List.mem_or_eq_of_mem_set hx' with hx'|rfl
    ·exact hqv.v x hx'
    ·exact hc⟩
def VwO.stp(q:VwO)(v:Int):VwO:=⟨{q.d with st:=v},q.r⟩
def SO.setS(s:SO)(k:Nat)(q:VwO)(v:Int):SO:={s with ts:=s.ts.set k (q.stp v),tcs:=s.tcs.set (k*8+0) (.int .i64 v)}
theorem SO.setS_ok{s:SO}{ss:List Int}{B:Int}{k:Nat}{q:VwO}{v:Int}(h:s.ok)(hv:s.val ss B)(hq:s.ts[k]?=some q) (h0:0≤v∧v≤4):(s.setS k q v).ok∧(s.setS k q v).val ss B:=by
 have hqv:=hv.t q (List.mem_of_getElem? hq)
 have hqo:=h.tt q (List.mem_of_getElem? hq)
 refine⟨⟨h.q,?_,h.rr,fun r hr=>?_⟩,⟨hv.n,hv.r,?_,fun r hr=>?_⟩⟩
 ·unfold SO.setS
  dsimp only
  rw[List.length_set,←flat_set VwO.v 8 VwO.len s.ts k 0 q (.int .i64 v) hq (by omega) (q.stp v) rfl]
  exact h.t.set _ _
 ·rcases List.mem_or_eq_of_mem_set hr with hr|rfl
  ·exact h.tt r hr
  ·exact hqo
 ·show(s.ts.set k _).length=_
  rw[List.length_set];exact hv.tn
 ·rcases List.mem_or_eq_of_mem_set hr with hr|rfl
  ·exact hv.t r hr
  ·exact⟨⟨h0,hqv.d.pc,hqv.d.cnt,hqv.d.han,hqv.d.sav,hqv.d.trp,hqv.d.cod⟩,hqv.n,hqv.v⟩
def lsZ(p:PV):LS:=⟨p.sA,p.ss.length,p.sc,p.ss,0,p.sA,p.sc,p.ss⟩
theorem lsZ_ok{p:PV}{w:World}(hp:p.ok w)(hpv:p.val):(lsZ p).ok w:=⟨rfl,rfl,hp.s,hp.s,(fun y hy=>by have:=hpv.sz.bd y hy;omega),hpv.sz.bd,hpv.sz.four⟩
theorem inj2_c(p:PV)(y:MO)(gq gt qc tc:Nat)(s:SO)(B:Int)(w:World)(hp:p.ok w)(hpv:p.val)(hyv:y.mv.ok w)(yo:y.ok)(yv:y.d.val p.ss B)(hbl:y.bs.length=p.ss.length)(hsr:s.rd.ok w)(sv:s.val p.ss B)(hsv:s.rd.v= .agg #[slv (some gq) p.ss.length qc,slv (some gt) 4 tc])(hB:B≤1099511627776):Ret Tryz.prog 33 [p.v,.agg #[slv y.bA y.bs.length y.bc,.int .u16 y.key],.agg #[slv (some gq) p.ss.length qc,slv (some gt) 4 tc]] w (fun u w'=>∃(f:Nat→Option Addr × Nat × Nat)(k:Int)(b:Bool),u= .tuple #[.agg (mV f k).toArray,.bool b]∧(b=true→∃z:MO,z.vs=mV f k∧z.ok∧z.d.val p.ss B∧New w w' z.hps)∧Pu w w'):=by
 rw[hbl,←hsv]
 exact inject_c p (ad y.bA) y.bc y.bs y.key s.rd B w hp hpv hyv.b (by have:=yo.b.le;omega) yv.gap yv.key hsr (SO.rd_val sv) hB
structure McX where
 i:Nat
 a:Nat
 rs:List CO
structure MtY where
 i:Nat
 a:Nat
 tcs:List Value
 ts:List VwO
theorem own_app{A B:List Hp}{g:Nat}(h:own (A++B) g):own A g∨own B g:=by
 obtain⟨x,hx,e⟩:=h
 rcases List.mem_append.1 hx with hx|hx
 ·exact .inl ⟨x,hx,e⟩
 ·exact .inr ⟨x,hx,e⟩
end
theorem machine_c(gd:Nat)(A:Option Addr)(n c at_:Nat)(xs:List Int)(wB:World)(h:Dk gd A n c at_ xs wB):
  Ret Tryz.prog 20 [pt gd] wB (fun u w'=>∃(_:HB)(p:PV)(y:MO)(a1:Nat),u= .tuple #[p.v,y.v]∧HB.h+1=(p.code.length:Int)∧p.val∧p.ok w'∧(∃lo hi,p.btw lo hi∧wB.heap.size≤lo∧∀b,lo≤b→b<hi→¬own (dk gd A n c a1::y.hps) b)∧y.ok∧y.d.val p.ss 400000∧Mm (own [dk gd A n c at_]) wB (dk gd A n c a1::y.hps) w'):=by
 have hgd:=Hp.lt h.sat (g:=gd) rfl
 refine enterR Tryz.func20 rfl rfl rfl fun a hs hm=>?_
 clear hm
 have hm:=h.in_
 refine gsce98_ ?_;clear hs hm a;intros;rename_i a hm hs
 obtain⟨g2,rfl⟩:=hs.pp 2
 obtain⟨g3,rfl⟩:=hs.pp 3
 have hlo:=fun g (hg:own _ g)=>hm.own_lt hg
 have hle0:=hm.fr.size
 refine st hs rfl rfl rfl (d_call hs rfl rfl rfl (pl 30 rfl) ((run_c gd A n c _ xs _ (h.now hm mem_)))) ?_;clear hs a;rintro _ w1 ⟨hb,Z,a1,wp,rfl,hhb,hZ,hbw,hle,hk⟩ a hs
 replace hm:=hm.into hk rfl rep_
 obtain⟨lo,hi,hhi,hBl,hbw2,hno0⟩:∃lo hi,wp.heap.size=hi∧wB.heap.size≤lo∧Z.r.p.btw lo hi∧∀b,lo≤b→¬own [⟨some g3,32,[nS,.int .u16 0,nS,nS,nS]⟩,⟨some g2,38,[nS,nS,nS]⟩,dk gd A n c a1] b:=⟨_,_,rfl,hle0,hbw,fun b hb hg=>by
  have:=hlo b (own_eq hg rfl)
  omega⟩
 have hleB:wB.heap.size≤wp.heap.size:=Nat.le_trans hle0 hle
 clear hbw hlo hle0 hle hk
 have pok:=hZ.i.p.now
 have hpv:=hZ.i.pv
 have yN:=hZ.i.y.now
 have yo:=hZ.i.yo
 have yv:=hZ.i.yv
 have hszi:=hZ.i.sz
 have h4:=hZ.i.gt.1
 unfold RV.v RV.cs RD.cs at hs
 clear hZ
 obtain⟨⟨p,y,oy,ky⟩,eA,ec,nn,es,jA,jd,js⟩:=Z
 dsimp only at hs pok hpv yN yo yv h4 hbw2 hhb
 have hmB:=hm
 obtain⟨M1,hM1⟩:∃M1,[⟨some g3,32,[nS,.int .u16 0,nS,nS,nS]⟩,⟨some g2,38,[nS,nS,nS]⟩,dk gd A n c a1]=M1:=⟨_,rfl⟩
 have hm0:Mm (own M1) w1 ([⟨some g3,32,[nS,.int .u16 0,nS,nS,nS]⟩,⟨some g2,38,[nS,nS,nS]⟩,dk gd A n c a1]) w1:=by rw[←hM1];exact hm.rebase
 replace hmB:Mm (own [dk gd A n c at_]) wB M1 w1:=by rw[←hM1];exact hmB
 have hno1:∀b,lo≤b→¬own M1 b:=by rw[←hM1];exact hno0
 clear hm hno0
 have hm:=hm0
 clear hm0
 have hlh:∀g,own y.hps g→hi≤g:=fun g ⟨x,hx,e⟩=>by rw[←hhi];exact yN.fresh x hx g e
 have hlohi:lo≤hi:=by
  have h1:=hpv.sz.one
  obtain⟨b,o,e,-,-⟩:=pok.s.ro (by rw[ints_len];omega)
  have:=hbw2.s (by rintro e0;rw[e0]at h1;simp at h1) b o e
  omega
 have hpk:∀(w:World)(M':List Hp),Mm (own M1) w1 M' w→p.ok w:=fun w M' hm=>pok.keep hbw2 hm.fr fun b hb _=>hno1 b hb
 have hi1:hi≤w1.heap.size:=by rw[←hhi];exact hszi
 have hnoM:∀(w:World)(L:List Hp),Mm (own M1) w1 L w→∀b,lo≤b→b<hi→¬own L b:=fun w L hm b h1 h2 hg=>by
  rcases hm.own_ hg with h3|h3
  ·omega
  ·exact hno1 b h1 h3
 have hne:(lsZ p).ne gd:=by
  have h1:=hpv.sz.one
  have hx:∀b o,p.sA=some ⟨b,o,none⟩→b≠gd:=fun b o e=>by
   have:=(hbw2.s (by rintro e0;rw[e0]at h1;simp at h1) b o e).1
   omega
  exact⟨hx,hx⟩
 have hyk:∀(w:World)(M':List Hp),Mm (own M1) w1 M' w→New wp w y.hps:=fun w M' hm=>yN.fr hm.fr fun g hg=>hno1 g (Nat.le_trans hlohi (hlh g hg))
 refine gsce98_ ?_;clear hs hm a;intros;rename_i a hm hs
 obtain⟨g4,rfl⟩:=hs.pp 4
 obtain⟨g5,rfl⟩:=hs.pp 5
 refine st hs rfl rfl rfl (d_call hs rfl rfl rfl (pl 21 rfl) ((nxt_c gd A n c _ xs 3 _ (h.now (hmB.trans hm) mem_) (by omega) (by omega)))) ?_;clear hs a;rintro _ w2 ⟨r0,rfl,b0,a2,k0,hf⟩ a hs
 replace hm:=hm.dkt rep_ k0 hf
 clear hf k0
 refine gs730d_ ?_;clear hs hm a;intros;rename_i a hm hs
 with_reducible apply lNilThen
 refine cMid (fun a w=>∃(z:MO)(a3:Nat),z.ok∧z.d.val p.ss 400000∧(∀b,lo≤b→b<hi→¬own (⟨some g5,32,z.vs⟩::⟨some g4,87,(p.cl (y.cl (slv y.tA y.ts.length y.tc::oy.cl (oy.f.cl [.slice oy.us.A oy.us.us.length oy.us.c,.slice ky.o.A ky.o.n ky.o.c,.slice ky.qA ky.qs.length ky.qc,.slice eA nn ec,.slice jA 4 jd]))))⟩::⟨some g3,32,[nS,.int .u16 0,nS,nS,nS]⟩::⟨some g2,38,[nS,nS,nS]⟩::dk gd A n c a3::z.hps) b)∧p.ok w∧Sl Tryz.f20.ntmps [(2,pt g2),(3,pt g3),(4,pt g4),(5,pt g5)] a∧Mm (own [dk gd A n c at_]) wB (⟨some g5,32,z.vs⟩::⟨some g4,87,(p.cl (y.cl (slv y.tA y.ts.length y.tc::oy.cl (oy.f.cl [.slice oy.us.A oy.us.us.length oy.us.c,.slice ky.o.A ky.o.n ky.o.c,.slice ky.qA ky.qs.length ky.qc,.slice eA nn ec,.slice jA 4 jd]))))⟩::⟨some g3,32,[nS,.int .u16 0,nS,nS,nS]⟩::⟨some g2,38,[nS,nS,nS]⟩::dk gd A n c a3::z.hps) w) ?_ ?_
 ·by_cases h0:(r0:Int)=0
  ·refine gsce98_ ?_;clear hs hm a;intros;rename_i a hm hs
   have kst:=state_c p y 400000 _ (hpk _ _ hm) hpv (MO.of_new (hyk _ _ hm) yo) yo yv
   unfold PV.v MO.v at kst
   refine st hs rfl rfl rfl (d_call hs rfl rfl rfl (pl 31 rfl) ((kst))) ?_;clear hs a;rintro _ w3 ⟨s,rfl,so,sv,hN,hf⟩ a hs
   replace hm:=gainE hm hf hN
   clear hN hf kst
   unfold SO.hps at hm
   simp only[List.cons_append,List.nil_append]at hm
   unfold SO.v at hs
   rw[sv.n,sv.tn]at hs
   have hss1:=hpv.sz.one
   obtain⟨gq,hgq⟩:=so.q.some_ (by rw[sv.n];omega)
   obtain⟨gt,hgt⟩:=so.t.some_ (by rw[sv.tn];omega)
   obtain⟨qA,qc,qcs,rs0,tA,tc,tcs0,ts0⟩:=s
   dsimp only at hs hm hgq hgt
   subst hgq
   subst hgt
   have hn0:0<rs0.length:=by have:=sv.n;dsimp only at this;omega
   obtain⟨q0,hq0⟩:∃q0,rs0[0]?=some q0:=⟨_,List.getElem?_eq_getElem hn0⟩
   have hc0:qcs[0]?=some (slv q0.A q0.xs.length q0.c):=so.q.get (by rw[List.getElem?_map,hq0];rfl)
   obtain⟨m0,hm0⟩:∃m0,q0.xs.length=m0:=⟨_,rfl⟩
   rw[hm0]at hc0
   have hm32:m0≤32:=by
    have h1:=sv.r.l 0 (by rw[List.length_map];exact hn0) (by omega)
    have h2:=hpv.sz.bd _ (List.getElem_mem (show 0<p.ss.length by omega))
    rw[List.getElem_map]at h1
    rw[List.getElem?_eq_getElem hn0]at hq0
    rw[Option.some.inj hq0]at h1
    omega
   refine gsce98_ ?_;clear hs hm a;intros;rename_i a hm hs
   obtain⟨g6,rfl⟩:=hs.pp 6
   refine cLoop (X:=McX) (fun X a w'=>X.i≤m0∧(SO.mk (some gq) qc qcs X.rs (some gt) tc tcs0 ts0).ok∧(SO.mk (some gq) qc qcs X.rs (some gt) tc tcs0 ts0).val p.ss 400000∧(∃q,X.rs[0]?=some q∧q.xs.length=m0)∧Sl Tryz.f20.ntmps [(0,pt gd),(2,pt g2),(3,pt g3),(4,pt g4),(5,pt g5),(6,pt g6),(27,.int .i64 (m0:Int)),(28,.int .i64 (X.i:Int))] a∧Mm (own M1) w1 (⟨some g6,91,[slv (some gq) p.ss.length qc,slv (some gt) 4 tc]⟩::⟨some g5,32,(y.cl [slv y.tA y.ts.length y.tc])⟩::⟨some g4,87,(p.cl (y.cl (slv y.tA y.ts.length y.tc::oy.cl (oy.f.cl [.slice oy.us.A oy.us.us.length oy.us.c,.slice ky.o.A ky.o.n ky.o.c,.slice ky.qA ky.qs.length ky.qc,.slice eA nn ec,.slice jA 4 jd]))))⟩::⟨some g3,32,[nS,.int .u16 0,nS,nS,nS]⟩::⟨some g2,38,[nS,nS,nS]⟩::dk gd A n c X.a::⟨some gt,98,tcs0⟩::⟨some gq,93,qcs⟩::(X.rs.map CO.hp++ts0.map VwO.hp)) w') (fun X=>m0-X.i) ⟨0,a2,rs0⟩ ⟨Nat.zero_le _,so,sv,⟨q0,hq0,hm0⟩,(sb_ hs),hm⟩ ?_
   clear hs hm a hc0
   rintro⟨i,a3,rs⟩ a w' ⟨hi3,so,sv,⟨q,hq,hqm⟩,hs,hm⟩
   dsimp only at hi3 so sv hq hqm hs hm
   by_cases hlt:i<m0
   ·refine gsce98_ ?_;clear hs hm a;intros;rename_i a hm hs
    refine st hs rfl rfl rfl (d_call hs rfl rfl rfl (pl 21 rfl) ((nxt_c gd A n c _ xs 3 _ (h.now (hmB.trans hm) mem_) (by omega) (by omega)))) ?_;clear hs a;rintro _ w3 ⟨r3,rfl,b3,a4,k3,hf⟩ a hs
    replace hm:=hm.dkt rep_ k3 hf
    clear hf k3
    by_cases h3:(r3:Int)=0
    ·have hc1:qcs[0]?=some (slv q.A q.xs.length q.c):=so.q.get (by rw[List.getElem?_map,hq];rfl)
     rw[hqm]at hc1
     have hqo:=so.rr q (List.mem_of_getElem? hq)
     obtain⟨qa,q2,q3,q4⟩:=q
     dsimp only at hqm hc1
     obtain⟨gr,hgr⟩:∃gr,qa=some gr:=Row.some_ hqo (by show 0<q4.length;omega)
     subst hgr
     have hqlen:q3.length=q2*4:=Row.len hqo
     have hqle:q4.length≤q2:=Row.le hqo
     refine gsce98_ ?_;clear hs hm a;intros;rename_i a hm hs
     refine cMid (fun a w=>∃(cq:CN)(a5:Nat),cq.val∧Sl Tryz.f20.ntmps [(0,pt gd),(2,pt g2),(3,pt g3),(4,pt g4),(5,pt g5),(6,pt g6),(27,.int .i64 (m0:Int)),(28,.int .i64 (i:Int))] a∧Mm (own M1) w1 (⟨some g6,91,[slv (some gq) p.ss.length qc,slv (some gt) 4 tc]⟩::⟨some g5,32,(y.cl [slv y.tA y.ts.length y.tc])⟩::⟨some g4,87,(p.cl (y.cl (slv y.tA y.ts.length y.tc::oy.cl (oy.f.cl [.slice oy.us.A oy.us.us.length oy.us.c,.slice ky.o.A ky.o.n ky.o.c,.slice ky.qA ky.qs.length ky.qc,.slice eA nn ec,.slice jA 4 jd]))))⟩::⟨some g3,32,[nS,.int .u16 0,nS,nS,nS]⟩::⟨some g2,38,[nS,nS,nS]⟩::dk gd A n c a5::⟨some gt,98,tcs0⟩::⟨some gq,93,qcs⟩::((rs.set 0 (CO.put ⟨some gr,q2,q3,q4⟩ i cq)).map CO.hp++ts0.map VwO.hp)) w) ?_ ?_
     ·with_reducible repeat(first|apply gThen|apply wp_seq)
      refine cDrawT (n:=12) (.s [0,1,2,3,4,5,6,7,8]<| .o 9<| .x<| .t 10<| .o 11<| .x<| .d) [⟨some g6,91,[slv (some gq) p.ss.length qc,slv (some gt) 4 tc]⟩,⟨some g4,87,(p.cl (y.cl (slv y.tA y.ts.length y.tc::oy.cl (oy.f.cl [.slice oy.us.A oy.us.us.length oy.us.c,.slice ky.o.A ky.o.n ky.o.c,.slice ky.qA ky.qs.length ky.qc,.slice eA nn ec,.slice jA 4 jd]))))⟩,⟨some gq,93,qcs⟩] hm rfl rfl ?_
      clear hm;intro t_ w1_ hm
      repeat' (first|(refine dgSin0_ ?_;clear t_ hs hm a;intros;rename_i a hm hs t_)|refine tE t_ ?_|refine tC ?_ ?_|exact tN|intro t_|(refine oDo (i:=9) hs rfl (Wnt.none rfl) rfl rfl (by exact d_call hs rfl rfl rfl (pl 32 rfl) ((cnv_c gd A n c _ xs (lsZ p) _ (h.now (hmB.trans hm) mem_) (lsZ_ok (hpk _ _ hm) hpv) hne hss1))) ?_;clear hs;rintro _ w4 ⟨cq,rfl,hcv,a5,k5,hf⟩ a hs;(replace hm:=hm.dkt rep_ k5 hf);(clear hf);(unfold CN.a at hs);replace t_:=tX t_;refine⟨(hm.sub sub_),?_⟩)|(refine oDoN (i:=11) hs rfl (Wnt.none rfl) rfl (by exact d_store hs rfl rfl rfl tab rfl rfl rfl rfl hm (Rep.tail _<|Rep.tail _<|Rep.tail _<|Rep.tail _<|Rep.tail _<|Rep.tail _<|Rep.tail _<|Rep.tail _ (Rep.appL (Rep.mapset CO.hp (q':=CO.put ⟨some gr,q2,q3,q4⟩ i cq) hq))) (putG (by show i*4+4≤q3.length;omega))) ?_;clear hs;rintro-w1 hm a hs;replace t_:=tX t_;refine⟨(hm.sub sub_),?_⟩)|(refine tD t_ ?_;(exact And.intro rfl ⟨cq,a5,hcv,(sb_ hs),hm⟩))|fail)
     clear hs hm a
     rintro a w ⟨cq,a5,hcv,hs,hm⟩
     obtain⟨so2,sv2⟩:=SO.setR_ok (i:=i) so sv hq (by show i<q4.length;omega) hcv
     refine gsce98_ ?_;clear hs hm a;intros;rename_i a hm hs
     exact⟨⟨i+1,a5,rs.set 0 (CO.put ⟨some gr,q2,q3,q4⟩ i cq)⟩,by dsimp only;omega,by dsimp only;omega,so2,sv2,⟨_,List.getElem?_set_self (by rcases Nat.lt_or_ge 0 rs.length with h|h;exact h;rw[List.getElem?_eq_none h]at hq;cases hq),by show(q4.set i cq).length=m0;rw[List.length_set];exact hqm⟩,(sb_ hs),hm⟩
    ·refine gsce98_ ?_;clear hs hm a;intros;rename_i a hm hs
     exact⟨⟨i+1,a4,rs⟩,by dsimp only;omega,by dsimp only;omega,so,sv,⟨q,hq,hqm⟩,(sb_ hs),hm⟩
   obtain rfl:i=m0:=by omega
   refine gsce98_ ?_;clear hs hm a;intros;rename_i a hm hs
   refine cLoop (X:=MtY) (fun X a w'=>X.i≤4∧(SO.mk (some gq) qc qcs rs (some gt) tc X.tcs X.ts).ok∧(SO.mk (some gq) qc qcs rs (some gt) tc X.tcs X.ts).val p.ss 400000∧Sl Tryz.f20.ntmps [(0,pt gd),(2,pt g2),(3,pt g3),(4,pt g4),(5,pt g5),(6,pt g6),(48,.int .i64 ((4:Nat):Int)),(49,.int .i64 (X.i:Int))] a∧Mm (own M1) w1 (⟨some g6,91,[slv (some gq) p.ss.length qc,slv (some gt) 4 tc]⟩::⟨some g5,32,(y.cl [slv y.tA y.ts.length y.tc])⟩::⟨some g4,87,(p.cl (y.cl (slv y.tA y.ts.length y.tc::oy.cl (oy.f.cl [.slice oy.us.A oy.us.us.length oy.us.c,.slice ky.o.A ky.o.n ky.o.c,.slice ky.qA ky.qs.length ky.qc,.slice eA nn ec,.slice jA 4 jd]))))⟩::⟨some g3,32,[nS,.int .u16 0,nS,nS,nS]⟩::⟨some g2,38,[nS,nS,nS]⟩::dk gd A n c X.a::⟨some gt,98,X.tcs⟩::⟨some gq,93,qcs⟩::(rs.map CO.hp++X.ts.map VwO.hp)) w') (fun X=>4-X.i) ⟨0,a3,tcs0,ts0⟩ ⟨Nat.zero_le _,so,sv,(sb_ hs),hm⟩ ?_
   clear hs hm a so sv
   rintro⟨k,a4,tcs,ts⟩ a w' ⟨hk4,so,sv,hs,hm⟩
   dsimp only at hk4 so sv hs hm
   have htl:ts.length=4:=sv.tn
   by_cases hlt:k<4
   ·have hc7:∀(ts:List VwO)(q:VwO),(SO.mk (some gq) qc qcs rs (some gt) tc tcs ts).ok→(SO.mk (some gq) qc qcs rs (some gt) tc tcs ts).val p.ss 400000→ts[k]?=some q→tcs[k*8+7]?=some (slv q.r.A 8 q.r.c):=fun ts q so sv hq=>by
     have hkl:k<ts.length:=by
      rcases Nat.lt_or_ge k ts.length with h|h
      ·exact h
      ·rw[List.getElem?_eq_none h]at hq;cases hq
     have h1:=so.t.get (j:=k*8+7) (u:=slv q.r.A q.r.xs.length q.r.c) (by
      rw[flat_get VwO.v 8 VwO.len ts k 7 hkl (by omega)]
      rw[List.getElem?_eq_getElem hkl]at hq
      rw[Option.some.inj hq]
      rfl)
     rw[(sv.t q (List.mem_of_getElem? hq)).n]at h1
     exact h1
    obtain⟨q1,hq1⟩:∃q1,ts[k]?=some q1:=⟨_,List.getElem?_eq_getElem (by omega)⟩
    have hc1:=hc7 ts q1 so sv hq1
    have hcl:tcs.length=tc*8:=so.t.len
    have hcle:4≤tc:=by have:=so.t.le;dsimp only at this;omega
    refine gsce98_ ?_;clear hs hm a;intros;rename_i a hm hs
    refine cLoop (X:=MtY) (fun X a w'=>X.i≤8∧(SO.mk (some gq) qc qcs rs (some gt) tc tcs X.ts).ok∧(SO.mk (some gq) qc qcs rs (some gt) tc tcs X.ts).val p.ss 400000∧Sl Tryz.f20.ntmps [(0,pt gd),(2,pt g2),(3,pt g3),(4,pt g4),(5,pt g5),(6,pt g6),(48,.int .i64 ((4:Nat):Int)),(49,.int .i64 (k:Int)),(8,.int .i64 (k:Int)),(58,.int .i64 ((8:Nat):Int)),(59,.int .i64 (X.i:Int))] a∧Mm (own M1) w1 (⟨some g6,91,[slv (some gq) p.ss.length qc,slv (some gt) 4 tc]⟩::⟨some g5,32,(y.cl [slv y.tA y.ts.length y.tc])⟩::⟨some g4,87,(p.cl (y.cl (slv y.tA y.ts.length y.tc::oy.cl (oy.f.cl [.slice oy.us.A oy.us.us.length oy.us.c,.slice ky.o.A ky.o.n ky.o.c,.slice ky.qA ky.qs.length ky.qc,.slice eA nn ec,.slice jA 4 jd]))))⟩::⟨some g3,32,[nS,.int .u16 0,nS,nS,nS]⟩::⟨some g2,38,[nS,nS,nS]⟩::dk gd A n c X.a::⟨some gt,98,tcs⟩::⟨some gq,93,qcs⟩::(rs.map CO.hp++X.ts.map VwO.hp)) w') (fun X=>8-X.i) ⟨0,a4,tcs,ts⟩ ⟨Nat.zero_le _,so,sv,(sb_ hs),hm⟩ ?_
    clear hs hm a so sv hq1 hc1 q1 htl
    rintro⟨i,a5,tcsx,ts⟩ a w' ⟨hi8,so,sv,hs,hm⟩
    dsimp only at hi8 so sv hs hm
    have htl:ts.length=4:=sv.tn
    obtain⟨q,hq⟩:∃q,ts[k]?=some q:=⟨_,List.getElem?_eq_getElem (by omega)⟩
    by_cases hlt2:i<8
    ·refine gsce98_ ?_;clear hs hm a;intros;rename_i a hm hs
     refine st hs rfl rfl rfl (d_call hs rfl rfl rfl (pl 21 rfl) ((nxt_c gd A n c _ xs 3 _ (h.now (hmB.trans hm) mem_) (by omega) (by omega)))) ?_;clear hs a;rintro _ w3 ⟨r3,rfl,b3,a6,k3,hf⟩ a hs
     replace hm:=hm.dkt rep_ k3 hf
     clear hf k3
     by_cases h3:(r3:Int)=0
     ·have hc1:=hc7 ts q so sv hq
      have hqo:=so.tt q (List.mem_of_getElem? hq)
      have hqn:=(sv.t q (List.mem_of_getElem? hq)).n
      obtain⟨qd,⟨qa,q2,q3,q4⟩⟩:=q
      dsimp only at hqn hc1 hqo
      obtain⟨gr,hgr⟩:∃gr,qa=some gr:=Row.some_ hqo (by show 0<q4.length;omega)
      subst hgr
      have hqlen:q3.length=q2*4:=Row.len hqo
      have hqle:q4.length≤q2:=Row.le hqo
      refine gsce98_ ?_;clear hs hm a;intros;rename_i a hm hs
      refine cMid (fun a w=>∃(cq:CN)(a7:Nat),cq.val∧Sl Tryz.f20.ntmps [(0,pt gd),(2,pt g2),(3,pt g3),(4,pt g4),(5,pt g5),(6,pt g6),(48,.int .i64 ((4:Nat):Int)),(49,.int .i64 (k:Int)),(8,.int .i64 (k:Int)),(58,.int .i64 ((8:Nat):Int)),(59,.int .i64 (i:Int))] a∧Mm (own M1) w1 (⟨some g6,91,[slv (some gq) p.ss.length qc,slv (some gt) 4 tc]⟩::⟨some g5,32,(y.cl [slv y.tA y.ts.length y.tc])⟩::⟨some g4,87,(p.cl (y.cl (slv y.tA y.ts.length y.tc::oy.cl (oy.f.cl [.slice oy.us.A oy.us.us.length oy.us.c,.slice ky.o.A ky.o.n ky.o.c,.slice ky.qA ky.qs.length ky.qc,.slice eA nn ec,.slice jA 4 jd]))))⟩::⟨some g3,32,[nS,.int .u16 0,nS,nS,nS]⟩::⟨some g2,38,[nS,nS,nS]⟩::dk gd A n c a7::⟨some gt,98,tcs⟩::⟨some gq,93,qcs⟩::(rs.map CO.hp++(ts.set k ⟨qd,CO.put ⟨some gr,q2,q3,q4⟩ i cq⟩).map VwO.hp)) w) ?_ ?_
      ·with_reducible repeat(first|apply gThen|apply wp_seq)
       refine cDrawT (n:=14) (.s [0,1,2,3,4,5,6,7,8,9,10]<| .o 11<| .x<| .t 12<| .o 13<| .x<| .d) [⟨some g6,91,[slv (some gq) p.ss.length qc,slv (some gt) 4 tc]⟩,⟨some g4,87,(p.cl (y.cl (slv y.tA y.ts.length y.tc::oy.cl (oy.f.cl [.slice oy.us.A oy.us.us.length oy.us.c,.slice ky.o.A ky.o.n ky.o.c,.slice ky.qA ky.qs.length ky.qc,.slice eA nn ec,.slice jA 4 jd]))))⟩,⟨some gt,98,tcs⟩] hm rfl rfl ?_
       clear hm;intro t_ w1_ hm
       repeat' (first|(refine dgSin0_ ?_;clear t_ hs hm a;intros;rename_i a hm hs t_)|refine tE t_ ?_|refine tC ?_ ?_|exact tN|intro t_|(refine oDo (i:=11) hs rfl (Wnt.none rfl) rfl rfl (by exact d_call hs rfl rfl rfl (pl 32 rfl) ((cnv_c gd A n c _ xs (lsZ p) _ (h.now (hmB.trans hm) mem_) (lsZ_ok (hpk _ _ hm) hpv) hne hss1))) ?_;clear hs;rintro _ w4 ⟨cq,rfl,hcv,a7,k5,hf⟩ a hs;(replace hm:=hm.dkt rep_ k5 hf);(clear hf);(unfold CN.a at hs);replace t_:=tX t_;refine⟨(hm.sub sub_),?_⟩)|(refine oDoN (i:=13) hs rfl (Wnt.none rfl) rfl (by exact d_store hs rfl rfl rfl tab rfl rfl rfl rfl hm (Rep.tail _<|Rep.tail _<|Rep.tail _<|Rep.tail _<|Rep.tail _<|Rep.tail _<|Rep.tail _<|Rep.tail _ (Rep.appR (Rep.mapset VwO.hp (q':=⟨qd,CO.put ⟨some gr,q2,q3,q4⟩ i cq⟩) hq) _)) (putG (by show i*4+4≤q3.length;omega))) ?_;clear hs;rintro-w1 hm a hs;replace t_:=tX t_;refine⟨(hm.sub sub_),?_⟩)|(refine tD t_ ?_;(exact And.intro rfl ⟨cq,a7,hcv,(sb_ hs),hm⟩))|fail)
      clear hs hm a
      rintro a w ⟨cq,a7,hcv,hs,hm⟩
      obtain⟨so2,sv2⟩:=SO.setT_ok (i:=i) so sv hq (by show i<q4.length;omega) hcv
      refine gsce98_ ?_;clear hs hm a;intros;rename_i a hm hs
      exact⟨⟨i+1,a7,tcs,ts.set k ⟨qd,CO.put ⟨some gr,q2,q3,q4⟩ i cq⟩⟩,by dsimp only;omega,by dsimp only;omega,so2,sv2,(sb_ hs),hm⟩
     ·refine gsce98_ ?_;clear hs hm a;intros;rename_i a hm hs
      exact⟨⟨i+1,a6,tcs,ts⟩,by dsimp only;omega,by dsimp only;omega,so,sv,(sb_ hs),hm⟩
    obtain rfl:i=8:=by omega
    refine gsce98_ ?_;clear hs hm a;intros;rename_i a hm hs
    refine st hs rfl rfl rfl (d_call hs rfl rfl rfl (pl 21 rfl) ((nxt_c gd A n c _ xs 4 _ (h.now (hmB.trans hm) mem_) (by omega) (by omega)))) ?_;clear hs a;rintro _ w3 ⟨r3,rfl,b3,a6,k3,hf⟩ a hs
    replace hm:=hm.dkt rep_ k3 hf
    clear hf k3
    by_cases h3:(r3:Int)=0
    ·have hk0:k*8+0<tcs.length:=by omega
     refine gsce98_ ?_;clear hs hm a;intros;rename_i a hm hs
     refine cMid (fun a w=>∃(v:Int)(a7:Nat),(0≤v∧v≤4)∧Sl Tryz.f20.ntmps [(0,pt gd),(2,pt g2),(3,pt g3),(4,pt g4),(5,pt g5),(6,pt g6),(48,.int .i64 ((4:Nat):Int)),(49,.int .i64 (k:Int))] a∧Mm (own M1) w1 (⟨some g6,91,[slv (some gq) p.ss.length qc,slv (some gt) 4 tc]⟩::⟨some g5,32,(y.cl [slv y.tA y.ts.length y.tc])⟩::⟨some g4,87,(p.cl (y.cl (slv y.tA y.ts.length y.tc::oy.cl (oy.f.cl [.slice oy.us.A oy.us.us.length oy.us.c,.slice ky.o.A ky.o.n ky.o.c,.slice ky.qA ky.qs.length ky.qc,.slice eA nn ec,.slice jA 4 jd]))))⟩::⟨some g3,32,[nS,.int .u16 0,nS,nS,nS]⟩::⟨some g2,38,[nS,nS,nS]⟩::dk gd A n c a7::⟨some gt,98,(tcs.set (k*8+0) (.int .i64 v))⟩::⟨some gq,93,qcs⟩::(rs.map CO.hp++ts.map VwO.hp)) w) ?_ ?_
     ·with_reducible repeat(first|apply gThen|apply wp_seq)
      refine cDrawT (n:=8) (.s [0,1,2,3]<| .o 4<| .x<| .s [5,6]<| .o 7<| .d) [⟨some g6,91,[slv (some gq) p.ss.length qc,slv (some gt) 4 tc]⟩] hm rfl rfl ?_
      clear hm;intro t_ w1_ hm
      repeat' (first|(refine dgSin0_ ?_;clear t_ hs hm a;intros;rename_i a hm hs t_)|refine tE t_ ?_|refine tC ?_ ?_|exact tN|intro t_|(refine oDo (i:=4) hs rfl (Wnt.none rfl) rfl rfl (by exact d_call hs rfl rfl rfl (pl 21 rfl) ((nxt_c gd A n c _ xs 5 _ (h.now (hmB.trans hm) mem_) (by omega) (by omega)))) ?_;clear hs;rintro _ w4 ⟨r5,rfl,b5,a7,k5,hf⟩ a hs;(replace hm:=hm.dkt rep_ k5 hf);(clear hf);replace t_:=tX t_;refine⟨(hm.sub sub_),?_⟩)|(refine tD t_ ?_;(exact And.intro rfl ⟨(r5:Int),a7,by omega,(sb_ hs),hm⟩))|fail)
     clear hs hm a
     rintro a w ⟨v,a7,hv,hs,hm⟩
     obtain⟨so2,sv2⟩:=SO.setS_ok so sv hq hv
     rw[←map_set_same (f:=VwO.hp) hq (q':=q.stp v) rfl]at hm
     refine gsce98_ ?_;clear hs hm a;intros;rename_i a hm hs
     exact⟨⟨k+1,a7,tcs.set (k*8+0) (.int .i64 v),ts.set k (q.stp v)⟩,by dsimp only;omega,by dsimp only;omega,so2,sv2,(sb_ hs),hm⟩
    ·refine gsce98_ ?_;clear hs hm a;intros;rename_i a hm hs
     exact⟨⟨k+1,a6,tcs,ts⟩,by dsimp only;omega,by dsimp only;omega,so,sv,(sb_ hs),hm⟩
   obtain rfl:k=4:=by omega
   have hbl:y.bs.length=p.ss.length:=yv.gap.len
   have h1n:rs.length=p.ss.length:=sv.n
   obtain⟨s,hse⟩:∃s,(SO.mk (some gq) qc qcs rs (some gt) tc tcs ts)=s:=⟨_,rfl⟩
   have hsv:s.rd.v= .agg #[slv (some gq) p.ss.length qc,slv (some gt) 4 tc]:=by
    rw[SO.rd_v,←hse]
    unfold SO.v
    dsimp only
    rw[h1n,htl]
   refine gsce98_ ?_;clear hs hm a;intros;rename_i a hm hs
   have hyv:=MO.of_new (hyk _ _ hm) yo
   have hso:s.ok:=by rw[←hse];exact so
   have hsr:s.rd.ok _:=SO.rd_ok hm (by
    rw[←hse]
    intro z hz
    unfold SO.hps at hz
    dsimp only at hz
    simp only[List.mem_cons,List.mem_append]at hz ⊢
    rcases hz with hz|(hz|hz)|hz<;>simp[hz]) hso
   have kin:=inj2_c p y gq gt qc tc s 400000 _ (hpk _ _ hm) hpv hyv yo yv hbl hsr (by rw[←hse];exact sv) hsv (by omega)
   unfold PV.v at kin
   refine st hs rfl rfl rfl (d_call hs rfl rfl rfl (pl 33 rfl) ((kin))) ?_;clear hs a;rintro _ w3 ⟨f,kk,b,rfl,hb,hf⟩ a hs
   clear kin
   unfold mV at hs
   cases b
   ·replace hm:=hm.pu hf
    refine gsce98_ ?_;clear hs hm a;intros;rename_i g w a hm hs
    replace hm:=hm.sub (M':=⟨some g5,32,y.vs⟩::⟨some g4,87,(p.cl (y.cl (slv y.tA y.ts.length y.tc::oy.cl (oy.f.cl [.slice oy.us.A oy.us.us.length oy.us.c,.slice ky.o.A ky.o.n ky.o.c,.slice ky.qA ky.qs.length ky.qc,.slice eA nn ec,.slice jA 4 jd]))))⟩::⟨some g3,32,[nS,.int .u16 0,nS,nS,nS]⟩::⟨some g2,38,[nS,nS,nS]⟩::[dk gd A n c a4]) (List.Sublist.cons _ (List.Sublist.cons _ (List.Sublist.cons_cons _ (List.Sublist.cons_cons _ (List.Sublist.cons_cons _ (List.Sublist.cons_cons _ (List.Sublist.cons_cons _ (List.nil_sublist _))))))))
    have hY:=hyk _ _ hm
    have hD:∀g,own y.hps g→¬own (⟨some g5,32,y.vs⟩::⟨some g4,87,(p.cl (y.cl (slv y.tA y.ts.length y.tc::oy.cl (oy.f.cl [.slice oy.us.A oy.us.us.length oy.us.c,.slice ky.o.A ky.o.n ky.o.c,.slice ky.qA ky.qs.length ky.qc,.slice eA nn ec,.slice jA 4 jd]))))⟩::⟨some g3,32,[nS,.int .u16 0,nS,nS,nS]⟩::⟨some g2,38,[nS,nS,nS]⟩::[dk gd A n c a4]) g:=fun g hg hg2=>by
     have h1:=hlh g hg
     have h2:=hm.own_ hg2
     rcases h2 with h2|h2
     ·obtain⟨x,hx,e⟩:=hg
      have:=Hp.lt (yN.me x hx) e
      omega
     ·exact hno1 g (Nat.le_trans hlohi h1) h2
    have hnoZ:∀b,lo≤b→b<hi→¬own ((⟨some g5,32,y.vs⟩::⟨some g4,87,(p.cl (y.cl (slv y.tA y.ts.length y.tc::oy.cl (oy.f.cl [.slice oy.us.A oy.us.us.length oy.us.c,.slice ky.o.A ky.o.n ky.o.c,.slice ky.qA ky.qs.length ky.qc,.slice eA nn ec,.slice jA 4 jd]))))⟩::⟨some g3,32,[nS,.int .u16 0,nS,nS,nS]⟩::⟨some g2,38,[nS,nS,nS]⟩::[dk gd A n c a4])++y.hps) b:=fun b h1 h2 hg=>by
     rcases own_app hg with hg|hg
     ·exact hnoM _ _ hm b h1 h2 hg
     ·have:=hlh b hg;omega
    exact And.intro rfl ⟨y,a4,yo,yv,hnoZ,hpk _ _ hm,(sb_ hs),(hmB.trans hm).take_new hY hleB hD⟩
   ·obtain⟨z,hzv,zo,zv,hN⟩:=hb rfl
    replace hm:=gainE hm hf hN
    simp only[List.cons_append,List.append_assoc]at hm
    have hzf:mV f kk=z.vs:=hzv.symm
    unfold mV MO.vs at hzf
    simp only[List.cons.injEq,Value.int.injEq,true_and,and_true]at hzf
    obtain⟨e1,e2,e3,e4,e5⟩:=hzf
    rw[e1,e2,e3,e4,e5]at hs
    refine gsce98_ ?_;clear hs hm a;intros;rename_i a hm hs
    replace hm:=hm.sub (M':=⟨some g5,32,z.vs⟩::⟨some g4,87,(p.cl (y.cl (slv y.tA y.ts.length y.tc::oy.cl (oy.f.cl [.slice oy.us.A oy.us.us.length oy.us.c,.slice ky.o.A ky.o.n ky.o.c,.slice ky.qA ky.qs.length ky.qc,.slice eA nn ec,.slice jA 4 jd]))))⟩::⟨some g3,32,[nS,.int .u16 0,nS,nS,nS]⟩::⟨some g2,38,[nS,nS,nS]⟩::dk gd A n c a4::z.hps) (List.Sublist.cons _ (List.Sublist.cons _ (List.Sublist.cons_cons _ (List.Sublist.cons_cons _ (List.Sublist.cons_cons _ (List.Sublist.cons_cons _ (List.Sublist.cons_cons _ (List.Sublist.cons _ (List.Sublist.cons _ ((List.sublist_append_right _ _).trans (List.sublist_append_right _ _)))))))))))
    exact And.intro rfl ⟨z,a4,zo,zv,hnoM _ _ hm,hpk _ _ hm,(sb_ hs),hmB.trans hm⟩
  ·refine gsce98_ ?_;clear hs hm a;intros;rename_i g w a hm hs
   have hY:=hyk _ _ hm
   have hD:∀g,own y.hps g→¬own (⟨some g5,32,y.vs⟩::⟨some g4,87,(p.cl (y.cl (slv y.tA y.ts.length y.tc::oy.cl (oy.f.cl [.slice oy.us.A oy.us.us.length oy.us.c,.slice ky.o.A ky.o.n ky.o.c,.slice ky.qA ky.qs.length ky.qc,.slice eA nn ec,.slice jA 4 jd]))))⟩::⟨some g3,32,[nS,.int .u16 0,nS,nS,nS]⟩::⟨some g2,38,[nS,nS,nS]⟩::[dk gd A n c a2]) g:=fun g hg hg2=>by
    have h1:=hlh g hg
    have h2:=hm.own_ hg2
    rcases h2 with h2|h2
    ·obtain⟨x,hx,e⟩:=hg
     have:=Hp.lt (yN.me x hx) e
     omega
    ·exact hno1 g (Nat.le_trans hlohi h1) h2
   have hnoZ:∀b,lo≤b→b<hi→¬own ((⟨some g5,32,y.vs⟩::⟨some g4,87,(p.cl (y.cl (slv y.tA y.ts.length y.tc::oy.cl (oy.f.cl [.slice oy.us.A oy.us.us.length oy.us.c,.slice ky.o.A ky.o.n ky.o.c,.slice ky.qA ky.qs.length ky.qc,.slice eA nn ec,.slice jA 4 jd]))))⟩::⟨some g3,32,[nS,.int .u16 0,nS,nS,nS]⟩::⟨some g2,38,[nS,nS,nS]⟩::[dk gd A n c a2])++y.hps) b:=fun b h1 h2 hg=>by
    rcases own_app hg with hg|hg
    ·exact hnoM _ _ hm b h1 h2 hg
    ·have:=hlh b hg;omega
   exact And.intro rfl ⟨y,a2,yo,yv,hnoZ,hpk _ _ hm,(sb_ hs),(hmB.trans hm).take_new hY hleB hD⟩
 clear hs hm a
 rintro a w ⟨z,a3,zo,zv,hnoZ,hpw,hs,hmC⟩
 have hm:=hmC.rebase
 with_reducible apply gThen
 with_reducible apply wp_seq
 refine cMid (fun a w'=>p.ok w'∧Sl Tryz.f20.ntmps [(2,pt g2),(3,pt g3)] a∧Mm (own [dk gd A n c at_]) wB (⟨some g5,32,z.vs⟩::⟨some g4,87,(p.cl (y.cl (slv y.tA y.ts.length y.tc::oy.cl (oy.f.cl [.slice oy.us.A oy.us.us.length oy.us.c,.slice ky.o.A ky.o.n ky.o.c,.slice ky.qA ky.qs.length ky.qc,.slice eA nn ec,.slice jA 4 jd]))))⟩::⟨some g3,32,z.vs⟩::⟨some g2,38,(p.cl [])⟩::dk gd A n c a3::z.hps) w') ?_ ?_
 ·with_reducible repeat(first|apply gThen|apply wp_seq)
  refine cDrawT (n:=5) (.s [0,1,2]<| .o 3<| .o 4<| .d) [⟨some g5,32,z.vs⟩,⟨some g4,87,(p.cl (y.cl (slv y.tA y.ts.length y.tc::oy.cl (oy.f.cl [.slice oy.us.A oy.us.us.length oy.us.c,.slice ky.o.A ky.o.n ky.o.c,.slice ky.qA ky.qs.length ky.qc,.slice eA nn ec,.slice jA 4 jd]))))⟩] hm rfl rfl ?_
  clear hm;intro t_ w1_ hm
  repeat' (first|(refine dgSin0_ ?_;clear t_ hs hm a;intros;rename_i a hm hs t_)|refine tE t_ ?_|refine tC ?_ ?_|exact tN|intro t_|(refine tD t_ ?_;(exact And.intro rfl ⟨hpw.keep hbw2 hm.fr hnoZ,(sb_ hs),hmC.trans hm⟩))|fail)
 clear hs hm a hmC
 rintro a w ⟨hpw,hs,hm⟩
 refine gsce98_ ?_;clear hs hm a;intros;rename_i a hm hs
 exact gRetN tab hs rfl (.cons (.cells rfl rfl rfl rfl (hm.ro (k:=0) (n:=3) (g:=g2) mem_ (cutF_ok rfl))) (.cons (.cells rfl rfl rfl rfl (hm.ro (k:=0) (n:=5) (g:=g3) mem_ (cutF_ok rfl))) .nil)) ⟨hb,p,z,a3,rfl,hhb,hpv,hpw,⟨lo,hi,hbw2,hBl,fun b h1 h2 hg=>hnoZ b h1 h2 (own_sub (List.Sublist.cons _ (List.Sublist.cons _ (List.Sublist.cons _ (List.Sublist.cons _ (List.Sublist.refl _))))) b hg)⟩,zo,zv,hm.sub (List.Sublist.cons _ (List.Sublist.cons _ (List.Sublist.cons _ (List.Sublist.cons _ (List.Sublist.refl _)))))⟩
theorem dgSio0_{G H:Prop}(k:H)(s:Bx H→G:=by intro k_;(repeat(first|(refine tTake t_ hs rfl (by kernel_rfl) gw_ rfl rfl (by intro w hm;replace hm:Mm _ _ _ w:=hm;(first|exact kvR_|exact r_loadO hs rfl rfl tab rfl rfl rfl hm (by repeat(first|exact mH|apply mT)) (by assumption))) (hm.sub sub_) ?_;(try clear t_ hs a);intro t_ a hs)|(refine tTakeN t_ hs rfl (by kernel_rfl) rfl rfl rfl rfl rfl rfl rfl (hm.sub sub_) ?_;(try clear t_ hs a);intro t_ a hs)|(refine tTakeU t_ hs rfl (by kernel_rfl) rfl rfl rfl rfl rfl rfl (hm.sub sub_) ?_;(try clear t_ hs a);intro t_ a hs)|(refine tE1 t_ ?_;(try clear t_);intro t_)|(refine nx_ t_ rfl ?_;have t_:=t_;first|(refine oDo hs rfl gw_ rfl rfl da_ ?_;(try clear hs hm a);rintro _ w_ ⟨g_,rfl,-,hm⟩ a hs;refine⟨(hm.sub sub_),?_⟩)|(refine oDoN hs rfl gw_ rfl ds_ ?_;(try clear hs hm a);rintro-w_ hm a hs;refine⟨(hm.sub sub_),?_⟩)|(refine oDoV hs rfl gw_ rfl rfl (by(first|exact klR_|exact r_loadO hs rfl rfl tab rfl rfl rfl hm (by repeat(first|exact mH|apply mT)) (by assumption))) ?_;(try clear hs a);intro a hs;refine⟨(hm.sub sub_),?_⟩))));have y_:=t_;clear t_;(first|(have m_:=hm;have s_:=hs;have z_:=y_;clear hs;(try clear hm);revert m_ s_ z_ a)|((first|refine rexd_ hs hm ?_|refine rexb_ hs hm ?_);intro a hm hs;have z_:=y_;revert hm hs z_ a));(try revert w_);(repeat revert g_);exact k_.h):G:=s ⟨k⟩
def MO.setQ(y:MO)(tcs:List Value)(ts:List ThO):MO:={y with tcs:=tcs,ts:=ts}
theorem MO.setQ_ok [HB]{y:MO}{tcs:List Value}{ts:List ThO}{ss:List Int}{B:Int}{k j:Nat}{q:ThO}{d':ThD}{v:Value}(ho:(y.setQ tcs ts).ok)(hv:(y.setQ tcs ts).d.val ss B)(hh:ts.map ThO.hp=y.ts.map ThO.hp)(hl:ts.length=4)(hq:ts[k]?=some q) (hj:j<8) (hqv:({q with d:=d'}:ThO).v=q.v.set j v) (hd:d'.val B) (hx:d'.xs=q.d.xs:=by rfl):(y.setQ (tcs.set (k*8+j) v) (ts.set k {q with d:=d'})).ok∧(y.setQ (tcs.set (k*8+j) v) (ts.set k {q with d:=d'})).d.val ss B∧(ts.set k {q with d:=d'}).map ThO.hp=y.ts.map ThO.hp∧(ts.set k {q with d:=d'}).length=4:=by
 refine⟨⟨ho.b,ho.m,?_,fun r hr=>?_⟩,⟨hv.gap,hv.key,hv.n,hv.l,?_,hv.cv,hv.ll,fun z hz=>?_⟩,?_,by rw[List.length_set];exact hl⟩
 ·unfold MO.setQ
  dsimp only
  rw[List.length_set,←flat_set ThO.v 8 ThO.len ts k j q v hq hj {q with d:=d'} hqv]
  exact ho.t.set _ _
 ·rcases List.mem_or_eq_of_mem_set hr with hr|rfl
  ·exact ho.tt r hr
  ·have h1:Row q.A q.d.xs.length q.c 2 (cvs q.d.xs) q.cs:=ho.tt q (List.mem_of_getElem? hq)
   show Row q.A d'.xs.length q.c 2 (cvs d'.xs) q.cs
   rw[hx]
   exact h1
 ·show((ts.set k _).map ThO.d).length=4
  rw[List.length_map,List.length_set]
  exact hl
 ·have hz':z∈(ts.set k {q with d:=d'}).map ThO.d:=hz
  obtain⟨r,hr,rfl⟩:=List.mem_map.1 hz'
  rcases List.mem_or_eq_of_mem_set hr with hr|rfl
  ·exact hv.tt r.d (List.mem_map.2 ⟨r,hr,rfl⟩)
  ·exact hd
 ·rw[←hh]
  exact map_set_same hq rfl
structure HdX where
 k:Nat
 a:Nat
 tcs:List Value
 ts:List ThO
theorem handling_c(gd:Nat)(A:Option Addr)(n c at_:Nat)(xs:List Int)(wB:World)(h:Dk gd A n c at_ xs wB):
  Ret Tryz.prog 8 [pt gd] wB (fun u w'=>∃(_:HB)(p:PV)(y:MO)(a1:Nat),u= .tuple #[p.v,y.v]∧HB.h+1=(p.code.length:Int)∧p.val∧p.ok w'∧y.ok∧y.d.val p.ss 400000∧Mm (own [dk gd A n c at_]) wB (dk gd A n c a1::y.hps) w'):=by
 refine enterR Tryz.func8 rfl rfl rfl fun a hs hm=>?_
 clear hm
 have hm:=h.in_
 refine gsce98_ ?_;clear hs hm a;intros;rename_i a hm hs
 obtain⟨g2,rfl⟩:=hs.pp 2
 obtain⟨g3,rfl⟩:=hs.pp 3
 have hlo:=fun g (hg:own _ g)=>hm.own_lt hg
 refine st hs rfl rfl rfl (d_call hs rfl rfl rfl (pl 20 rfl) ((machine_c gd A n c _ xs _ (h.now hm mem_)))) ?_;clear hs a;rintro _ w1 ⟨hb,p,y,a1,rfl,hhb,hpv,pok,⟨lo,hi,hbw,hle,hno⟩,yo,yv,hk⟩ a hs
 have hk2:=hk.perm (M':=y.hps++[dk gd A n c a1]) List.perm_append_comm
 replace hm:=(hm.deck (R:=y.hps) hk2 rfl rep_).perm List.perm_append_comm
 simp only[List.cons_append,List.nil_append]at hm
 have hno1:∀b,lo≤b→b<hi→¬own (⟨some g3,32,[nS,.int .u16 0,nS,nS,nS]⟩::⟨some g2,38,[nS,nS,nS]⟩::dk gd A n c a1::y.hps) b:=fun b h1 h2 hg=>by
  rcases own_app (A:=[⟨some g3,32,[nS,.int .u16 0,nS,nS,nS]⟩,⟨some g2,38,[nS,nS,nS]⟩]) hg with hg|hg
  ·have:=hlo b (own_sub (List.Sublist.cons_cons _ (List.Sublist.cons_cons _ (List.nil_sublist _))) b hg)
   omega
  ·exact hno b h1 h2 hg
 have h4:y.ts.length=4:=by have:=yv.t;rwa[MO.d_len]at this
 obtain⟨gt,hgt⟩:=yo.t.some_ (by omega)
 have hmB:=hm
 obtain⟨M1,hM1⟩:∃M1,⟨some g3,32,[nS,.int .u16 0,nS,nS,nS]⟩::⟨some g2,38,[nS,nS,nS]⟩::dk gd A n c a1::y.hps=M1:=⟨_,rfl⟩
 have hm0:Mm (own M1) w1 (⟨some g3,32,[nS,.int .u16 0,nS,nS,nS]⟩::⟨some g2,38,[nS,nS,nS]⟩::dk gd A n c a1::y.hps) w1:=by rw[←hM1];exact hm.rebase
 replace hmB:Mm (own [dk gd A n c at_]) wB M1 w1:=by rw[←hM1];exact hmB
 replace hno1:∀b,lo≤b→b<hi→¬own M1 b:=by rw[←hM1];exact hno1
 clear hm hlo hno hk hk2 hM1
 have hm:=hm0
 clear hm0
 have hpk:∀(w:World)(M':List Hp),Mm (own M1) w1 M' w→p.ok w:=fun w M' hm=>pok.keep hbw hm.fr hno1
 unfold PV.v MO.v at hs
 unfold MO.hps at hm
 rw[hgt]at hs hm
 rw[h4]at hs
 refine gsce98_ ?_;clear hs hm a;intros;rename_i a hm hs
 obtain⟨g4,rfl⟩:=hs.pp 4
 obtain⟨g5,rfl⟩:=hs.pp 5
 have hc1:=hpv.c1
 have hc2:=hpv.c2
 refine cLoop (X:=HdX) (fun X a w'=>X.k≤4∧(y.setQ X.tcs X.ts).ok∧(y.setQ X.tcs X.ts).d.val p.ss 400000∧X.ts.map ThO.hp=y.ts.map ThO.hp∧X.ts.length=4∧Sl Tryz.f8.ntmps [(0,pt gd),(2,pt g2),(3,pt g3),(4,pt g4),(5,pt g5),(14,.int .i64 ((4:Nat):Int)),(15,.int .i64 (X.k:Int))] a∧Mm (own M1) w1 (⟨some g5,32,(y.cl [slv (some gt) 4 y.tc])⟩::⟨some g4,38,(p.cl [])⟩::⟨some g3,32,[nS,.int .u16 0,nS,nS,nS]⟩::⟨some g2,38,[nS,nS,nS]⟩::dk gd A n c X.a::⟨some gt,52,X.tcs⟩::⟨y.bA,3,y.bcs⟩::(y.m.hps++y.ts.map ThO.hp)) w') (fun X=>4-X.k) ⟨0,a1,y.tcs,y.ts⟩ ⟨Nat.zero_le _,yo,yv,rfl,h4,(sb_ hs),hm⟩ ?_
 clear hs hm a
 rintro⟨k,a1,tcs,ts⟩ a w' ⟨hk4,hok,hval,hhp,hln,hs,hm⟩
 dsimp only at hk4 hok hval hhp hln hs hm
 by_cases hlt:k<4
 ·have hcl:tcs.length=y.tc*8:=hok.t.len
  have hcle:4≤y.tc:=by have h9:=hok.t.le;have h8:ts.length≤y.tc:=h9;omega
  refine gsce98_ ?_;clear hs hm a;intros;rename_i a hm hs
  refine st hs rfl rfl rfl (d_call hs rfl rfl rfl (pl 21 rfl) ((nxt_c gd A n c _ xs 2 _ (h.now (hmB.trans hm) mem_) (by omega) (by omega)))) ?_;clear hs a;rintro _ w3 ⟨r1,rfl,b1,a2,k1,hf⟩ a hs
  replace hm:=hm.dkt rep_ k1 hf
  clear hf k1
  refine gs730d_ ?_;clear hs hm a;intros;rename_i a hm hs
  with_reducible apply lNilThen
  refine cMid (fun a w=>∃(a2:Nat)(tcs:List Value)(ts:List ThO),(y.setQ tcs ts).ok∧(y.setQ tcs ts).d.val p.ss 400000∧ts.map ThO.hp=y.ts.map ThO.hp∧ts.length=4∧Sl Tryz.f8.ntmps [(0,pt gd),(2,pt g2),(3,pt g3),(4,pt g4),(5,pt g5),(14,.int .i64 ((4:Nat):Int)),(15,.int .i64 (k:Int)),(6,.int .i64 (k:Int))] a∧Mm (own M1) w1 (⟨some g5,32,(y.cl [slv (some gt) 4 y.tc])⟩::⟨some g4,38,(p.cl [])⟩::⟨some g3,32,[nS,.int .u16 0,nS,nS,nS]⟩::⟨some g2,38,[nS,nS,nS]⟩::dk gd A n c a2::⟨some gt,52,tcs⟩::⟨y.bA,3,y.bcs⟩::(y.m.hps++y.ts.map ThO.hp)) w) ?_ ?_
  ·skip
   by_cases h1:(r1:Int)=0
   ·have hk1:k*8+4<tcs.length:=by omega
    refine gsce98_ ?_;clear hs hm a;intros;rename_i a hm hs
    refine cMid (fun a w=>∃(v:Nat)(a4:Nat),(v:Int)<(p.code.length:Int)∧Sl Tryz.f8.ntmps [(0,pt gd),(2,pt g2),(3,pt g3),(4,pt g4),(5,pt g5),(14,.int .i64 ((4:Nat):Int)),(15,.int .i64 (k:Int)),(6,.int .i64 (k:Int))] a∧Mm (own M1) w1 (⟨some g5,32,(y.cl [slv (some gt) 4 y.tc])⟩::⟨some g4,38,(p.cl [])⟩::⟨some g3,32,[nS,.int .u16 0,nS,nS,nS]⟩::⟨some g2,38,[nS,nS,nS]⟩::dk gd A n c a4::⟨some gt,52,(tcs.set (k*8+4) (.int .i64 (v:Int)))⟩::⟨y.bA,3,y.bcs⟩::(y.m.hps++y.ts.map ThO.hp)) w) ?_ ?_
    ·with_reducible repeat(first|apply gThen|apply wp_seq)
     refine cDrawT (n:=11) (.s [0,1,2,3,4,5,6]<| .o 7<| .x<| .s [8,9]<| .o 10<| .d) [⟨some g5,32,(y.cl [slv (some gt) 4 y.tc])⟩,⟨some g4,38,(p.cl [])⟩] hm rfl rfl ?_
     clear hm;intro t_ w1_ hm
     repeat' (first|(refine dgSio0_ ?_;clear t_ hs hm a;intros;rename_i a hm hs t_)|refine tE t_ ?_|refine tC ?_ ?_|exact tN|intro t_|(refine oDo (i:=7) hs rfl (Wnt.none rfl) rfl rfl (by exact d_call hs rfl rfl rfl (pl 21 rfl) ((nxt_c gd A n c _ xs (p.code.length:Int) _ (h.now (hmB.trans hm) mem_) (by omega) (by omega)))) ?_;clear hs;rintro _ w4 ⟨r5,rfl,b5,a5,k5,hf⟩ a hs;(replace hm:=hm.dkt rep_ k5 hf);(clear hf);replace t_:=tX t_;refine⟨(hm.sub sub_),?_⟩)|(refine tD t_ ?_;(exact And.intro rfl ⟨r5,a5,b5,(sb_ hs),hm⟩))|fail)
    clear hs hm a
    rintro a w ⟨v,a4,hv,hs,hm⟩
    obtain⟨q,hq⟩:∃q,ts[k]?=some q:=⟨_,List.getElem?_eq_getElem (by omega)⟩
    have hqv:=hval.tt q.d (List.mem_map.2 ⟨q,List.mem_of_getElem? hq,rfl⟩)
    obtain⟨so,sv,sh,sl⟩:=MO.setQ_ok (j:=4) (v:= .int .i64 (v:Int)) (d':={q.d with han:=(v:Int)}) hok hval hhp hln hq (by omega) rfl ⟨hqv.st,hqv.n,hqv.pc,hqv.cnt,⟨by dsimp only;omega,by have:=hhb;dsimp only;omega⟩,hqv.sav,hqv.trp,hqv.cod,hqv.cv⟩
    refine gsce98_ ?_;clear hs hm a;intros;rename_i a hm hs
    exact And.intro rfl ⟨a4,tcs.set (k*8+4) (.int .i64 (v:Int)),ts.set k {q with d:={q.d with han:=(v:Int)}},so,sv,sh,sl,(sb_ hs),hm⟩
   ·refine gsce98_ ?_;clear hs hm a;intros;rename_i a hm hs
    exact And.intro rfl ⟨a2,tcs,ts,hok,hval,hhp,hln,(sb_ hs),hm⟩
  clear hs hm a hok hval hhp hln hcl hcle
  rintro a w ⟨a1,tcs,ts,hok,hval,hhp,hln,hs,hm⟩
  have hcl:tcs.length=y.tc*8:=hok.t.len
  have hcle:4≤y.tc:=by have h9:=hok.t.le;have h8:ts.length≤y.tc:=h9;omega
  with_reducible apply gThen
  with_reducible apply wp_seq
  refine cMid (fun a w=>∃(a2:Nat)(tcs:List Value)(ts:List ThO),(y.setQ tcs ts).ok∧(y.setQ tcs ts).d.val p.ss 400000∧ts.map ThO.hp=y.ts.map ThO.hp∧ts.length=4∧Sl Tryz.f8.ntmps [(0,pt gd),(2,pt g2),(3,pt g3),(4,pt g4),(5,pt g5),(14,.int .i64 ((4:Nat):Int)),(15,.int .i64 (k:Int)),(6,.int .i64 (k:Int))] a∧Mm (own M1) w1 (⟨some g5,32,(y.cl [slv (some gt) 4 y.tc])⟩::⟨some g4,38,(p.cl [])⟩::⟨some g3,32,[nS,.int .u16 0,nS,nS,nS]⟩::⟨some g2,38,[nS,nS,nS]⟩::dk gd A n c a2::⟨some gt,52,tcs⟩::⟨y.bA,3,y.bcs⟩::(y.m.hps++y.ts.map ThO.hp)) w) ?_ ?_
  ·skip
   refine gsce98_ ?_;clear hs hm a;intros;rename_i a hm hs
   refine st hs rfl rfl rfl (d_call hs rfl rfl rfl (pl 21 rfl) ((nxt_c gd A n c _ xs 4 _ (h.now (hmB.trans hm) mem_) (by omega) (by omega)))) ?_;clear hs a;rintro _ w3 ⟨r2,rfl,b2,a2,k2,hf⟩ a hs
   replace hm:=hm.dkt rep_ k2 hf
   clear hf k2
   by_cases h2:(r2:Int)=0
   ·have hk2:k*8+5<tcs.length:=by omega
    refine gsce98_ ?_;clear hs hm a;intros;rename_i a hm hs
    refine cMid (fun a w=>∃(v:Nat)(a4:Nat),(v:Int)<(p.code.length:Int)∧Sl Tryz.f8.ntmps [(0,pt gd),(2,pt g2),(3,pt g3),(4,pt g4),(5,pt g5),(14,.int .i64 ((4:Nat):Int)),(15,.int .i64 (k:Int)),(6,.int .i64 (k:Int))] a∧Mm (own M1) w1 (⟨some g5,32,(y.cl [slv (some gt) 4 y.tc])⟩::⟨some g4,38,(p.cl [])⟩::⟨some g3,32,[nS,.int .u16 0,nS,nS,nS]⟩::⟨some g2,38,[nS,nS,nS]⟩::dk gd A n c a4::⟨some gt,52,(tcs.set (k*8+5) (.int .i64 (v:Int)))⟩::⟨y.bA,3,y.bcs⟩::(y.m.hps++y.ts.map ThO.hp)) w) ?_ ?_
    ·with_reducible repeat(first|apply gThen|apply wp_seq)
     refine cDrawT (n:=11) (.s [0,1,2,3,4,5,6]<| .o 7<| .x<| .s [8,9]<| .o 10<| .d) [⟨some g5,32,(y.cl [slv (some gt) 4 y.tc])⟩,⟨some g4,38,(p.cl [])⟩] hm rfl rfl ?_
     clear hm;intro t_ w1_ hm
     repeat' (first|(refine dgSio0_ ?_;clear t_ hs hm a;intros;rename_i a hm hs t_)|refine tE t_ ?_|refine tC ?_ ?_|exact tN|intro t_|(refine oDo (i:=7) hs rfl (Wnt.none rfl) rfl rfl (by exact d_call hs rfl rfl rfl (pl 21 rfl) ((nxt_c gd A n c _ xs (p.code.length:Int) _ (h.now (hmB.trans hm) mem_) (by omega) (by omega)))) ?_;clear hs;rintro _ w4 ⟨r5,rfl,b5,a5,k5,hf⟩ a hs;(replace hm:=hm.dkt rep_ k5 hf);(clear hf);replace t_:=tX t_;refine⟨(hm.sub sub_),?_⟩)|(refine tD t_ ?_;(exact And.intro rfl ⟨r5,a5,b5,(sb_ hs),hm⟩))|fail)
    clear hs hm a
    rintro a w ⟨v,a4,hv,hs,hm⟩
    obtain⟨q,hq⟩:∃q,ts[k]?=some q:=⟨_,List.getElem?_eq_getElem (by omega)⟩
    have hqv:=hval.tt q.d (List.mem_map.2 ⟨q,List.mem_of_getElem? hq,rfl⟩)
    obtain⟨so,sv,sh,sl⟩:=MO.setQ_ok (j:=5) (v:= .int .i64 (v:Int)) (d':={q.d with sav:=(v:Int)}) hok hval hhp hln hq (by omega) rfl ⟨hqv.st,hqv.n,hqv.pc,hqv.cnt,hqv.han,by dsimp only;omega,hqv.trp,hqv.cod,hqv.cv⟩
    refine gsce98_ ?_;clear hs hm a;intros;rename_i a hm hs
    exact And.intro rfl ⟨a4,tcs.set (k*8+5) (.int .i64 (v:Int)),ts.set k {q with d:={q.d with sav:=(v:Int)}},so,sv,sh,sl,(sb_ hs),hm⟩
   ·refine gsce98_ ?_;clear hs hm a;intros;rename_i a hm hs
    exact And.intro rfl ⟨a2,tcs,ts,hok,hval,hhp,hln,(sb_ hs),hm⟩
  clear hs hm a hok hval hhp hln hcl hcle
  rintro a w ⟨a1,tcs,ts,hok,hval,hhp,hln,hs,hm⟩
  have hcl:tcs.length=y.tc*8:=hok.t.len
  have hcle:4≤y.tc:=by have h9:=hok.t.le;have h8:ts.length≤y.tc:=h9;omega
  with_reducible apply gThen
  refine cMid (fun a w=>∃(a2:Nat)(tcs:List Value)(ts:List ThO),(y.setQ tcs ts).ok∧(y.setQ tcs ts).d.val p.ss 400000∧ts.map ThO.hp=y.ts.map ThO.hp∧ts.length=4∧Sl Tryz.f8.ntmps [(0,pt gd),(2,pt g2),(3,pt g3),(4,pt g4),(5,pt g5),(14,.int .i64 ((4:Nat):Int)),(15,.int .i64 (k:Int)),(6,.int .i64 (k:Int))] a∧Mm (own M1) w1 (⟨some g5,32,(y.cl [slv (some gt) 4 y.tc])⟩::⟨some g4,38,(p.cl [])⟩::⟨some g3,32,[nS,.int .u16 0,nS,nS,nS]⟩::⟨some g2,38,[nS,nS,nS]⟩::dk gd A n c a2::⟨some gt,52,tcs⟩::⟨y.bA,3,y.bcs⟩::(y.m.hps++y.ts.map ThO.hp)) w) ?_ ?_
  ·skip
   refine gsce98_ ?_;clear hs hm a;intros;rename_i a hm hs
   refine st hs rfl rfl rfl (d_call hs rfl rfl rfl (pl 21 rfl) ((nxt_c gd A n c _ xs 2 _ (h.now (hmB.trans hm) mem_) (by omega) (by omega)))) ?_;clear hs a;rintro _ w3 ⟨r3,rfl,b3,a2,k3,hf⟩ a hs
   replace hm:=hm.dkt rep_ k3 hf
   clear hf k3
   by_cases h3:(r3:Int)=0
   ·have hk3:k*8+0<tcs.length:=by omega
    obtain⟨q,hq⟩:∃q,ts[k]?=some q:=⟨_,List.getElem?_eq_getElem (by omega)⟩
    have hqv:=hval.tt q.d (List.mem_map.2 ⟨q,List.mem_of_getElem? hq,rfl⟩)
    obtain⟨so,sv,sh,sl⟩:=MO.setQ_ok (j:=0) (v:= .int .i64 1) (d':={q.d with st:=1}) hok hval hhp hln hq (by omega) rfl ⟨by dsimp only;omega,hqv.n,hqv.pc,hqv.cnt,hqv.han,hqv.sav,hqv.trp,hqv.cod,hqv.cv⟩
    refine gsce98_ ?_;clear hs hm a;intros;rename_i a hm hs
    exact And.intro rfl ⟨a2,tcs.set (k*8+0) (.int .i64 1),ts.set k {q with d:={q.d with st:=1}},so,sv,sh,sl,(sb_ hs),hm⟩
   ·refine gsce98_ ?_;clear hs hm a;intros;rename_i a hm hs
    exact And.intro rfl ⟨a2,tcs,ts,hok,hval,hhp,hln,(sb_ hs),hm⟩
  clear hs hm a hok hval hhp hln hcl hcle
  rintro a w ⟨a1,tcs,ts,hok,hval,hhp,hln,hs,hm⟩
  have hcl:tcs.length=y.tc*8:=hok.t.len
  have hcle:4≤y.tc:=by have h9:=hok.t.le;have h8:ts.length≤y.tc:=h9;omega
  refine gsce98_ ?_;clear hs hm a;intros;rename_i a hm hs
  exact⟨⟨k+1,a1,tcs,ts⟩,by dsimp only;omega,by dsimp only;omega,hok,hval,hhp,hln,(sb_ hs),hm⟩
 obtain rfl:k=4:=by omega
 refine gsce98_ ?_;clear hs hm a;intros;rename_i a hm hs
 refine cMid (fun a w'=>Sl Tryz.f8.ntmps [(2,pt g2),(3,pt g3)] a∧Mm (own M1) w1 (⟨some g5,32,(y.cl [slv (some gt) 4 y.tc])⟩::⟨some g4,38,(p.cl [])⟩::⟨some g3,32,(y.cl [slv (some gt) 4 y.tc])⟩::⟨some g2,38,(p.cl [])⟩::dk gd A n c a1::⟨some gt,52,tcs⟩::⟨y.bA,3,y.bcs⟩::(y.m.hps++y.ts.map ThO.hp)) w') ?_ ?_
 ·with_reducible repeat(first|apply gThen|apply wp_seq)
  refine cDrawT (n:=4) (.s [0,1]<| .o 2<| .o 3<| .d) [⟨some g5,32,(y.cl [slv (some gt) 4 y.tc])⟩,⟨some g4,38,(p.cl [])⟩] hm rfl rfl ?_
  clear hm;intro t_ w1_ hm
  repeat' (first|(refine dgSio0_ ?_;clear t_ hs hm a;intros;rename_i a hm hs t_)|refine tE t_ ?_|refine tC ?_ ?_|exact tN|intro t_|(refine tD t_ ?_;(exact And.intro rfl ⟨(sb_ hs),hm⟩))|fail)
 clear hs hm a
 rintro a w ⟨hs,hm⟩
 refine gsce98_ ?_;clear hs hm a;intros;rename_i a hm hs
 have hpw:=hpk _ _ hm
 have hm1:=hm
 replace hm:=(hmB.trans hm).sub (M':=dk gd A n c a1::(y.setQ tcs ts).hps) (by
  unfold MO.hps MO.setQ
  dsimp only
  rw[hhp,hgt]
  exact List.Sublist.cons _ (List.Sublist.cons _ (List.Sublist.cons _ (List.Sublist.cons _ (List.Sublist.refl _)))))
 have hv5:(y.setQ tcs ts).v= .agg #[slv y.bA y.bs.length y.bc,.int .u16 y.key,slv y.m.cA y.m.xs.length y.m.cc,slv y.m.lA y.m.ls.length y.m.lc,slv (some gt) 4 y.tc]:=by
  unfold MO.v MO.setQ
  dsimp only
  rw[hln,hgt]
 exact gRetN tab hs rfl (.cons (.cells rfl rfl rfl rfl (hm1.ro (k:=0) (n:=3) (g:=g2) mem_ (cutF_ok rfl))) (.cons (.cells rfl rfl rfl rfl (hm1.ro (k:=0) (n:=5) (g:=g3) mem_ (cutF_ok rfl))) .nil)) ⟨hb,p,y.setQ tcs ts,a1,by rw[hv5];rfl,hhb,hpv,hpw,hok,hval,hm⟩
end Go.Proofs.YtbjffoojenpmfaaGreat
