/- Texts put together: Sgv, Sgw, Sgx, Sgy, Sgz, Sha, Shb. -/
import Derived.Test.YtbjffoojenpmfaaGreatMgSOk
set_option maxRecDepth 20000
set_option maxHeartbeats 64000000
set_option linter.unusedVariables false
set_option linter.unusedSimpArgs false
namespace Go.Proofs.YtbjffoojenpmfaaGreat
open Go.RowKit
structure OpD where
 f:Int
 o:Int
 w:Bool
def OpD.cs(x:OpD):List Value:=[.int .i64 x.f,.int .i64 x.o,.bool x.w]
theorem OpD.len(x:OpD):x.cs.length=3:=rfl
def ops(l:List OpD):List Value:=l.flatMap OpD.cs
theorem ops_len(l:List OpD):(ops l).length=l.length*3:=flat_len OpD.cs 3 OpD.len l
theorem ops_one(l:List OpD):(ops l).all (·.oneCell')=true:=flat_one (fun _=>rfl) l
structure FV where
 dA:Option Addr
 dc:Nat
 ds:List CnS
 oA:Option Addr
 oc:Nat
 os:List OpD
def FV.v(x:FV):Value:= .agg #[.slice x.dA x.ds.length x.dc,.slice x.oA x.os.length x.oc]
abbrev FV.cl(f:FV)(t:List Value):List Value:= .slice f.dA f.ds.length f.dc:: .slice f.oA f.os.length f.oc::t
structure FV.ok(x:FV)(w:World):Prop where
 d:Rd w w.heap.size x.dA (x.ds.map CnS.v)
 o:Rd w w.heap.size x.oA (ops x.os)
 dd:∀y∈x.ds,y.ok w
theorem FV.ok.pu{x:FV}{w w':World}(h:x.ok w)(hf:Pu w w'):x.ok w':=⟨hf.rd' h.d,hf.rd' h.o,fun y hy=>(h.dd y hy).pu hf⟩
structure FD where
 ds:List (List CN)
 os:List OpD
def FV.d'(x:FV):FD:=⟨x.ds.map CnS.xs,x.os⟩
structure OpD.fit(x:OpD)(ds:List (List CN)):Prop where
 free:x.f=-1→x.o=0∧x.w=false
 at_:¬x.f=-1→∃(k:Nat)(d:List CN),x.f=(k:Int)∧ds[k]?=some d∧0≤x.o∧x.o≤(d.length:Int)
structure FD.val(x:FD):Prop where
 n:x.ds.length≤4
 o:x.os.length=8
 d:∀d∈x.ds,d.length≤64∧∀c∈d,c.val
 fit:∀y∈x.os,y.fit x.ds
structure FO where
 dA:Option Nat
 dc:Nat
 dcs:List Value
 ds:List CO
 oA:Option Nat
 oc:Nat
 ocs:List Value
 os:List OpD
def FO.v(x:FO):Value:= .agg #[slv x.dA x.ds.length x.dc,slv x.oA x.os.length x.oc]
def FO.hps(x:FO):List Hp:=⟨x.dA,93,x.dcs⟩::⟨x.oA,212,x.ocs⟩::x.ds.map CO.hp
structure FO.ok(x:FO):Prop where
 d:Row x.dA x.ds.length x.dc 1 (x.ds.map CO.v) x.dcs
 o:Row x.oA x.os.length x.oc 3 (ops x.os) x.ocs
 dd:∀y∈x.ds,y.ok
def FO.d'(x:FO):FD:=⟨x.ds.map CO.xs,x.os⟩
def FO.rd(x:FO):FV:=⟨ad x.dA,x.dc,x.ds.map CO.rd,ad x.oA,x.oc,x.os⟩
theorem FO.rd_v(x:FO):x.rd.v=x.v:=by
 unfold FO.rd FV.v FO.v
 dsimp only
 rw[List.length_map]
 rfl
theorem FO.rd_d(x:FO):x.rd.d'=x.d':=by
 unfold FO.rd FV.d' FO.d'
 dsimp only
 rw[CO.rds_xs]
theorem FO.rd_ok{S:Nat→Prop}{w0 w:World}{M:List Hp}{x:FO}(hm:Mm S w0 M w)(hM:∀h∈x.hps,h∈M)(h:x.ok):x.rd.ok w:=by
 refine⟨?_,hm.rd_row (hM _ (List.mem_cons_of_mem _ (List.mem_cons_self ..))) h.o,fun y hy=>?_⟩
 ·show Rd w w.heap.size (ad x.dA) ((x.ds.map CO.rd).map CnS.v)
  rw[CO.rds_v]
  exact hm.rd_row (hM _ (List.mem_cons_self ..)) h.d
 ·obtain⟨z,hz,rfl⟩:=List.mem_map.1 hy
  exact CO.rd_ok hm (hM _ (List.mem_cons_of_mem _ (List.mem_cons_of_mem _ (List.mem_map.2 ⟨z,hz,rfl⟩)))) (h.dd z hz)
def On(R:List Hp)(p:World→Prop):Prop:=∀(S:Nat→Prop)(w0 w:World)(M:List Hp),Mm S w0 M w→(∀h∈R,h∈M)→p w
theorem On.now{R:List Hp}{p:World→Prop}(h:On R p){S:Nat→Prop}{w0 w:World}{M:List Hp}(hm:Mm S w0 M w)(hM:∀h∈R,h∈M):p w:=h S w0 w M hm hM
theorem On.more{R R':List Hp}{p:World→Prop}(h:On R p)(hs:∀x∈R,x∈R'):On R' p:=fun S w0 w M hm hM=>h S w0 w M hm (fun x hx=>hM x (hs x hx))
theorem FO.on{y:FO}(h:y.ok):On y.hps y.rd.ok:=fun _ _ _ _ hm hM=>FO.rd_ok hm hM h
theorem CO.on{r:CO}(h:r.ok):On [r.hp] r.rd.ok:=fun _ _ _ _ hm hM=>CO.rd_ok hm (hM _ (List.mem_singleton.2 rfl)) h
structure OuV where
 seq:Int
 so:Int
 d:CnS
def OuV.v(x:OuV):List Value:=[.int .i64 x.seq,.int .i64 x.so,.slice x.d.A x.d.xs.length x.d.c]
theorem OuV.len(x:OuV):x.v.length=3:=rfl
structure OuD where
 seq:Int
 so:Int
 xs:List CN
def OuV.d'(x:OuV):OuD:=⟨x.seq,x.so,x.d.xs⟩
structure OuO where
 seq:Int
 so:Int
 d:CO
def OuO.v(x:OuO):List Value:=[.int .i64 x.seq,.int .i64 x.so,slv x.d.A x.d.xs.length x.d.c]
def OuO.hp(x:OuO):Hp:=x.d.hp
def OuO.d'(x:OuO):OuD:=⟨x.seq,x.so,x.d.xs⟩
def OuO.rd(x:OuO):OuV:=⟨x.seq,x.so,x.d.rd⟩
theorem OuO.rds_v(l:List OuO):(l.map OuO.rd).flatMap OuV.v=l.flatMap OuO.v:=by rw[List.flatMap_map];rfl
theorem OuO.rds_d(l:List OuO):(l.map OuO.rd).map OuV.d'=l.map OuO.d':=by rw[List.map_map];rfl
theorem OuO.snoc(rs:List OuO)(r:OuO):rs.flatMap OuO.v++r.v=(rs++[r]).flatMap OuO.v:=by rw[List.flatMap_append,List.flatMap_singleton]
theorem OuO.perm{S:Nat→Prop}{w0 w:World}{L:List Hp}{rs:List OuO}{r:OuO}(hm:Mm S w0 (r.hp::(L++rs.map OuO.hp)) w):Mm S w0 (L++(rs++[r]).map OuO.hp) w:=by
 refine hm.perm ?_
 rw[List.map_append,←List.append_assoc]
 exact List.perm_append_comm (l₁:=L++rs.map OuO.hp) (l₂:=[r.hp])
theorem OuO.take_snoc{rs:List OuO}{qs:List OuV}{r:OuO}(h:rs.map OuO.d'=(qs.take rs.length).map OuV.d')(hl:rs.length<qs.length)(hr:r.d'=(qs[rs.length]).d'):(rs++[r]).map OuO.d'=(qs.take (rs++[r]).length).map OuV.d':=by
 rw[List.map_append,h,List.length_append,List.length_singleton,List.take_succ_eq_append_getElem hl,List.map_append]
 simp[hr]
structure FcX where
 rs:List CO
 qA:Option Nat
 qc:Nat
 qcs:List Value
structure OcX where
 rs:List OuO
 qA:Option Nat
 qc:Nat
 qcs:List Value
theorem fcp_c(x:FV)(wB:World)(hx:x.ok wB)(hq1:x.ds.length≤1000)(ho1:x.os.length≤1000)(hsm:∀q∈x.ds,q.xs.length≤1000):Ret Tryz.prog 104 [x.v] wB (fun u w'=>∃y:FO,u=y.v∧y.ok∧y.d'=x.d'∧y.ds.length=x.ds.length∧New wB w' y.hps∧Pu wB w'):=by
 unfold FV.v
 refine enterR Tryz.func104 rfl rfl rfl fun a hs hm=>?_
 refine gsc5af_ ?_;clear hs hm a;intros;rename_i a hm hs
 obtain⟨g1,rfl⟩:=hs.pp 1
 obtain⟨g2,rfl⟩:=hs.pp 2
 refine dv hs (Wnt.none rfl) rfl rfl (d_appendS (A:=none) (n:=0) (c:=0) (xs:=[]) (news:=ops x.os) hs rfl rfl rfl rfl tab rfl rfl rfl rfl rfl (hm.zero 212) mem_ (Row.empty 3) (ops_len _) (hm.fr.rd' hx.o) (ops_one _) (by show(0+x.os.length)*24≤_;omega) (by omega)) ?_
 clear hs
 rintro _ w2 ⟨oA,oc,ocs,rfl,hor,hM⟩ a hs
 replace hm:=hM _ rep_
 clear hM
 rw[Nat.zero_add,List.nil_append]at hor
 rw[Nat.zero_add]at hs
 refine gsc5af_ ?_;clear hs hm a;intros;rename_i a hm hs
 obtain⟨g3,rfl⟩:=hs.pp 3
 replace hm:=(hm.zero 93).sel (M':=[⟨some g3,78,[nS,slv oA x.os.length oc]⟩,⟨none,93,[]⟩,⟨oA,212,ocs⟩,⟨some g2,78,[nS,nS]⟩]) [1,0,2,3] (by decide) rfl
 refine cLoop (X:=FcX) (fun X a w'=>X.rs.length≤x.ds.length∧Sl Tryz.f104.ntmps [(2,pt g2),(3,pt g3),(11,.slice x.dA x.ds.length x.dc),(12,.int .i64 (x.ds.length:Int)),(13,.int .i64 (X.rs.length:Int))] a∧Mm (fun _=>False) wB ([⟨some g3,78,[slv X.qA X.rs.length X.qc,slv oA x.os.length oc]⟩,⟨X.qA,93,X.qcs⟩,⟨oA,212,ocs⟩,⟨some g2,78,[nS,nS]⟩]++X.rs.map CO.hp) w'∧Row X.qA X.rs.length X.qc 1 (X.rs.map CO.v) X.qcs∧X.rs.map CO.xs=(x.ds.take X.rs.length).map CnS.xs∧∀r∈X.rs,r.ok) (fun X=>x.ds.length-X.rs.length) ⟨[],none,0,[]⟩ ⟨Nat.zero_le _,(sb_ hs),hm,Row.empty 1,rfl,fun r hr=>by cases hr⟩ ?_
 clear hs hm a
 rintro⟨rs,qA,qc,qcs⟩ a w' ⟨hlen,hs,hm,hqr,hab,hok⟩
 dsimp only at hlen hs hm hqr hab hok
 by_cases hlt:rs.length<x.ds.length
 ·obtain⟨b1,o1,hA,hb1,r1⟩:=hx.d.ro (by rw[List.length_map];omega)
  obtain⟨q,hq⟩:∃q,q=x.ds[rs.length]:=⟨_,rfl⟩
  have hqm:q∈x.ds:=by rw[hq];exact List.getElem_mem hlt
  have hcell:(x.ds.map CnS.v)[rs.length]?=some (.slice q.A q.xs.length q.c):=by rw[List.getElem?_map,List.getElem?_eq_getElem hlt,hq];rfl
  have hqo:=hx.dd q hqm
  have hqn:=hsm q hqm
  rw[hA]at hs
  refine gsc5af_ ?_;clear hs hm a;intros;rename_i a hm hs
  refine cMid (fun a w=>∃(r:CO)(qA':Option Nat)(qc':Nat)(qcs':List Value),r.ok∧r.xs=q.xs∧Row qA' (rs.length+1) qc' 1 ((rs++[r]).map CO.v) qcs'∧Sl Tryz.f104.ntmps [(2,pt g2),(3,pt g3),(11,.slice x.dA x.ds.length x.dc),(12,.int .i64 (x.ds.length:Int)),(13,.int .i64 (rs.length:Int))] a∧Mm (fun _=>False) wB (r.hp::([⟨some g3,78,[slv qA' (rs.length+1) qc',slv oA x.os.length oc]⟩,⟨qA',93,qcs'⟩,⟨oA,212,ocs⟩,⟨some g2,78,[nS,nS]⟩]++rs.map CO.hp)) w) ?_ ?_
  ·skip
   refine cDrawT (n:=8) (.s [0,2]<| .e [(1,.o 3<| .x<| .o 4<| .o 5<| .x<| .t 6<| .o 7<| .d),(3,.x<| .e [(1,.o 4<| .o 5<| .x<| .t 6<| .o 7<| .d),(4,.o 1<| .o 5<| .x<| .t 6<| .o 7<| .d)])]) [] hm rfl rfl ?_
   clear hm;intro t_ w1_ hm
   repeat' (first|(refine dg149e_ ?_;clear t_ hs hm a;intros;rename_i a hm hs t_)|refine tE t_ ?_|refine tC ?_ ?_|exact tN|intro t_|(refine oDo (i:=3) hs rfl (Wnt.none rfl) rfl rfl (by exact d_appendS (A:=none) (n:=0) (c:=0) (xs:=[]) (news:=cns q.xs) hs rfl rfl rfl rfl tab rfl rfl rfl rfl rfl (hm.zero 95) mem_ (Row.empty 4) (cns_len _) (hm.fr.rd' hqo) (cns_one _) (by show(0+q.xs.length)*24≤_;omega) (by omega)) ?_;clear hs;rintro _ w1 ⟨rA,rc,rcs,rfl,hrr,hM⟩ a hs;(replace hm:=hM _ rep_);(clear hM);(rw[Nat.zero_add,List.nil_append]at hrr);(rw[Nat.zero_add]at hs);replace t_:=tX t_;refine⟨(hm.sub sub_),?_⟩)|(refine oDo (i:=5) hs rfl (Wnt.none rfl) rfl rfl (by exact d_append (A:=qA) (n:=rs.length) (c:=qc) (news:=[slv rA q.xs.length rc]) hs rfl rfl rfl rfl rfl tab rfl rfl rfl rfl rfl hm mem_ hqr rfl (hm.ro (n:=1) mem_ (cutF_ok rfl)) rfl (by show(rs.length+1)*24≤_;omega) (by omega)) ?_;clear hs;rintro _ w1 ⟨qA',qc',qcs',rfl,hqr',hM⟩ a hs;(replace hm:=hM _ rep_);(clear hM);replace t_:=tX t_;refine⟨(hm.sub sub_),?_⟩)|(refine tD t_ ?_;(rw[show slv rA q.xs.length rc=CO.v ⟨rA,rc,rcs,q.xs⟩from rfl,CO.snoc]at hqr');(rw[←hA]at hs);(exact And.intro rfl ⟨⟨rA,rc,rcs,q.xs⟩,qA',qc',qcs',hrr,rfl,hqr',(sb_ hs),hm.sub (List.Sublist.cons _ (List.Sublist.refl _))⟩))|fail)
  clear hs hm a hqr
  rintro a w ⟨r,qA',qc',qcs',hro,hrx,hqr',hs,hm⟩
  refine gsc5af_ ?_;clear hs hm a;intros;rename_i a hm hs
  refine⟨⟨rs++[r],qA',qc',qcs'⟩,by dsimp only;rw[List.length_append,List.length_singleton];omega,by dsimp only;rw[List.length_append,List.length_singleton];omega,?_,?_,?_,CO.take_snoc hab hlt (by rw[hrx,hq]),?_⟩
  ·dsimp only
   rw[List.length_append,List.length_singleton]
   exact(sb_ hs)
  ·dsimp only
   rw[List.length_append,List.length_singleton]
   exact CO.perm hm
  ·dsimp only
   rw[List.length_append,List.length_singleton]
   exact hqr'
  ·intro z hz
   rcases List.mem_append.1 hz with hz|hz
   ·exact hok z hz
   ·rcases List.mem_singleton.1 hz with rfl;exact hro
 ·have hln:rs.length=x.ds.length:=by omega
  refine gsc5af_ ?_;clear hs hm a;intros;rename_i a hm hs
  rw[hln,List.take_length]at hab
  refine gRetN tab hs rfl (.cons (.cells rfl rfl rfl rfl (hm.ro (k:=0) (n:=2) (g:=g2) mem_ (cutF_ok rfl))) .nil) ⟨⟨qA,qc,qcs,rs,oA,oc,ocs,x.os⟩,rfl,⟨hqr,hor,hok⟩,by unfold FO.d' FV.d';rw[hab],hln,hm.new ?_,hm.fr⟩
  unfold FO.hps
  dsimp only
  exact zbd11_
theorem ocp_c(A:Option Addr)(c:Nat)(qs:List OuV)(wB:World)(hx:Rd wB wB.heap.size A (qs.flatMap OuV.v))(hqs:∀q∈qs,q.d.ok wB)(hq1:qs.length≤1000)(hsm:∀q∈qs,q.d.xs.length≤1000):Ret Tryz.prog 105 [.slice A qs.length c] wB (fun u w'=>∃(qA:Option Nat)(qc:Nat)(qcs:List Value)(rs:List OuO),u=slv qA rs.length qc∧Row qA rs.length qc 3 (rs.flatMap OuO.v) qcs∧(∀r∈rs,r.d.ok)∧rs.map OuO.d'=qs.map OuV.d'∧rs.length=qs.length∧New wB w' (⟨qA,192,qcs⟩::rs.map OuO.hp)∧Pu wB w'):=by
 refine enterR Tryz.func105 rfl rfl rfl fun a hs hm=>?_
 refine gsc5af_ ?_;clear hs hm a;intros;rename_i a hm hs
 replace hm:=hm.zero 192
 refine cLoop (X:=OcX) (fun X a w'=>X.rs.length≤qs.length∧Sl Tryz.f105.ntmps [(3,slv X.qA X.rs.length X.qc),(6,.slice A qs.length c),(7,.int .i64 (qs.length:Int)),(8,.int .i64 (X.rs.length:Int))] a∧Mm (fun _=>False) wB ([⟨X.qA,192,X.qcs⟩]++X.rs.map OuO.hp) w'∧Row X.qA X.rs.length X.qc 3 (X.rs.flatMap OuO.v) X.qcs∧X.rs.map OuO.d'=(qs.take X.rs.length).map OuV.d'∧∀r∈X.rs,r.d.ok) (fun X=>qs.length-X.rs.length) ⟨[],none,0,[]⟩ ⟨Nat.zero_le _,(sb_ hs),hm,Row.empty 3,rfl,fun r hr=>by cases hr⟩ ?_
 clear hs hm a
 rintro⟨rs,qA,qc,qcs⟩ a w' ⟨hlen,hs,hm,hqr,hab,hok⟩
 dsimp only at hlen hs hm hqr hab hok
 by_cases hlt:rs.length<qs.length
 ·obtain⟨b1,o1,hA,hb1,r1⟩:=hx.ro (by rw[flat_len OuV.v 3 OuV.len];omega)
  obtain⟨q,hq⟩:∃q,qs[rs.length]=q:=⟨_,rfl⟩
  have hqm:q∈qs:=by rw[←hq];exact List.getElem_mem hlt
  have r2:=r1.flat OuV.len hlt
  rw[hq]at r2
  unfold OuV.v at r2
  have hqo:=hqs q hqm
  have hqn:=hsm q hqm
  rw[hA]at hs
  refine gsc5af_ ?_;clear hs hm a;intros;rename_i a hm hs
  obtain⟨g5,rfl⟩:=hs.pp 5
  refine dv hs (Wnt.none rfl) rfl rfl (d_appendS (A:=none) (n:=0) (c:=0) (xs:=[]) (news:=cns q.d.xs) hs rfl rfl rfl rfl tab rfl rfl rfl rfl rfl (hm.zero 95) mem_ (Row.empty 4) (cns_len _) (hm.fr.rd' hqo) (cns_one _) (by show(0+q.d.xs.length)*24≤_;omega) (by omega)) ?_
  clear hs
  rintro _ w3 ⟨rA,rc,rcs,rfl,hrr,hM⟩ a hs
  replace hm:=hM _ rep_
  clear hM
  rw[Nat.zero_add,List.nil_append]at hrr
  rw[Nat.zero_add]at hs
  refine gsc5af_ ?_;clear hs hm a;intros;rename_i a hm hs
  refine dv hs (Wnt.none rfl) rfl rfl (d_append (A:=qA) (n:=rs.length) (c:=qc) (news:=[.int .i64 q.seq,.int .i64 q.so,slv rA q.d.xs.length rc]) hs rfl rfl rfl rfl rfl tab rfl rfl rfl rfl rfl hm mem_ hqr rfl (hm.ro (n:=3) mem_ (cutF_ok rfl)) rfl (by show(rs.length+1)*40≤_;omega) (by omega)) ?_
  clear hs
  rintro _ w4 ⟨qA',qc',qcs',rfl,hqr',hM⟩ a hs
  replace hm:=hM _ rep_
  clear hM
  rw[show[.int .i64 q.seq,.int .i64 q.so,slv rA q.d.xs.length rc]=OuO.v ⟨q.seq,q.so,⟨rA,rc,rcs,q.d.xs⟩⟩from rfl,OuO.snoc]at hqr'
  refine gsc5af_ ?_;clear hs hm a;intros;rename_i a hm hs
  rw[←hA]at hs
  replace hm:=hm.sub (List.Sublist.cons _ (List.Sublist.cons_cons _ (List.Sublist.cons _ (List.Sublist.refl _))))
  refine⟨⟨rs++[⟨q.seq,q.so,⟨rA,rc,rcs,q.d.xs⟩⟩],qA',qc',qcs'⟩,by dsimp only;rw[List.length_append,List.length_singleton];omega,by dsimp only;rw[List.length_append,List.length_singleton];omega,?_,?_,?_,OuO.take_snoc hab hlt (by rw[hq];rfl),?_⟩
  ·dsimp only
   rw[List.length_append,List.length_singleton]
   exact(sb_ hs)
  ·exact OuO.perm (r:=⟨q.seq,q.so,⟨rA,rc,rcs,q.d.xs⟩⟩) (L:=[⟨qA',192,qcs'⟩]) hm
  ·dsimp only
   rw[List.length_append,List.length_singleton]
   exact hqr'
  ·intro z hz
   rcases List.mem_append.1 hz with hz|hz
   ·exact hok z hz
   ·rcases List.mem_singleton.1 hz with rfl;exact hrr
 ·have hln:rs.length=qs.length:=by omega
  refine gsc5af_ ?_;clear hs hm a;intros;rename_i a hm hs
  rw[hln,List.take_length]at hab
  exact gRet1 hs rfl rfl ⟨qA,qc,qcs,rs,rfl,hqr,hok,hab,hln,hm.new (List.Sublist.refl _),hm.fr⟩
theorem gpSgw0_{G H:Prop}(k:H)(s:Bx H→G:=by intro k_;(repeat(first|(refine ovR_ ?_;(try clear hs a);intro a hs)|((with_reducible apply lCons);first|(refine dv hs gw_ rfl rfl da_ ?_;(try clear hs hm a);rintro _ w_ ⟨g_,rfl,-,hm⟩ a hs)|(refine stn hs rfl rfl ds_ ?_;(try clear hs hm a);rintro-w_ hm a hs))|refine sc_ ?_));have m_:=hm;have s_:=hs;clear hs;(try clear hm);revert m_ s_ a;(try revert w_);(repeat revert g_);exact k_.h):G:=s ⟨k⟩
theorem gcSgw1_{G H:Prop}(k:H)(s:Bx H→G:=by intro k_;(repeat(first|(refine ovR_ ?_;(try clear hs a);intro a hs)|((with_reducible apply lCons);first|(refine dv hs gw_ rfl rfl da_ ?_;(try clear hs hm a);rintro _ w_ ⟨g_,rfl,-,hm⟩ a hs)|(refine stn hs rfl rfl ds_ ?_;(try clear hs hm a);rintro-w_ hm a hs))|refine sc_ ?_|((with_reducible apply lCons);first|(refine dvc hs hm gw_ rfl rfl rfl rfl rfl (pl 141 rfl) (k2 _ hm.fr) ?_;(try clear hs hm a);intro w_ hm a hs))));(first|(have m_:=hm;have s_:=hs;clear hs;(try clear hm);revert m_ s_ a)|((first|refine rexc_ hs hm ?_|refine rexl_ hs hm ?_|refine rexg_ hs hm ?_|refine rexq_ hs hm ?_);intro a hm hs;revert hm hs a));(try revert w_);(repeat revert g_);exact k_.h):G:=s ⟨k⟩
theorem FV.at_{x:FV}{k:Nat}{d:List CN}(h:x.d'.ds[k]?=some d):∃(hk:k<x.ds.length),(x.ds[k]).xs=d:=by
 have h':(x.ds.map CnS.xs)[k]?=some d:=h
 rw[List.getElem?_map]at h'
 cases hx:x.ds[k]? with
 |none=>rw[hx]at h';cases h'
 |some y=>
  rw[hx]at h'
  obtain⟨hk,hy⟩:=List.getElem?_eq_some_iff.1 hx
  exact⟨hk,by rw[hy];exact Option.some.inj h'⟩
theorem FV.len_(x:FV):x.d'.ds.length=x.ds.length:=by show(x.ds.map CnS.xs).length=_;rw[List.length_map]
theorem FV.mem_{x:FV}{y:CnS}(h:y∈x.ds):y.xs∈x.d'.ds:=List.mem_map.2 ⟨y,h,rfl⟩
theorem fval_c(x:FV)(wB:World)(hx:x.ok wB)(h:x.d'.val):Ret Tryz.prog 101 [x.v] wB (fun u w'=>u= .bool true∧Pu wB w'):=by
 have hn:=h.n
 rw[FV.len_]at hn
 have ho:x.os.length=8:=h.o
 have hro:=hx.o
 unfold FV.v
 refine enterR Tryz.func101 rfl rfl rfl fun a hs hm=>?_
 refine gsce98_ ?_;clear hs hm a;intros;rename_i a hm hs
 obtain⟨g1,rfl⟩:=hs.pp 1
 refine cLoop (X:=Nat) (fun k a w'=>k≤x.ds.length∧Sl Tryz.f101.ntmps [(1,.pointer (some ⟨g1,0,none⟩)),(18,.slice x.dA x.ds.length x.dc),(19,.int .i64 (x.ds.length:Int)),(20,.int .i64 (k:Int))] a∧Mm (fun _=>False) wB [⟨some g1,78,[.slice x.dA x.ds.length x.dc,.slice x.oA x.os.length x.oc]⟩] w') (fun k=>x.ds.length-k) 0 ⟨Nat.zero_le _,(sb_ hs),hm⟩ ?_
 clear hs hm a
 rintro k a w' ⟨hk,hs,hm⟩
 by_cases hlt:k<x.ds.length
 ·obtain⟨b1,o1,hA,hb1,r1⟩:=hx.d.ro (by rw[List.length_map];omega)
  obtain⟨q,hq⟩:∃q,q=x.ds[k]:=⟨_,rfl⟩
  have hqm:q∈x.ds:=by rw[hq];exact List.getElem_mem hlt
  have hcell:(x.ds.map CnS.v)[k]?=some (.slice q.A q.xs.length q.c):=by rw[List.getElem?_map,List.getElem?_eq_getElem hlt,hq];rfl
  have hqo:=hx.dd q hqm
  obtain⟨hq1,hq2⟩:=h.d _ (FV.mem_ hqm)
  have kc:=fun w'' (hf:Pu wB w'')=>ccls_c q 64 w'' (hqo.pu hf) hq2 (by omega) (by omega)
  unfold CnS.v at kc
  rw[hA]at hs hm
  repeat(first|(refine gpSgw0_ ?_;clear hs hm a;intros;rename_i a hm hs)|refine sc_ ?_|((with_reducible apply lCons);first|(refine dvc hs hm gw_ rfl rfl rfl rfl rfl (pl 96 rfl) (kc _ hm.fr) ?_;clear hs hm a;intro w hm a hs)))
  rw[←hA]at hs hm
  exact zb7e7_
 ·obtain rfl:k=x.ds.length:=by omega
  obtain⟨b1,o1,hA,hb1,r1⟩:=hro.ro (by rw[ops_len];omega)
  rw[hA,ho]at hm
  refine gsce98_ ?_;clear hs hm a;intros;rename_i a hm hs
  refine cLoop (X:=Nat) (fun k a w'=>k≤8∧Sl Tryz.f101.ntmps [(1,.pointer (some ⟨g1,0,none⟩)),(29,.slice (some ⟨b1,o1,none⟩) 8 x.oc),(30,.int .i64 ((8:Nat):Int)),(31,.int .i64 (k:Int))] a∧Mm (fun _=>False) wB [⟨some g1,78,[.slice x.dA x.ds.length x.dc,.slice (some ⟨b1,o1,none⟩) 8 x.oc]⟩] w') (fun k=>8-k) 0 ⟨Nat.zero_le _,(sb_ hs),hm⟩ ?_
  clear hs hm a
  rintro k a w' ⟨hk,hs,hm⟩
  by_cases hlt:k<8
  ·have r2:=r1.flat OpD.len (by omega:k<x.os.length)
   have hfit:=h.fit _ (List.getElem_mem (by omega:k<x.os.length))
   change OpD.fit (x.os[k]'(by omega)) _ at hfit
   generalize(x.os[k]'(by omega))=q at r2 hfit
   obtain⟨qf,qo,qw⟩:=q
   unfold OpD.cs at r2
   obtain⟨f1,f2⟩:=hfit
   dsimp only at f1 f2 r2
   by_cases hf:qf=-1
   ·obtain⟨rfl,rfl⟩:=f1 hf
    subst hf
    refine gqb0e8_ ?_;clear hs hm a;intros;rename_i a hm hs
    exact zfe81_
   ·obtain⟨j,d,rfl,hd,f3,f4⟩:=f2 hf
    obtain⟨hj,hjd⟩:=FV.at_ hd
    obtain⟨b3,o3,hA3,hb3,r3⟩:=hx.d.ro (by rw[List.length_map];omega)
    have hcell:(x.ds.map CnS.v)[j]?=some (.slice (x.ds[j]).A (x.ds[j]).xs.length (x.ds[j]).c):=by rw[List.getElem?_map,List.getElem?_eq_getElem hj];rfl
    rw[hjd]at hcell
    rw[hA3]at hm
    refine gqb0e8_ ?_;clear hs hm a;intros;rename_i a hm hs
    rw[←hA3]at hm
    exact zfe81_
  ·obtain rfl:k=8:=by omega
   refine gsce98_ ?_;clear hs hm a;intros;rename_i a hm hs
   exact gRet1 hs rfl rfl ⟨rfl,hm.fr⟩
def opnB(l:List OpD)(h:Int):Bool:=decide (0≤h)&&((l[h.toNat]?).map fun y=>!decide (y.f=-1)).getD false
theorem opnB_out{l:List OpD}{h:Int}(hh:h<0∨(l.length:Int)≤h):opnB l h=false:=by
 unfold opnB
 rcases hh with hh|hh
 ·rw[decide_eq_false (by omega),Bool.false_and]
 ·rw[List.getElem?_eq_none (by omega)]
  simp
theorem opnB_at{l:List OpD}{k:Nat}{y:OpD}(h:l[k]?=some y):opnB l (k:Int)=!decide (y.f=-1):=by
 unfold opnB
 rw[decide_eq_true (by omega),Bool.true_and,Int.toNat_natCast,h]
 rfl
theorem opnB_t{l:List OpD}{h:Int}(hh:opnB l h=true):∃(k:Nat)(y:OpD),h=(k:Int)∧l[k]?=some y∧¬y.f=-1:=by
 by_cases h1:h<0∨(l.length:Int)≤h
 ·rw[opnB_out h1]at hh;cases hh
 ·obtain⟨k,rfl⟩:∃k:Nat,h=(k:Int):=⟨h.toNat,by omega⟩
  have e:=List.getElem?_eq_getElem (l:=l) (i:=k) (by omega)
  rw[opnB_at e]at hh
  exact⟨k,_,rfl,e,by simpa using hh⟩
theorem open_c(x:FV)(h:Int)(wB:World)(hx:x.ok wB)(hn:x.os.length≤1000):Ret Tryz.prog 141 [x.v,.int .i64 h] wB (fun u w'=>u= .bool (opnB x.os h)∧Pu wB w'):=by
 have hro:=hx.o
 unfold FV.v
 by_cases h1:0≤h
 ·by_cases h2:h<(x.os.length:Int)
  ·obtain⟨k,rfl⟩:∃k:Nat,h=(k:Int):=⟨h.toNat,by omega⟩
   obtain⟨b1,o1,hA,hb1,r1⟩:=hro.ro (by rw[ops_len];omega)
   have hk:k<x.os.length:=by omega
   have r2:=r1.flat OpD.len hk
   rw[opnB_at (List.getElem?_eq_getElem hk)]
   generalize x.os[k]=q at r2
   obtain⟨qf,qo,qw⟩:=q
   unfold OpD.cs at r2
   dsimp only at r2
   rw[hA]
   by_cases hf:qf=-1
   ·subst hf
    refine enterR Tryz.func141 rfl rfl rfl fun a hs hm=>?_
    refine gsce98_ ?_;clear hs hm a;intros;rename_i a hm hs
    exact gRet1 hs rfl rfl ⟨rfl,hm.fr⟩
   ·refine enterR Tryz.func141 rfl rfl rfl fun a hs hm=>?_
    refine gsce98_ ?_;clear hs hm a;intros;rename_i a hm hs
    refine gRet1 hs rfl rfl ⟨?_,hm.fr⟩
    simp[hf]
  ·rw[opnB_out (.inr (by omega))]
   refine enterR Tryz.func141 rfl rfl rfl fun a hs hm=>?_
   refine gsce98_ ?_;clear hs hm a;intros;rename_i a hm hs
   exact gRet1 hs rfl rfl ⟨rfl,hm.fr⟩
 ·rw[opnB_out (.inl (by omega))]
  refine enterR Tryz.func141 rfl rfl rfl fun a hs hm=>?_
  refine gsce98_ ?_;clear hs hm a;intros;rename_i a hm hs
  exact gRet1 hs rfl rfl ⟨rfl,hm.fr⟩
theorem FO.out{S:Nat→Prop}{w0 w:World}{y:FO}(hm:Mm S w0 y.hps w)(h:y.ok):y.rd.ok w:=FO.rd_ok hm (fun _ h=>h) h
theorem FD.set_os{x:FD}(h:x.val)(k:Nat){y:OpD}(hy:y.fit x.ds):FD.val ⟨x.ds,x.os.set k y⟩:=⟨h.n,by show(x.os.set k y).length=8;rw[List.length_set];exact h.o,h.d,fun z hz=>by
 rcases List.mem_or_eq_of_mem_set hz with hz|rfl
 ·exact h.fit z hz
 ·exact hy⟩
theorem ops_splice{A:Option Nat}{c:Nat}{l:List OpD}{cs:List Value}(h:Row A l.length c 3 (ops l) cs){k:Nat}(hk:k<l.length)(y:OpD):Row A l.length c 3 (ops (l.set k y)) (cs.take (k*3)++y.cs++cs.drop (k*3+3)):=by
 have hsp:=h.splice (o:=k*3) (ys:=y.cs) (by rw[OpD.len];omega)
 rw[OpD.len,show(ops l).take (k*3)++y.cs++(ops l).drop (k*3+3)=ops (l.set k y)from flat_splice OpD.cs 3 OpD.len l k y hk]at hsp
 exact hsp
theorem clos_c(x:FV)(h:Int)(wB:World)(hx:x.ok wB)(hv:x.d'.val):Ret Tryz.prog 135 [x.v,.int .i64 h] wB (fun u w'=>∃(y:FV)(b:Bool)(R:List Hp),u= .tuple #[y.v,.bool b]∧On R y.ok∧New wB w' R∧y.d'.val∧Pu wB w'):=by
 have hn:=hv.n
 rw[FV.len_]at hn
 have ho:x.os.length=8:=hv.o
 have k1:=fun w'' (hf:Pu wB w'')=>fcp_c x w'' (hx.pu hf) (by omega) (by omega) (fun q hq=>by have:=(hv.d _ (FV.mem_ hq)).1;omega)
 have k2:=fun w'' (hf:Pu wB w'')=>open_c x h w'' (hx.pu hf) (by omega)
 unfold FV.v at k1 k2 ⊢
 refine enterR Tryz.func135 rfl rfl rfl fun a hs hm=>?_
 refine gsce98_ ?_;clear hs hm a;intros;rename_i a hm hs
 obtain⟨g2,rfl⟩:=hs.pp 2
 obtain⟨g4,rfl⟩:=hs.pp 4
 refine st hs rfl rfl rfl (d_call hs rfl rfl rfl (pl 104 rfl) ((k1 _ hm.fr))) ?_;clear hs a;rintro _ w1 ⟨y,rfl,hyo,hyd,hyn,hN,hf⟩ a hs
 replace hm:=gainE hm hf hN
 clear hN hf
 have hyv:y.d'.val:=hyd▸hv
 have hyos:y.os=x.os:=congrArg FD.os hyd
 obtain⟨dA,dc,dcs,ds,oA,oc,ocs,os⟩:=y
 unfold FO.v at hs
 unfold FO.hps at hm
 have hos8:os.length=8:=hyv.o
 simp only[List.cons_append,List.nil_append]at hm
 dsimp only at hs hm hyn hyos
 have hor:=hyo.o
 dsimp only at hor
 obtain⟨go,rfl⟩:=hor.some_ (by omega)
 rw[hos8]at hs
 have hfin:∀(ocs':List Value)(os':List OpD)(b:Bool)(w':World),Row (some go) os'.length oc 3 (ops os') ocs'→FD.val ⟨ds.map CO.xs,os'⟩→Mm (fun _=>False) wB (⟨dA,93,dcs⟩::⟨some go,212,ocs'⟩::ds.map CO.hp) w'→∃(y:FV)(b':Bool)(R:List Hp),Value.tuple #[.agg #[slv dA ds.length dc,slv (some go) 8 oc],.bool b]= .tuple #[y.v,.bool b']∧On R y.ok∧New wB w' R∧y.d'.val∧Pu wB w':=
  fun ocs' os' b w' h1 h2 h3=>⟨FO.rd ⟨dA,dc,dcs,ds,some go,oc,ocs',os'⟩,b,_,by
   have h8:os'.length=8:=h2.o
   rw[FO.rd_v]
   unfold FO.v
   dsimp only
   rw[h8],FO.on ⟨hyo.d,h1,hyo.dd⟩,h3.new (List.Sublist.refl _),by rw[FO.rd_d];exact h2,h3.fr⟩
 cases hb:opnB x.os h
 ·rw[hb]at k2
  refine gcSgw1_ ?_;clear hs hm a;intros;rename_i a hm hs
  exact gRetN tab hs rfl (.cons (.cells rfl rfl rfl rfl (hm.ro (k:=0) (n:=2) (g:=g4) mem_ (cutF_ok rfl))) (.cons (.tmp rfl) .nil)) (hfin ocs os false _ hor hyv (hm.sub sub_))
 ·rw[hb]at k2
  obtain⟨k,z,rfl,hk,hz⟩:=opnB_t hb
  have hkl:=(List.getElem?_eq_some_iff.1 hk).1
  have hocl:=hor.len
  have hocle:=hor.le
  refine gcSgw1_ ?_;clear hs hm a;intros;rename_i a hm hs
  refine stn hs rfl rfl (d_store hs rfl rfl rfl tab rfl rfl rfl rfl hm rep_ (putG (by show k*3+3≤_;omega))) ?_
  clear hs hm a
  rintro-w hm a hs
  refine gsce98_ ?_;clear hs hm a;intros;rename_i a hm hs
  exact gRetN tab hs rfl (.cons (.cells rfl rfl rfl rfl (hm.ro (k:=0) (n:=2) (g:=g4) mem_ (cutF_ok rfl))) (.cons (.tmp rfl) .nil)) (hfin _ _ true _ (by rw[List.length_set];exact ops_splice hor (by omega) ⟨-1,0,false⟩) (FD.set_os hyv k ⟨fun _=>⟨rfl,rfl⟩,fun e=>absurd rfl e⟩) (hm.sub sub_))
theorem gcSgx0_{G H:Prop}(k:H)(s:Bx H→G:=by intro k_;(repeat(first|(refine oqR_ ?_;(try clear hs a);intro a hs)|((with_reducible apply lCons);first|(refine dv hs gw_ rfl rfl da_ ?_;(try clear hs hm a);rintro _ w_ ⟨g_,rfl,-,hm⟩ a hs)|(refine stn hs rfl rfl ds_ ?_;(try clear hs hm a);rintro-w_ hm a hs))|((with_reducible apply qNil);(try clear hm);intro w_ hm)|refine cQ_ ?_|refine sc_ ?_|((with_reducible apply lCons);first|(refine dvc hs hm gw_ rfl rfl rfl rfl rfl (pl 141 rfl) (k2 _ hm.fr) ?_;(try clear hs hm a);intro w_ hm a hs))|((with_reducible apply qCons);first|(refine qwc hs gw_ rfl rfl rfl rfl rfl (pl 141 rfl) (fun w hm=>k2 _ hm.fr) ?_;(try clear hs a);intro a hs))));(first|(have m_:=hm;have s_:=hs;clear hs;(try clear hm);revert m_ s_ a)|((first|refine rexc_ hs hm ?_|refine rexl_ hs hm ?_|refine rexg_ hs hm ?_|refine rexq_ hs hm ?_);intro a hm hs;revert hm hs a));(try revert w_);(repeat revert g_);exact k_.h):G:=s ⟨k⟩
theorem seek_c(x:FV)(h off:Int)(wB:World)(hx:x.ok wB)(hv:x.d'.val):Ret Tryz.prog 136 [x.v,.int .i64 h,.int .i64 off] wB (fun u w'=>∃(y:FV)(b:Bool)(R:List Hp),u= .tuple #[y.v,.bool b]∧On R y.ok∧New wB w' R∧y.d'.val∧Pu wB w'):=by
 have hn:=hv.n
 rw[FV.len_]at hn
 have ho:x.os.length=8:=hv.o
 have k1:=fun w'' (hf:Pu wB w'')=>fcp_c x w'' (hx.pu hf) (by omega) (by omega) (fun q hq=>by have:=(hv.d _ (FV.mem_ hq)).1;omega)
 have k2:=fun w'' (hf:Pu wB w'')=>open_c x h w'' (hx.pu hf) (by omega)
 have hro:=hx.o
 unfold FV.v at k1 k2 ⊢
 refine enterR Tryz.func136 rfl rfl rfl fun a hs hm=>?_
 refine gsce98_ ?_;clear hs hm a;intros;rename_i a hm hs
 obtain⟨g3,rfl⟩:=hs.pp 3
 obtain⟨g6,rfl⟩:=hs.pp 6
 refine st hs rfl rfl rfl (d_call hs rfl rfl rfl (pl 104 rfl) ((k1 _ hm.fr))) ?_;clear hs a;rintro _ w1 ⟨y,rfl,hyo,hyd,hyn,hN,hf⟩ a hs
 replace hm:=gainE hm hf hN
 clear hN hf
 have hyv:y.d'.val:=hyd▸hv
 have hyos:y.os=x.os:=congrArg FD.os hyd
 have hyds:y.ds.map CO.xs=x.d'.ds:=congrArg FD.ds hyd
 obtain⟨dA,dc,dcs,ds,oA,oc,ocs,os⟩:=y
 unfold FO.v at hs
 unfold FO.hps at hm
 have hos8:os.length=8:=hyv.o
 simp only[List.cons_append,List.nil_append]at hm
 dsimp only at hs hm hyn hyos hyds
 have hor:=hyo.o
 have hdr:=hyo.d
 dsimp only at hor hdr
 obtain⟨go,rfl⟩:=hor.some_ (by omega)
 rw[hos8]at hs
 have hfin:∀(ocs':List Value)(os':List OpD)(b:Bool)(w':World),Row (some go) os'.length oc 3 (ops os') ocs'→FD.val ⟨ds.map CO.xs,os'⟩→Mm (fun _=>False) wB (⟨dA,93,dcs⟩::⟨some go,212,ocs'⟩::ds.map CO.hp) w'→∃(y:FV)(b':Bool)(R:List Hp),Value.tuple #[.agg #[slv dA ds.length dc,slv (some go) 8 oc],.bool b]= .tuple #[y.v,.bool b']∧On R y.ok∧New wB w' R∧y.d'.val∧Pu wB w':=
  fun ocs' os' b w' h1 h2 h3=>⟨FO.rd ⟨dA,dc,dcs,ds,some go,oc,ocs',os'⟩,b,_,by
   have h8:os'.length=8:=h2.o
   rw[FO.rd_v]
   unfold FO.v
   dsimp only
   rw[h8],FO.on ⟨hyo.d,h1,hyo.dd⟩,h3.new (List.Sublist.refl _),by rw[FO.rd_d];exact h2,h3.fr⟩
 cases hb:opnB x.os h
 ·rw[hb]at k2
  refine gcSgx0_ ?_;clear hs hm a;intros;rename_i g w a hm hs
  exact gRetN tab hs rfl (.cons (.cells rfl rfl rfl rfl (hm.ro (k:=0) (n:=2) (g:=g6) mem_ (cutF_ok rfl))) (.cons (.tmp rfl) .nil)) (hfin ocs os false _ hor hyv (hm.sub sub_))
 ·rw[hb]at k2
  obtain⟨k,z,rfl,hk,hz⟩:=opnB_t hb
  have hkl:=(List.getElem?_eq_some_iff.1 hk).1
  have hocl:=hor.len
  have hocle:=hor.le
  obtain⟨b1,o1,hA,hb1,r1⟩:=hro.ro (by rw[ops_len];omega)
  have r2:=r1.flat OpD.len hkl
  rw[(List.getElem?_eq_some_iff.1 hk).2]at r2
  obtain⟨j,d,hzf,hd,f3,f4⟩:=(hv.fit z (List.mem_of_getElem? hk)).at_ hz
  unfold OpD.cs at r2
  rw[hzf]at r2
  obtain⟨hj,hjd⟩:=FV.at_ hd
  obtain⟨b3,o3,hA3,hb3,r3⟩:=hx.d.ro (by rw[List.length_map];omega)
  have hcell:(x.ds.map CnS.v)[j]?=some (.slice (x.ds[j]).A (x.ds[j]).xs.length (x.ds[j]).c):=by rw[List.getElem?_map,List.getElem?_eq_getElem hj];rfl
  rw[hjd]at hcell
  rw[hA,hA3]at hs hm k2
  by_cases h1:0≤off
  ·by_cases h2:off≤(d.length:Int)
   ·refine gcSgx0_ ?_;clear hs hm a;intros;rename_i a hm hs
    have hks:os[k]?=some z:=by rw[hyos];exact hk
    have hse:=hor.set (k*3+1) (.int .i64 off)
    rw[show(ops os).set (k*3+1) (.int .i64 off)=ops (os.set k ⟨z.f,off,z.w⟩)from flat_set OpD.cs 3 OpD.len os k 1 z (.int .i64 off) hks (by omega) ⟨z.f,off,z.w⟩ rfl]at hse
    have hft:OpD.fit ⟨z.f,off,z.w⟩ (ds.map CO.xs):=⟨fun e=>absurd e hz,fun _=>⟨j,d,hzf,by rw[hyds];exact hd,h1,h2⟩⟩
    exact gRetN tab hs rfl (.cons (.cells rfl rfl rfl rfl (hm.ro (k:=0) (n:=2) (g:=g6) mem_ (cutF_ok rfl))) (.cons (.tmp rfl) .nil)) (hfin (ocs.set (k*3+1) (.int .i64 off)) (os.set k ⟨z.f,off,z.w⟩) true _ (by rw[List.length_set];exact hse) (FD.set_os (x:=⟨ds.map CO.xs,os⟩) hyv k hft) (hm.sub sub_))
   ·refine gcSgx0_ ?_;clear hs hm a;intros;rename_i g w a hm hs
    exact gRetN tab hs rfl (.cons (.cells rfl rfl rfl rfl (hm.ro (k:=0) (n:=2) (g:=g6) mem_ (cutF_ok rfl))) (.cons (.tmp rfl) .nil)) (hfin ocs os false _ hor hyv (hm.sub sub_))
  ·refine gcSgx0_ ?_;clear hs hm a;intros;rename_i g w a hm hs
   exact gRetN tab hs rfl (.cons (.cells rfl rfl rfl rfl (hm.ro (k:=0) (n:=2) (g:=g6) mem_ (cutF_ok rfl))) (.cons (.tmp rfl) .nil)) (hfin ocs os false _ hor hyv (hm.sub sub_))
theorem dgSgy0_{G H:Prop}(k:H)(s:Bx H→G:=by intro k_;(repeat(first|(refine tTake t_ hs rfl (by kernel_rfl) gw_ rfl rfl (by intro w hm;replace hm:Mm _ _ _ w:=hm;(first|exact kvR_|exact r_loadO hs rfl rfl tab rfl rfl rfl hm (by repeat(first|exact mH|apply mT)) (by assumption))) (hm.sub sub_) ?_;(try clear t_ hs a);intro t_ a hs)|(refine tTakeN t_ hs rfl (by kernel_rfl) rfl rfl rfl rfl rfl rfl rfl (hm.sub sub_) ?_;(try clear t_ hs a);intro t_ a hs)|(refine tTakeU t_ hs rfl (by kernel_rfl) rfl rfl rfl rfl rfl rfl (hm.sub sub_) ?_;(try clear t_ hs a);intro t_ a hs)|(refine tE1 t_ ?_;(try clear t_);intro t_)|(refine nx_ t_ rfl ?_;have t_:=t_;first|(refine oDo hs rfl gw_ rfl rfl da_ ?_;(try clear hs hm a);rintro _ w_ ⟨g_,rfl,-,hm⟩ a hs;refine⟨(hm.sub sub_),?_⟩)|(refine oDoN hs rfl gw_ rfl ds_ ?_;(try clear hs hm a);rintro-w_ hm a hs;refine⟨(hm.sub sub_),?_⟩)|(refine oDoV hs rfl gw_ rfl rfl (by(first|exact klR_|exact r_loadO hs rfl rfl tab rfl rfl rfl hm (by repeat(first|exact mH|apply mT)) (by assumption))) ?_;(try clear hs a);intro a hs;refine⟨(hm.sub sub_),?_⟩))));have y_:=t_;clear t_;(first|(have m_:=hm;have s_:=hs;have z_:=y_;clear hs;(try clear hm);revert m_ s_ z_ a)|((first|refine rexd_ hs hm ?_|refine rexb_ hs hm ?_);intro a hm hs;have z_:=y_;revert hm hs z_ a));(try revert w_);(repeat revert g_);exact k_.h):G:=s ⟨k⟩
theorem OpD.fit_set{y:OpD}{ds:List (List CN)}{f:Nat}(h:y.fit ds)(h0:y.f=(f:Int)→y.o=0):y.fit (ds.set f []):=⟨h.free,fun e=>by
 obtain⟨k,d,h1,h2,h3,h4⟩:=h.at_ e
 by_cases hk:f=k
 ·subst hk
  exact⟨f,[],h1,List.getElem?_set_self (List.getElem?_eq_some_iff.1 h2).1,by rw[h0 h1];exact Int.le_refl _,by rw[h0 h1];exact Int.le_refl _⟩
 ·exact⟨k,d,h1,by rw[List.getElem?_set_ne hk];exact h2,h3,h4⟩⟩
theorem CO.rows_set{A:Option Nat}{c:Nat}{l:List CO}{cs:List Value}(h:Row A l.length c 1 (l.map CO.v) cs)(k:Nat)(y:CO):Row A l.length c 1 ((l.set k y).map CO.v) (cs.set k y.v):=by
 have:=h.set k y.v
 rwa[←List.map_set]at this
theorem CO.mm_set{S:Nat→Prop}{w0 w:World}{L:List Hp}{l:List CO}{k:Nat}{q r:CO}(hm:Mm S w0 (L++l.map CO.hp) w)(h:l[k]?=some q) (hr:r.hp=⟨none,95,[]⟩):Mm S w0 (L++(l.set k r).map CO.hp) w:=by
 refine Mm.backG CO.hp (List.getElem?_eq_some_iff.1 h).1 ?_
 rw[hr]
 exact(((Mm.frontG CO.hp hm h).sub (List.Sublist.cons _ (List.Sublist.refl _))).zero _)
theorem FD.cut{ds:List (List CN)}{os:List OpD}{f:Nat}(h:FD.val ⟨ds,os⟩)(os':List OpD)(h8:os'.length=8)(h1:∀y∈os',y.fit ds)(h0:∀y∈os',y.f=(f:Int)→y.o=0):FD.val ⟨ds.set f [],os'⟩:=⟨by show(ds.set f []).length≤4;rw[List.length_set];exact h.n,h8,fun d hd=>by
 rcases List.mem_or_eq_of_mem_set hd with hd|rfl
 ·exact h.d d hd
 ·exact⟨Nat.zero_le _,fun c hc=>by cases hc⟩,fun y hy=>OpD.fit_set (h1 y hy) (h0 y hy)⟩
theorem cMidE{P:Program}{Q:Exit→Act→World→Prop}{a:Act}{w:World}{c:Code}(e0:Exit)(I:Act→World→Prop)(h:c.wp P (fun e a w=>e=e0∧I a w) a w)(k:∀a w,I a w→Goes Q e0 a w):c.wp P Q a w:=
 wp_mono h fun e a w ⟨he,hi⟩=>by subst he;exact k a w hi
structure OnX where
 j:Nat
 os:List OpD
 ocs:List Value
theorem opn_c(x:FV)(f m:Int)(wB:World)(hx:x.ok wB)(hv:x.d'.val):Ret Tryz.prog 134 [x.v,.int .i64 f,.int .i64 m] wB (fun u w'=>∃(y:FV)(h:Int)(R:List Hp),u= .tuple #[y.v,.int .i64 h]∧-1≤h∧h≤7∧On R y.ok∧New wB w' R∧y.d'.val∧Pu wB w'):=by
 have hn:=hv.n
 rw[FV.len_]at hn
 have ho:x.os.length=8:=hv.o
 have k1:=fun w'' (hf:Pu wB w'')=>fcp_c x w'' (hx.pu hf) (by omega) (by omega) (fun q hq=>by have:=(hv.d _ (FV.mem_ hq)).1;omega)
 have hro:=hx.o
 obtain⟨b1,o1,hA,hb1,r1⟩:=hro.ro (by rw[ops_len];omega)
 unfold FV.v at k1 ⊢
 rw[hA]at k1 ⊢
 rw[ho]at k1 ⊢
 refine enterR Tryz.func134 rfl rfl rfl fun a hs hm=>?_
 refine gsce98_ ?_;clear hs hm a;intros;rename_i a hm hs
 obtain⟨g3,rfl⟩:=hs.pp 3
 obtain⟨g6,rfl⟩:=hs.pp 6
 refine st hs rfl rfl rfl (d_call hs rfl rfl rfl (pl 104 rfl) ((k1 _ hm.fr))) ?_;clear hs a;rintro _ w1 ⟨y,rfl,hyo,hyd,hyn,hN,hf⟩ a hs
 replace hm:=gainE hm hf hN
 clear hN hf k1
 have hyv:y.d'.val:=hyd▸hv
 have hyos:y.os=x.os:=congrArg FD.os hyd
 have hyds:y.ds.map CO.xs=x.d'.ds:=congrArg FD.ds hyd
 obtain⟨dA,dc,dcs,ds,oA,oc,ocs,os⟩:=y
 unfold FO.v at hs
 unfold FO.hps at hm
 have hos8:os.length=8:=hyv.o
 simp only[List.cons_append,List.nil_append]at hm
 dsimp only at hs hm hyn hyos hyds
 have hor:=hyo.o
 have hdr:=hyo.d
 dsimp only at hor hdr
 obtain⟨go,rfl⟩:=hor.some_ (by omega)
 rw[hos8]at hs
 have hfin:∀(dcs':List Value)(ds':List CO)(ocs':List Value)(os':List OpD)(h:Int)(w':World),-1≤h∧h≤7→ds'.length=ds.length→Row dA ds.length dc 1 (ds'.map CO.v) dcs'→(∀r∈ds',r.ok)→Row (some go) os'.length oc 3 (ops os') ocs'→FD.val ⟨ds'.map CO.xs,os'⟩→Mm (fun _=>False) wB (⟨dA,93,dcs'⟩::⟨some go,212,ocs'⟩::ds'.map CO.hp) w'→∃(y:FV)(h':Int)(R:List Hp),Value.tuple #[.agg #[slv dA ds.length dc,slv (some go) 8 oc],.int .i64 h]= .tuple #[y.v,.int .i64 h']∧-1≤h'∧h'≤7∧On R y.ok∧New wB w' R∧y.d'.val∧Pu wB w':=
  fun dcs' ds' ocs' os' h w' hh hl h0 h00 h1 h2 h3=>⟨FO.rd ⟨dA,dc,dcs',ds',some go,oc,ocs',os'⟩,h,_,by
   have h8:os'.length=8:=h2.o
   rw[FO.rd_v]
   unfold FO.v
   dsimp only
   rw[h8,hl],hh.1,hh.2,FO.on ⟨by dsimp only;rw[hl];exact h0,h1,h00⟩,h3.new (List.Sublist.refl _),by rw[FO.rd_d];exact h2,h3.fr⟩
 have hocl:=hor.len
 have hocle:=hor.le
 refine gsce98_ ?_;clear hs hm a;intros;rename_i a hm hs
 obtain⟨g8,rfl⟩:=hs.pp 8
 refine cMidE (.exit 0) (fun a w=>∃k:Nat,k≤8∧Sl Tryz.f134.ntmps [(1,.int .i64 f),(2,.int .i64 m),(3,pt g3),(6,pt g6),(8,pt g8),(9,.int .i64 (k:Int))] a∧Mm (fun _=>False) wB (⟨some g8,78,[slv dA ds.length dc,slv (some go) 8 oc]⟩::⟨some g6,78,[nS,nS]⟩::⟨some g3,78,[.slice x.dA x.ds.length x.dc,.slice (some ⟨b1,o1,none⟩) 8 x.oc]⟩::⟨dA,93,dcs⟩::⟨some go,212,ocs⟩::ds.map CO.hp) w) ?_ ?_
 ·refine cLoop (X:=Nat) (fun k a w=>k≤8∧Sl Tryz.f134.ntmps [(1,.int .i64 f),(2,.int .i64 m),(3,pt g3),(6,pt g6),(8,pt g8),(9,.int .i64 (k:Int))] a∧Mm (fun _=>False) wB (⟨some g8,78,[slv dA ds.length dc,slv (some go) 8 oc]⟩::⟨some g6,78,[nS,nS]⟩::⟨some g3,78,[.slice x.dA x.ds.length x.dc,.slice (some ⟨b1,o1,none⟩) 8 x.oc]⟩::⟨dA,93,dcs⟩::⟨some go,212,ocs⟩::ds.map CO.hp) w) (fun k=>8-k) 0 ⟨Nat.zero_le _,(sb_ hs),hm⟩ ?_
  clear hs hm a
  rintro k a w ⟨hk,hs,hm⟩
  by_cases hlt:k<8
  ·have r2:=r1.flat OpD.len (by omega:k<x.os.length)
   generalize(x.os[k]'(by omega))=q at r2
   obtain⟨qf,qo,qw⟩:=q
   unfold OpD.cs at r2
   dsimp only at r2
   by_cases hf:qf=-1
   ·subst hf
    refine gsce98_ ?_;clear hs hm a;intros;rename_i a hm hs
    exact And.intro rfl ⟨k,hk,(sb_ hs),hm⟩
   ·refine gsce98_ ?_;clear hs hm a;intros;rename_i a hm hs
    exact zb7e7_
  ·refine gsce98_ ?_;clear hs hm a;intros;rename_i a hm hs
   exact And.intro rfl ⟨k,hk,(sb_ hs),hm⟩
 clear hs hm a
 rintro a w ⟨k,hk,hs,hm⟩
 by_cases hA1:0≤f
 rotate_left
 ·refine gsce98_ ?_;clear hs hm a;intros;rename_i a hm hs
  exact z5095_
 by_cases hA2:f<(x.ds.length:Int)
 rotate_left
 ·refine gsce98_ ?_;clear hs hm a;intros;rename_i a hm hs
  exact z5095_
 by_cases hA3:0≤m
 rotate_left
 ·refine gsce98_ ?_;clear hs hm a;intros;rename_i a hm hs
  exact z5095_
 by_cases hA4:m≤2
 rotate_left
 ·refine gsce98_ ?_;clear hs hm a;intros;rename_i a hm hs
  exact z5095_
 by_cases hA5:k<8
 rotate_left
 ·obtain rfl:k=8:=by omega
  refine gsce98_ ?_;clear hs hm a;intros;rename_i a hm hs
  exact z5095_
 obtain⟨fk,rfl⟩:∃k:Nat,f=(k:Int):=⟨f.toNat,by omega⟩
 have hfd:fk<ds.length:=by omega
 obtain⟨gd,rfl⟩:=hdr.some_ (by omega)
 have hdcl:=hdr.len
 have hdcle:=hdr.le
 refine gsce98_ ?_;clear hs hm a;intros;rename_i a hm hs
 refine cMid (fun a w=>∃(dcs':List Value)(ds':List CO)(ocs':List Value)(os':List OpD),ds'.length=ds.length∧Row (some gd) ds.length dc 1 (ds'.map CO.v) dcs'∧(∀r∈ds',r.ok)∧Row (some go) os'.length oc 3 (ops os') ocs'∧FD.val ⟨ds'.map CO.xs,os'⟩∧Sl Tryz.f134.ntmps [(1,.int .i64 (fk:Int)),(2,.int .i64 m),(3,pt g3),(6,pt g6),(8,pt g8),(9,.int .i64 (k:Int))] a∧Mm (fun _=>False) wB (⟨some g8,78,[slv (some gd) ds.length dc,slv (some go) 8 oc]⟩::⟨some g6,78,[nS,nS]⟩::⟨some gd,93,dcs'⟩::⟨some go,212,ocs'⟩::ds'.map CO.hp) w) ?_ ?_
 ·with_reducible repeat(first|apply gThen|apply wp_seq)
  by_cases hm1:m=1
  rotate_left
  ·refine gsce98_ ?_;clear hs hm a;intros;rename_i a hm hs
   exact And.intro rfl ⟨dcs,ds,ocs,os,rfl,hdr,hyo.dd,hor,hyv,(sb_ hs),hm.sub sub_⟩
  subst hm1
  refine gsce98_ ?_;clear hs hm a;intros;rename_i a hm hs
  obtain⟨q0,hq0⟩:∃q,ds[fk]?=some q:=⟨_,List.getElem?_eq_getElem hfd⟩
  have hrs:=CO.rows_set hdr fk ⟨none,0,[],[]⟩
  replace hm:=CO.mm_set (r:=⟨none,0,[],[]⟩) (L:=[⟨some g8,78,[slv (some gd) ds.length dc,slv (some go) 8 oc]⟩,⟨some g6,78,[nS,nS]⟩,⟨some g3,78,[.slice x.dA x.ds.length x.dc,.slice (some ⟨b1,o1,none⟩) 8 x.oc]⟩,⟨some gd,93,dcs.set fk (nS)⟩,⟨some go,212,ocs⟩]) hm hq0 rfl
  simp only[List.cons_append,List.nil_append]at hm
  rw[hos8]at hor
  refine cLoop (X:=OnX) (fun X a w=>X.j≤8∧X.os.length=8∧Row (some go) 8 oc 3 (ops X.os) X.ocs∧(∀y∈X.os,y.fit (ds.map CO.xs))∧(∀i y,i<X.j→X.os[i]?=some y→y.f=(fk:Int)→y.o=0)∧Sl Tryz.f134.ntmps [(1,.int .i64 (fk:Int)),(2,.int .i64 1),(3,pt g3),(6,pt g6),(8,pt g8),(9,.int .i64 (k:Int)),(62,.int .i64 ((8:Nat):Int)),(63,.int .i64 (X.j:Int))] a∧Mm (fun _=>False) wB (⟨some g8,78,[slv (some gd) ds.length dc,slv (some go) 8 oc]⟩::⟨some g6,78,[nS,nS]⟩::⟨some gd,93,dcs.set fk (nS)⟩::⟨some go,212,X.ocs⟩::(ds.set fk ⟨none,0,[],[]⟩).map CO.hp) w) (fun X=>8-X.j) ⟨0,os,ocs⟩ ⟨Nat.zero_le _,hos8,hor,hyv.fit,(fun i y h=>absurd h (Nat.not_lt_zero _)),(sb_ hs),hm.sub sub_⟩ ?_
  clear hs hm a
  rintro⟨j,us,ucs⟩ a w ⟨hj,hul,hur,huf,hu0,hs,hm⟩
  dsimp only at hj hul hur huf hu0 hs hm
  have hucl:=hur.len
  have hucle:=hur.le
  by_cases hlt:j<8
  ·obtain⟨z,hz⟩:∃z,us[j]?=some z:=⟨_,List.getElem?_eq_getElem (by omega)⟩
   have hg:∀i v,i<3→z.cs[i]?=some v→ucs[j*3+i]?=some v:=fun i v hi hv=>hur.get (by rw[show ops us=us.flatMap OpD.cs from rfl,flat_get OpD.cs 3 OpD.len us j i (by omega) hi,(List.getElem?_eq_some_iff.1 hz).2];exact hv)
   have hg0:=hg 0 _ (by omega) rfl
   by_cases hf:z.f=(fk:Int)
   ·refine gsce98_ ?_;clear hs hm a;intros;rename_i a hm hs
    have hse:=hur.set (j*3+1) (.int .i64 0)
    rw[show(ops us).set (j*3+1) (.int .i64 0)=ops (us.set j ⟨z.f,0,z.w⟩)from flat_set OpD.cs 3 OpD.len us j 1 z (.int .i64 0) hz (by omega) ⟨z.f,0,z.w⟩ rfl]at hse
    have hzm:=huf z (List.mem_of_getElem? hz)
    refine⟨⟨j+1,us.set j ⟨z.f,0,z.w⟩,ucs.set (j*3+1) (.int .i64 0)⟩,by dsimp only;omega,by dsimp only;omega,by dsimp only;rw[List.length_set];exact hul,hse,fun y hy=>?_,fun i y hi hy hyf=>?_,(sb_ hs),hm⟩
    ·rcases List.mem_or_eq_of_mem_set hy with hy|rfl
     ·exact huf y hy
     ·exact⟨fun e=>⟨rfl,(hzm.free e).2⟩,fun e=>by
       obtain⟨k',d',e1,e2,e3,e4⟩:=hzm.at_ e
       exact⟨k',d',e1,e2,Int.le_refl _,by dsimp only;omega⟩⟩
    ·by_cases hij:i=j
     ·subst hij
      rw[List.getElem?_set_self (by omega)]at hy
      obtain rfl:=Option.some.inj hy
      rfl
     ·rw[List.getElem?_set_ne (fun h=>hij h.symm)]at hy
      exact hu0 i y (by dsimp only at hi;omega) hy hyf
   ·refine gsce98_ ?_;clear hs hm a;intros;rename_i a hm hs
    refine⟨⟨j+1,us,ucs⟩,by dsimp only;omega,by dsimp only;omega,hul,hur,huf,fun i y hi hy hyf=>?_,(sb_ hs),hm⟩
    by_cases hij:i=j
    ·subst hij
     rw[hz]at hy
     obtain rfl:=Option.some.inj hy
     exact absurd hyf hf
    ·exact hu0 i y (by dsimp only at hi;omega) hy hyf
  ·obtain rfl:j=8:=by omega
   refine gsce98_ ?_;clear hs hm a;intros;rename_i a hm hs
   refine And.intro rfl ⟨_,_,ucs,us,by rw[List.length_set],hrs,fun r hr=>?_,by rw[hul];exact hur,?_,(sb_ hs),hm⟩
   ·rcases List.mem_or_eq_of_mem_set hr with hr|rfl
    ·exact hyo.dd r hr
    ·exact Row.empty 4
   ·have:=FD.cut (f:=fk) hyv us hul huf (fun y hy hyf=>by
     obtain⟨i,hi,rfl⟩:=List.getElem_of_mem hy
     exact hu0 i _ (by omega) (List.getElem?_eq_getElem hi) hyf)
    rw[List.map_set]
    exact this
 clear hs hm a
 rintro a w ⟨dcs',ds',ocs',os',e1,e2,e3,e4,e5,hs,hm⟩
 have hocl:=e4.len
 have hocle:=e4.le
 have h8:os'.length=8:=e5.o
 have hcell:∀q,ds'[fk]?=some q→dcs'[fk]?=some (slv q.A q.xs.length q.c):=fun q hq=>e2.get (by rw[List.getElem?_map,hq];rfl)
 obtain⟨q,hq⟩:∃q,ds'[fk]?=some q:=⟨_,List.getElem?_eq_getElem (by omega)⟩
 replace hcell:=hcell q hq
 have hqd:(ds'.map CO.xs)[fk]?=some q.xs:=by rw[List.getElem?_map,hq];rfl
 have hm3:m=0∨m=1∨m=2:=by omega
 rcases hm3 with rfl|rfl|rfl
 ·skip
  refine gsce98_ ?_;clear hs hm a;intros;rename_i a hm hs
  refine stn hs rfl rfl (d_store hs rfl rfl rfl tab rfl rfl rfl rfl hm rep_ (putG (by show k*3+3≤_;omega))) ?_
  clear hs hm a
  rintro-w hm a hs
  refine gsce98_ ?_;clear hs hm a;intros;rename_i a hm hs
  have hft:OpD.fit ⟨(fk:Int),0,false⟩ (ds'.map CO.xs):=⟨fun e=>absurd e (by dsimp only;omega),fun _=>⟨fk,q.xs,rfl,hqd,by dsimp only;omega,by dsimp only;omega⟩⟩
  exact gRetN tab hs rfl (.cons (.cells rfl rfl rfl rfl (hm.ro (k:=0) (n:=2) (g:=g6) mem_ (cutF_ok rfl))) (.cons (.tmp rfl) .nil)) (hfin dcs' ds' (ocs'.take (k*3)++OpD.cs ⟨fk,0,false⟩++ocs'.drop (k*3+3)) (os'.set k ⟨fk,0,false⟩) k _ (by omega) e1 e2 e3 (by rw[List.length_set];exact ops_splice e4 (by omega) _) (FD.set_os (x:=⟨ds'.map CO.xs,os'⟩) e5 k hft) (hm.sub sub_))
 ·skip
  refine gsce98_ ?_;clear hs hm a;intros;rename_i a hm hs
  refine stn hs rfl rfl (d_store hs rfl rfl rfl tab rfl rfl rfl rfl hm rep_ (putG (by show k*3+3≤_;omega))) ?_
  clear hs hm a
  rintro-w hm a hs
  refine gsce98_ ?_;clear hs hm a;intros;rename_i a hm hs
  have hft:OpD.fit ⟨(fk:Int),0,true⟩ (ds'.map CO.xs):=⟨fun e=>absurd e (by dsimp only;omega),fun _=>⟨fk,q.xs,rfl,hqd,by dsimp only;omega,by dsimp only;omega⟩⟩
  exact gRetN tab hs rfl (.cons (.cells rfl rfl rfl rfl (hm.ro (k:=0) (n:=2) (g:=g6) mem_ (cutF_ok rfl))) (.cons (.tmp rfl) .nil)) (hfin dcs' ds' (ocs'.take (k*3)++OpD.cs ⟨fk,0,true⟩++ocs'.drop (k*3+3)) (os'.set k ⟨fk,0,true⟩) k _ (by omega) e1 e2 e3 (by rw[List.length_set];exact ops_splice e4 (by omega) _) (FD.set_os (x:=⟨ds'.map CO.xs,os'⟩) e5 k hft) (hm.sub sub_))
 ·skip
  refine gsce98_ ?_;clear hs hm a;intros;rename_i a hm hs
  refine stn hs rfl rfl (d_store hs rfl rfl rfl tab rfl rfl rfl rfl hm rep_ (putG (by show k*3+3≤_;omega))) ?_
  clear hs hm a
  rintro-w hm a hs
  have hrC:=ops_splice e4 (k:=k) (by omega) ⟨fk,0,true⟩
  obtain⟨C,hC⟩:∃C,C=ocs'.take (k*3)++OpD.cs ⟨fk,0,true⟩++ocs'.drop (k*3+3):=⟨_,rfl⟩
  rw[←hC]at hrC
  replace hm:Mm (fun _=>False) wB (⟨some g8,78,[slv (some gd) ds.length dc,slv (some go) 8 oc]⟩::⟨some g6,78,[nS,nS]⟩::⟨some gd,93,dcs'⟩::⟨some go,212,C⟩::ds'.map CO.hp) w:=by rw[hC];exact hm
  have hCl:=hrC.len
  refine gsce98_ ?_;clear hs hm a;intros;rename_i a hm hs
  refine cMid (fun a w=>Sl Tryz.f134.ntmps [(1,.int .i64 (fk:Int)),(2,.int .i64 2),(3,pt g3),(6,pt g6),(8,pt g8),(9,.int .i64 (k:Int))] a∧Mm (fun _=>False) wB (⟨some g8,78,[slv (some gd) ds.length dc,slv (some go) 8 oc]⟩::⟨some g6,78,[nS,nS]⟩::⟨some gd,93,dcs'⟩::⟨some go,212,C.set (k*3+1) (.int .i64 (q.xs.length:Int))⟩::ds'.map CO.hp) w) ?_ ?_
  ·with_reducible repeat(first|apply gThen|apply wp_seq)
   refine cDrawT (n:=12) (.s [0,1,2,3,4,5,6,7,8,9,10]<| .o 11<| .d) [⟨some g8,78,[slv (some gd) ds.length dc,slv (some go) 8 oc]⟩,⟨some gd,93,dcs'⟩] hm rfl rfl ?_
   clear hm;intro t_ w1_ hm
   repeat' (first|(refine dgSgy0_ ?_;clear t_ hs hm a;intros;rename_i a hm hs t_)|refine tE t_ ?_|refine tC ?_ ?_|exact tN|intro t_|(refine tD t_ ?_;(exact And.intro rfl ⟨(sb_ hs),hm⟩))|fail)
  clear hs hm a
  rintro a w ⟨hs,hm⟩
  refine gsce98_ ?_;clear hs hm a;intros;rename_i a hm hs
  have hft:OpD.fit ⟨(fk:Int),(q.xs.length:Int),true⟩ (ds'.map CO.xs):=⟨fun e=>absurd e (by dsimp only;omega),fun _=>⟨fk,q.xs,rfl,hqd,by dsimp only;omega,by dsimp only;omega⟩⟩
  have hse:=hrC.set (k*3+1) (.int .i64 (q.xs.length:Int))
  rw[show(ops (os'.set k ⟨fk,0,true⟩)).set (k*3+1) (.int .i64 (q.xs.length:Int))=ops ((os'.set k ⟨fk,0,true⟩).set k ⟨fk,q.xs.length,true⟩)from flat_set OpD.cs 3 OpD.len _ k 1 ⟨fk,0,true⟩ (.int .i64 (q.xs.length:Int)) (List.getElem?_set_self (by omega)) (by omega) ⟨fk,q.xs.length,true⟩ rfl,List.set_set]at hse
  exact gRetN tab hs rfl (.cons (.cells rfl rfl rfl rfl (hm.ro (k:=0) (n:=2) (g:=g6) mem_ (cutF_ok rfl))) (.cons (.tmp rfl) .nil)) (hfin dcs' ds' (C.set (k*3+1) (.int .i64 (q.xs.length:Int))) (os'.set k ⟨fk,q.xs.length,true⟩) k _ (by omega) e1 e2 e3 (by rw[List.length_set];exact hse) (FD.set_os (x:=⟨ds'.map CO.xs,os'⟩) e5 k hft) (hm.sub sub_))
theorem gcSgz0_{G H:Prop}(k:H)(s:Bx H→G:=by intro k_;(repeat(first|(refine oqa646_ ?_;(try clear hs a);intro a hs)|((with_reducible apply lCons);first|(refine dv hs gw_ rfl rfl da_ ?_;(try clear hs hm a);rintro _ w_ ⟨g_,rfl,-,hm⟩ a hs)|(refine stn hs rfl rfl ds_ ?_;(try clear hs hm a);rintro-w_ hm a hs))|((with_reducible apply qNil);(try clear hm);intro w_ hm)|refine cQ_ ?_|refine sc_ ?_|((with_reducible apply lCons);first|(refine dvc hs hm gw_ rfl rfl rfl rfl rfl (pl 141 rfl) (k2 _ hm.fr) ?_;(try clear hs hm a);intro w_ hm a hs))|((with_reducible apply qCons);first|(refine qwc hs gw_ rfl rfl rfl rfl rfl (pl 141 rfl) (fun w hm=>k2 _ hm.fr) ?_;(try clear hs a);intro a hs))));(first|(have m_:=hm;have s_:=hs;clear hs;(try clear hm);revert m_ s_ a)|((first|refine rexc_ hs hm ?_|refine rexl_ hs hm ?_|refine rexg_ hs hm ?_|refine rexq_ hs hm ?_);intro a hm hs;revert hm hs a));(try revert w_);(repeat revert g_);exact k_.h):G:=s ⟨k⟩
theorem dgSgz1_{G H:Prop}(k:H)(s:Bx H→G:=by intro k_;(repeat(first|(refine tTake t_ hs rfl (by kernel_rfl) gw_ rfl rfl (by intro w hm;replace hm:Mm _ _ _ w:=hm;(first|exact kvR_|exact r_min hs rfl rfl rfl|exact kb2_|exact ksl_|exact r_sliceGN hs rfl rfl rfl rfl tab rfl rfl rfl (by omega) (by omega)|exact r_loadO hs rfl rfl tab rfl rfl rfl hm (by repeat(first|exact mH|apply mT)) (by assumption))) (hm.sub sub_) ?_;(try clear t_ hs a);intro t_ a hs)|(refine tTakeN t_ hs rfl (by kernel_rfl) rfl rfl rfl rfl rfl rfl rfl (hm.sub sub_) ?_;(try clear t_ hs a);intro t_ a hs)|(refine tTakeU t_ hs rfl (by kernel_rfl) rfl rfl rfl rfl rfl rfl (hm.sub sub_) ?_;(try clear t_ hs a);intro t_ a hs)|(refine tE1 t_ ?_;(try clear t_);intro t_)|(refine nx_ t_ rfl ?_;have t_:=t_;first|(refine oDo hs rfl gw_ rfl rfl da_ ?_;(try clear hs hm a);rintro _ w_ ⟨g_,rfl,-,hm⟩ a hs;refine⟨(hm.sub sub_),?_⟩)|(refine oDoN hs rfl gw_ rfl ds_ ?_;(try clear hs hm a);rintro-w_ hm a hs;refine⟨(hm.sub sub_),?_⟩)|(refine oDoV hs rfl gw_ rfl rfl (by(first|exact klR_|exact r_loadO hs rfl rfl tab rfl rfl rfl hm (by repeat(first|exact mH|apply mT)) (by assumption))) ?_;(try clear hs a);intro a hs;refine⟨(hm.sub sub_),?_⟩))));have y_:=t_;clear t_;(first|(have m_:=hm;have s_:=hs;have z_:=y_;clear hs;(try clear hm);revert m_ s_ z_ a)|((first|refine rexd_ hs hm ?_|refine rexb_ hs hm ?_);intro a hm hs;have z_:=y_;revert hm hs z_ a));(try revert w_);(repeat revert g_);exact k_.h):G:=s ⟨k⟩
section
variable {P:Program} {T:List (Nat × TI)} {N:Nat} {L:List (Nat × Value)} {a:Act} {w:World} {o:Oper} {x y z:Operand} {t e:TypeId} {i j:TI} {A:Option Addr} {n c:Nat} {k k2:IntKind}
theorem r_sliceG{l h:Int}(hs:Sl N L a)(ho:o.op= .slice t x (some y) (some z) none)(hx:ev L x=some (.slice A n c))(hy:ev L y=some (.int k l))(hz:ev L z=some (.int k2 h))(hT:TabOk P T)(hc:tlk T t=some i)(hd:i.d= .sl e)(he:tlk T e=some j)(h0:0≤l)(h1:l≤h)(h2:h≤c):RunV P a o w (.slice (if c=l.toNat then A else A.map (·.add (l.toNat*j.sz))) (h.toNat-l.toNat) (c-l.toNat)):=by
 replace hx:=hs.ev hx;replace hy:=hs.ev hy;replace hz:=hs.ev hz
 have e2:0≤h:=by omega
 have e4:=run_sliceBound (P:=P) (w:=w) k l h.toNat BoundsCode.sliceB h0 (by omega)
 unfold RunV execOp
 simp[ho,hx,hy,hz,Instr.sliceAt,Instr.slice,run_und ((hT _ _ hc).sl hd),Instr.sliceBounds,run_sliceBound,h0,h2,e2,e4,run_sizeOf (hT _ _ he)]
theorem r_sliceGN{l h:Nat}(hs:Sl N L a)(ho:o.op= .slice t x (some y) (some z) none)(hx:ev L x=some (.slice A n c))(hy:ev L y=some (.int k (l:Int)))(hz:ev L z=some (.int k2 (h:Int)))(hT:TabOk P T)(hc:tlk T t=some i)(hd:i.d= .sl e)(he:tlk T e=some j)(h1:l≤h)(h2:h≤c):RunV P a o w (.slice (if c=l then A else A.map (·.add (l*j.sz))) (h-l) (c-l)):=
 r_sliceG hs ho hx hy hz hT hc hd he (Int.natCast_nonneg l) (by omega) (by omega)
end
theorem flat_cut{α:Type}{f:α→List Value}{s:Nat}(hs:∀a,(f a).length=s){xs:List α}{o k j:Nat}{v:Value}(hok:o≤xs.length)(h:(((xs.drop o).take k).flatMap f)[j]?=some v):(xs.flatMap f)[o*s+j]?=some v:=by
 have e:xs.flatMap f=(xs.take o).flatMap f++(((xs.drop o).take k).flatMap f++((xs.drop o).drop k).flatMap f):=by
  rw[←List.flatMap_append,List.take_append_drop,←List.flatMap_append,List.take_append_drop]
 have hl:((xs.take o).flatMap f).length=o*s:=by rw[flat_len f s hs,List.length_take,Nat.min_eq_left hok]
 have hj:=(List.getElem?_eq_some_iff.1 h).1
 rw[e,List.getElem?_append_right (by omega),hl,Nat.add_sub_cancel_left,List.getElem?_append_left hj]
 exact h
theorem rd_cut{α:Type}{f:α→List Value}{s:Nat}(hs:∀a,(f a).length=s){w:World}{B:Nat}{A:Option Addr}{xs:List α}(h:Rd w B A (xs.flatMap f)){o k c:Nat}(hok:o+k≤xs.length)(hc:xs.length≤c):Rd w B (if c=o then A else A.map (·.add (o*s))) (((xs.drop o).take k).flatMap f):=fun h0=>by
 have hk:0<k:=by
  rcases Nat.eq_zero_or_pos k with rfl|hk
  ·simp at h0
  ·exact hk
 have hl:0<(xs.flatMap f).length:=by
  have:=flat_cut (k:=k) hs (show o≤xs.length by omega) (List.getElem?_eq_getElem h0)
  exact Nat.lt_of_le_of_lt (Nat.zero_le _) (List.getElem?_eq_some_iff.1 this).1
 obtain⟨b,off,rfl,hb,hr⟩:=h.ro hl
 refine⟨b,off+o*s,?_,hb,fun j v hj=>?_⟩
 ·rw[if_neg (by omega)]
  simp[Addr.add]
 ·rw[Nat.add_assoc]
  exact hr _ v (flat_cut hs (by omega) hj)
theorem CO.mem_hp{l:List CO}{k:Nat}{q:CO}(h:l[k]?=some q):q.hp∈l.map CO.hp:=List.mem_map.2 ⟨q,List.mem_of_getElem? h,rfl⟩
theorem fread_c(x:FV)(h n:Int)(wB:World)(hx:x.ok wB)(hv:x.d'.val):Ret Tryz.prog 133 [x.v,.int .i64 h,.int .i64 n] wB (fun u w'=>∃(y:FV)(l:CnS)(b:Bool)(R:List Hp),u= .tuple #[y.v,l.v,.bool b]∧On R y.ok∧On R l.ok∧New wB w' R∧y.d'.val∧(∀c∈l.xs,c.val)∧l.xs.length≤64∧(l.xs.length:Int)≤max 0 n∧Pu wB w'):=by
 have hn:=hv.n
 rw[FV.len_]at hn
 have ho:x.os.length=8:=hv.o
 have k1:=fun w'' (hf:Pu wB w'')=>fcp_c x w'' (hx.pu hf) (by omega) (by omega) (fun q hq=>by have:=(hv.d _ (FV.mem_ hq)).1;omega)
 have k2:=fun w'' (hf:Pu wB w'')=>open_c x h w'' (hx.pu hf) (by omega)
 have hro:=hx.o
 obtain⟨b1,o1,hA,hb1,r1⟩:=hro.ro (by rw[ops_len];omega)
 unfold FV.v at k1 k2 ⊢
 rw[hA,ho]at k1 k2 ⊢
 refine enterR Tryz.func133 rfl rfl rfl fun a hs hm=>?_
 refine gs76db_ ?_;clear hs hm a;intros;rename_i a hm hs
 obtain⟨g3,rfl⟩:=hs.pp 3
 obtain⟨g6,rfl⟩:=hs.pp 6
 refine st hs rfl rfl rfl (d_call hs rfl rfl rfl (pl 104 rfl) ((k1 _ hm.fr))) ?_;clear hs a;rintro _ w1 ⟨y,rfl,hyo,hyd,hyn,hN,hf⟩ a hs
 replace hm:=gainE hm hf hN
 clear hN hf k1
 have hyv:y.d'.val:=hyd▸hv
 have hyos:y.os=x.os:=congrArg FD.os hyd
 have hyds:y.ds.map CO.xs=x.d'.ds:=congrArg FD.ds hyd
 obtain⟨dA,dc,dcs,ds,oA,oc,ocs,os⟩:=y
 unfold FO.v at hs
 unfold FO.hps at hm
 have hos8:os.length=8:=hyv.o
 simp only[List.cons_append,List.nil_append]at hm
 dsimp only at hs hm hyn hyos hyds
 have hor:=hyo.o
 have hdr:=hyo.d
 dsimp only at hor hdr
 obtain⟨go,rfl⟩:=hor.some_ (by omega)
 rw[hos8]at hs
 have hocl:=hor.len
 have hocle:=hor.le
 have hfin:∀(ocs':List Value)(os':List OpD)(lA:Option Nat)(lc:Nat)(lcs:List Value)(l:List CN)(b:Bool)(w':World),Row (some go) os'.length oc 3 (ops os') ocs'→FD.val ⟨ds.map CO.xs,os'⟩→Mm (fun _=>False) wB (⟨lA,95,lcs⟩::⟨dA,93,dcs⟩::⟨some go,212,ocs'⟩::ds.map CO.hp) w'→Row lA l.length lc 4 (cns l) lcs→(∀c∈l,c.val)→l.length≤64→(l.length:Int)≤max 0 n→∃(y:FV)(l':CnS)(b':Bool)(R:List Hp),Value.tuple #[.agg #[slv dA ds.length dc,slv (some go) 8 oc],slv lA l.length lc,.bool b]= .tuple #[y.v,l'.v,.bool b']∧On R y.ok∧On R l'.ok∧New wB w' R∧y.d'.val∧(∀c∈l'.xs,c.val)∧l'.xs.length≤64∧(l'.xs.length:Int)≤max 0 n∧Pu wB w':=
  fun ocs' os' lA lc lcs l b w' h1 h2 h3 h4 h5 h6 h7=>⟨FO.rd ⟨dA,dc,dcs,ds,some go,oc,ocs',os'⟩,CO.rd ⟨lA,lc,lcs,l⟩,b,⟨lA,95,lcs⟩::FO.hps ⟨dA,dc,dcs,ds,some go,oc,ocs',os'⟩,by
   have h8:os'.length=8:=h2.o
   rw[FO.rd_v]
   unfold FO.v
   dsimp only
   rw[h8]
   rfl,(FO.on (y:=⟨dA,dc,dcs,ds,some go,oc,ocs',os'⟩) ⟨hyo.d,h1,hyo.dd⟩).more (fun _ h=>List.mem_cons_of_mem _ h),(CO.on (r:=⟨lA,lc,lcs,l⟩) h4).more (fun _ h=>by rcases List.mem_singleton.1 h with rfl;exact List.mem_cons_self ..),h3.new (List.Sublist.refl _),by rw[FO.rd_d];exact h2,h5,h6,h7,h3.fr⟩
 cases hb:opnB x.os h
 ·rw[hb]at k2
  refine gcSgz0_ ?_;clear hs hm a;intros;rename_i a hm hs
  exact gRetN tab hs rfl (.cons (.cells rfl rfl rfl rfl (hm.ro (k:=0) (n:=2) (g:=g6) mem_ (cutF_ok rfl))) (.cons (.tmp rfl) (.cons (.tmp rfl) .nil))) (hfin ocs os none 0 [] [] false _ hor hyv ((hm.zero 95).sub sub_) (Row.empty 4) (fun c hc=>by cases hc) (Nat.zero_le _) (by show((0:Nat):Int)≤_;omega))
 rw[hb]at k2
 obtain⟨k,z,rfl,hk,hz⟩:=opnB_t hb
 have hkl:=(List.getElem?_eq_some_iff.1 hk).1
 have r2:=r1.flat OpD.len hkl
 rw[(List.getElem?_eq_some_iff.1 hk).2]at r2
 unfold OpD.cs at r2
 by_cases hn0:0≤n
 rotate_left
 ·refine gcSgz0_ ?_;clear hs hm a;intros;rename_i a hm hs
  exact gRetN tab hs rfl (.cons (.cells rfl rfl rfl rfl (hm.ro (k:=0) (n:=2) (g:=g6) mem_ (cutF_ok rfl))) (.cons (.tmp rfl) (.cons (.tmp rfl) .nil))) (hfin ocs os none 0 [] [] false _ hor hyv ((hm.zero 95).sub sub_) (Row.empty 4) (fun c hc=>by cases hc) (Nat.zero_le _) (by show((0:Nat):Int)≤_;omega))
 cases hw:z.w
 rotate_left
 ·rw[hw]at r2
  refine gcSgz0_ ?_;clear hs hm a;intros;rename_i a hm hs
  exact gRetN tab hs rfl (.cons (.cells rfl rfl rfl rfl (hm.ro (k:=0) (n:=2) (g:=g6) mem_ (cutF_ok rfl))) (.cons (.tmp rfl) (.cons (.tmp rfl) .nil))) (hfin ocs os none 0 [] [] false _ hor hyv ((hm.zero 95).sub sub_) (Row.empty 4) (fun c hc=>by cases hc) (Nat.zero_le _) (by show((0:Nat):Int)≤_;omega))
 rw[hw]at r2
 obtain⟨j,d,hzf,hd,f3,f4⟩:=(hv.fit z (List.mem_of_getElem? hk)).at_ hz
 rw[←hyds]at hd
 obtain⟨q,hq,hqd⟩:∃q,ds[j]?=some q∧q.xs=d:=by
  rw[List.getElem?_map]at hd
  cases hx:ds[j]? with
  |none=>rw[hx]at hd;cases hd
  |some q=>rw[hx]at hd;exact⟨q,rfl,Option.some.inj hd⟩
 subst hqd
 have hjl:=(List.getElem?_eq_some_iff.1 hq).1
 obtain⟨gd,rfl⟩:=hdr.some_ (by omega)
 have hks:os[k]?=some z:=by rw[hyos];exact hk
 have hg:∀i v,i<3→z.cs[i]?=some v→ocs[k*3+i]?=some v:=fun i v hi hv=>hor.get (by rw[show ops os=os.flatMap OpD.cs from rfl,flat_get OpD.cs 3 OpD.len os k i (by omega) hi,(List.getElem?_eq_some_iff.1 hks).2];exact hv)
 obtain⟨o,hzo⟩:∃o:Nat,z.o=(o:Int):=⟨z.o.toNat,by omega⟩
 have hg0:=hg 0 (.int .i64 (j:Int)) (by omega) (by rw[←hzf];rfl)
 have hg1:=hg 1 (.int .i64 (o:Int)) (by omega) (by rw[←hzo];rfl)
 have hdc:dcs[j]?=some (slv q.A q.xs.length q.c):=hdr.get (by rw[List.getElem?_map,hq];rfl)
 have hqok:=hyo.dd q (List.mem_of_getElem? hq)
 have hqle:q.xs.length≤q.c:=Row.le hqok
 rw[hzo]at f4
 obtain⟨hq64,hqval⟩:=hyv.d q.xs (List.mem_map.2 ⟨q,List.mem_of_getElem? hq,rfl⟩)
 obtain⟨kk,hkk⟩:∃kk:Nat,min n ((q.xs.length:Int)-(o:Int))=(kk:Int):=⟨(min n ((q.xs.length:Int)-(o:Int))).toNat,by omega⟩
 have haddr:(o:Int)+(kk:Int)=((o+kk:Nat):Int):=by omega
 have hqR:=CO.mem_hp hq
 generalize hR:ds.map CO.hp=R at hm hqR hfin
 refine gcSgz0_ ?_;clear hs hm a;intros;rename_i a hm hs
 obtain⟨g9,rfl⟩:=hs.pp 9
 rw[hkk]at hs
 refine cMid (fun a w=>∃(lA:Option Nat)(lc:Nat)(lcs:List Value),Row lA kk lc 4 (cns ((q.xs.drop o).take kk)) lcs∧Sl Tryz.f133.ntmps [(6,pt g6),(9,pt g9),(10,.pointer (some ⟨go,k*3,none⟩)),(12,.int .i64 (kk:Int)),(13,slv lA kk lc)] a∧Mm (fun _=>False) wB (⟨lA,95,lcs⟩::⟨some g9,78,[slv (some gd) ds.length dc,slv (some go) 8 oc]⟩::⟨some g6,78,[nS,nS]⟩::⟨some gd,93,dcs⟩::⟨some go,212,ocs⟩::R) w) ?_ ?_
 ·with_reducible repeat(first|apply gThen|apply wp_seq)
  refine cDrawT (n:=14) (.s [0,1,2,3,4,5,6,7,8,9,10,11]<| .o 12<| .x<| .t 13<| .d) [⟨some go,212,ocs⟩] hm rfl rfl ?_
  clear hm;intro t_ w1_ hm
  repeat' (first|(refine dgSgz1_ ?_;clear t_ hs hm a;intros;rename_i a hm hs t_)|refine tE t_ ?_|refine tC ?_ ?_|exact tN|intro t_|(refine oDo (i:=12) hs rfl (Wnt.none rfl) rfl rfl (by exact d_appendS (A:=none) (n:=0) (c:=0) (xs:=[]) (m:=o+kk-o) (news:=cns ((q.xs.drop o).take kk)) hs rfl rfl rfl rfl tab rfl rfl rfl rfl rfl (hm.zero 95) mem_ (Row.empty 4) (by rw[cns_len,List.length_take,List.length_drop];show _=_*4;omega) (rd_cut CN.cs_len (hm.rd_row (by repeat(first|exact hqR|apply List.mem_cons_of_mem)) hqok) (by omega) hqle) (cns_one _) (by show(0+(o+kk-o))*24≤_;omega) (by omega)) ?_;clear hs;rintro _ w1 ⟨rA,rc,rcs,rfl,hrr,hM⟩ a hs;(replace hm:=hM _ rep_);(clear hM);(rw[Nat.zero_add,Nat.add_sub_cancel_left,List.nil_append]at hrr);(rw[Nat.zero_add,Nat.add_sub_cancel_left]at hs);replace t_:=tX t_;refine⟨(hm.sub sub_),?_⟩)|(refine tD t_ ?_;(exact And.intro rfl ⟨rA,rc,rcs,hrr,(sb_ hs),hm.sub sub_⟩))|fail)
 clear hs hm a
 rintro a w ⟨lA,lc,lcs,hlr,hs,hm⟩
 refine gs76db_ ?_;clear hs hm a;intros;rename_i a hm hs
 have hse:=hor.set (k*3+1) (.int .i64 ((o+kk:Nat):Int))
 rw[show(ops os).set (k*3+1) (.int .i64 ((o+kk:Nat):Int))=ops (os.set k ⟨z.f,((o+kk:Nat):Int),z.w⟩)from flat_set OpD.cs 3 OpD.len os k 1 z (.int .i64 ((o+kk:Nat):Int)) hks (by omega) ⟨z.f,((o+kk:Nat):Int),z.w⟩ rfl]at hse
 have hft:OpD.fit ⟨z.f,((o+kk:Nat):Int),z.w⟩ (ds.map CO.xs):=⟨fun e=>absurd e hz,fun _=>⟨j,q.xs,hzf,hd,by dsimp only;omega,by dsimp only;omega⟩⟩
 have hll:((q.xs.drop o).take kk).length=kk:=by rw[List.length_take,List.length_drop];omega
 have hfin':=hfin (ocs.set (k*3+1) (.int .i64 ((o+kk:Nat):Int))) (os.set k ⟨z.f,((o+kk:Nat):Int),z.w⟩) lA lc lcs ((q.xs.drop o).take kk) true _ (by rw[List.length_set];exact hse) (FD.set_os (x:=⟨ds.map CO.xs,os⟩) hyv k hft) (hm.sub sub_) (by rw[hll];exact hlr) (fun c hc=>hqval c (List.mem_of_mem_drop (List.mem_of_mem_take hc))) (by rw[hll];omega) (by rw[hll];omega)
 rw[hll]at hfin'
 exact gRetN tab hs rfl (.cons (.cells rfl rfl rfl rfl (hm.ro (k:=0) (n:=2) (g:=g6) mem_ (cutF_ok rfl))) (.cons (.tmp rfl) (.cons (.tmp rfl) .nil))) hfin'
theorem gcSha0_{G H:Prop}(k:H)(s:Bx H→G:=by intro k_;(repeat(first|(refine oq227d_ ?_;(try clear hs a);intro a hs)|((with_reducible apply lCons);first|(refine dv hs gw_ rfl rfl da_ ?_;(try clear hs hm a);rintro _ w_ ⟨g_,rfl,-,hm⟩ a hs)|(refine stn hs rfl rfl ds_ ?_;(try clear hs hm a);rintro-w_ hm a hs))|((with_reducible apply qNil);(try clear hm);intro w_ hm)|refine cQ_ ?_|refine sc_ ?_|((with_reducible apply lCons);first|(refine dvc hs hm gw_ rfl rfl rfl rfl rfl (pl 141 rfl) (k2 _ hm.fr) ?_;(try clear hs hm a);intro w_ hm a hs))|((with_reducible apply qCons);first|(refine qwc hs gw_ rfl rfl rfl rfl rfl (pl 141 rfl) (fun w hm=>k2 _ hm.fr) ?_;(try clear hs a);intro a hs))));(first|(have m_:=hm;have s_:=hs;clear hs;(try clear hm);revert m_ s_ a)|((first|refine rexc_ hs hm ?_|refine rexl_ hs hm ?_|refine rexg_ hs hm ?_|refine rexq_ hs hm ?_);intro a hm hs;revert hm hs a));(try revert w_);(repeat revert g_);exact k_.h):G:=s ⟨k⟩
theorem gpSha1_{G H:Prop}(k:H)(s:Bx H→G:=by intro k_;(repeat(first|(refine oq227d_ ?_;(try clear hs a);intro a hs)|((with_reducible apply lCons);first|(refine dv hs gw_ rfl rfl da_ ?_;(try clear hs hm a);rintro _ w_ ⟨g_,rfl,-,hm⟩ a hs)|(refine stn hs rfl rfl ds_ ?_;(try clear hs hm a);rintro-w_ hm a hs))|((with_reducible apply qNil);(try clear hm);intro w_ hm)|refine cQ_ ?_|refine sc_ ?_));have m_:=hm;have s_:=hs;clear hs;(try clear hm);revert m_ s_ a;(try revert w_);(repeat revert g_);exact k_.h):G:=s ⟨k⟩
theorem dgSha2_{G H:Prop}(k:H)(s:Bx H→G:=by intro k_;(repeat(first|(refine tTake t_ hs rfl (by kernel_rfl) gw_ rfl rfl (by intro w hm;replace hm:Mm _ _ _ w:=hm;(first|exact kvR_|exact r_min hs rfl rfl rfl|exact r_loadO hs rfl rfl tab rfl rfl rfl hm (by repeat(first|exact mH|apply mT)) (by assumption))) (hm.sub sub_) ?_;(try clear t_ hs a);intro t_ a hs)|(refine tTakeN t_ hs rfl (by kernel_rfl) rfl rfl rfl rfl rfl rfl rfl (hm.sub sub_) ?_;(try clear t_ hs a);intro t_ a hs)|(refine tTakeU t_ hs rfl (by kernel_rfl) rfl rfl rfl rfl rfl rfl (hm.sub sub_) ?_;(try clear t_ hs a);intro t_ a hs)|(refine tE1 t_ ?_;(try clear t_);intro t_)|(refine nx_ t_ rfl ?_;have t_:=t_;first|(refine oDo hs rfl gw_ rfl rfl da_ ?_;(try clear hs hm a);rintro _ w_ ⟨g_,rfl,-,hm⟩ a hs;refine⟨(hm.sub sub_),?_⟩)|(refine oDoN hs rfl gw_ rfl ds_ ?_;(try clear hs hm a);rintro-w_ hm a hs;refine⟨(hm.sub sub_),?_⟩)|(refine oDoV hs rfl gw_ rfl rfl (by(first|exact klR_|exact r_loadO hs rfl rfl tab rfl rfl rfl hm (by repeat(first|exact mH|apply mT)) (by assumption))) ?_;(try clear hs a);intro a hs;refine⟨(hm.sub sub_),?_⟩))));have y_:=t_;clear t_;(first|(have m_:=hm;have s_:=hs;have z_:=y_;clear hs;(try clear hm);revert m_ s_ z_ a)|((first|refine rexd_ hs hm ?_|refine rexb_ hs hm ?_);intro a hm hs;have z_:=y_;revert hm hs z_ a));(try revert w_);(repeat revert g_);exact k_.h):G:=s ⟨k⟩
structure FwX where
 i:Nat
 A:Option Nat
 c:Nat
 cs:List Value
 xs:List CN
theorem CO.val_set{ds:List CO}{j:Nat}{q r:CO}{os:List OpD}(h:FD.val ⟨ds.map CO.xs,os⟩)(hq:ds[j]?=some q) (hl:q.xs.length≤r.xs.length) (h64:r.xs.length≤64) (hv:∀c∈r.xs,c.val):FD.val ⟨(ds.set j r).map CO.xs,os⟩:=⟨by have:=h.n;dsimp only at this ⊢;rw[List.length_map]at this ⊢;rw[List.length_set];exact this,h.o,fun d hd=>by
 obtain⟨y,hy,rfl⟩:=List.mem_map.1 hd
 rcases List.mem_or_eq_of_mem_set hy with hy|rfl
 ·exact h.d _ (List.mem_map.2 ⟨y,hy,rfl⟩)
 ·exact⟨h64,hv⟩,fun y hy=>⟨(h.fit y hy).free,fun e=>by
  obtain⟨k,d,h1,h2,h3,h4⟩:=(h.fit y hy).at_ e
  dsimp only at h2 ⊢
  rw[List.getElem?_map]at h2
  by_cases hk:j=k
  ·subst hk
   rw[hq]at h2
   obtain rfl:=Option.some.inj h2
   exact⟨j,r.xs,h1,by rw[List.getElem?_map,List.getElem?_set_self (List.getElem?_eq_some_iff.1 hq).1];rfl,h3,by omega⟩
  ·exact⟨k,d,h1,by rw[List.getElem?_map,List.getElem?_set_ne hk];exact h2,h3,h4⟩⟩⟩
theorem fwrt_c(x:FV)(h:Int)(l:CnS)(wB:World)(hx:x.ok wB)(hv:x.d'.val)(hl:l.ok wB)(hlv:∀c∈l.xs,c.val)(hln:l.xs.length≤1000):Ret Tryz.prog 132 [x.v,.int .i64 h,l.v] wB (fun u w'=>∃(y:FV)(n:Int)(b:Bool)(R:List Hp),u= .tuple #[y.v,.int .i64 n,.bool b]∧On R y.ok∧New wB w' R∧y.d'.val∧0≤n∧n≤1000∧Pu wB w'):=by
 have hn:=hv.n
 rw[FV.len_]at hn
 have ho:x.os.length=8:=hv.o
 have k1:=fun w'' (hf:Pu wB w'')=>fcp_c x w'' (hx.pu hf) (by omega) (by omega) (fun q hq=>by have:=(hv.d _ (FV.mem_ hq)).1;omega)
 have k3:=fun w'' (hf:Pu wB w'')=>ccls_c l (l.xs.length:Int) w'' (hl.pu hf) hlv (by omega) (by omega)
 have k2:=fun w'' (hf:Pu wB w'')=>open_c x h w'' (hx.pu hf) (by omega)
 have hro:=hx.o
 obtain⟨b1,o1,hA,hb1,r1⟩:=hro.ro (by rw[ops_len];omega)
 unfold FV.v at k1 k2 ⊢
 unfold CnS.v at k3 ⊢
 rw[hA,ho]at k1 k2 ⊢
 refine enterR Tryz.func132 rfl rfl rfl fun a hs hm=>?_
 refine gs575d_ ?_;clear hs hm a;intros;rename_i a hm hs
 obtain⟨g3,rfl⟩:=hs.pp 3
 obtain⟨g6,rfl⟩:=hs.pp 6
 refine st hs rfl rfl rfl (d_call hs rfl rfl rfl (pl 104 rfl) ((k1 _ hm.fr))) ?_;clear hs a;rintro _ w1 ⟨y,rfl,hyo,hyd,hyn,hN,hf⟩ a hs
 replace hm:=gainE hm hf hN
 clear hN hf k1
 have hyv:y.d'.val:=hyd▸hv
 have hyos:y.os=x.os:=congrArg FD.os hyd
 have hyds:y.ds.map CO.xs=x.d'.ds:=congrArg FD.ds hyd
 obtain⟨dA,dc,dcs,ds,oA,oc,ocs,os⟩:=y
 unfold FO.v at hs
 unfold FO.hps at hm
 have hos8:os.length=8:=hyv.o
 simp only[List.cons_append,List.nil_append]at hm
 dsimp only at hs hm hyn hyos hyds
 have hor:=hyo.o
 have hdr:=hyo.d
 dsimp only at hor hdr
 obtain⟨go,rfl⟩:=hor.some_ (by omega)
 rw[hos8]at hs
 have hocl:=hor.len
 have hocle:=hor.le
 have hfin:∀(dcs':List Value)(ds':List CO)(ocs':List Value)(os':List OpD)(n:Int)(b:Bool)(w':World),ds'.length=ds.length→Row dA ds.length dc 1 (ds'.map CO.v) dcs'→(∀r∈ds',r.ok)→Row (some go) os'.length oc 3 (ops os') ocs'→FD.val ⟨ds'.map CO.xs,os'⟩→Mm (fun _=>False) wB (⟨dA,93,dcs'⟩::⟨some go,212,ocs'⟩::ds'.map CO.hp) w'→0≤n∧n≤1000→∃(y:FV)(n':Int)(b':Bool)(R:List Hp),Value.tuple #[.agg #[slv dA ds.length dc,slv (some go) 8 oc],.int .i64 n,.bool b]= .tuple #[y.v,.int .i64 n',.bool b']∧On R y.ok∧New wB w' R∧y.d'.val∧0≤n'∧n'≤1000∧Pu wB w':=
  fun dcs' ds' ocs' os' n b w' hl' h0 h00 h1 h2 h3 hn=>⟨FO.rd ⟨dA,dc,dcs',ds',some go,oc,ocs',os'⟩,n,b,_,by
   have h8:os'.length=8:=h2.o
   rw[FO.rd_v]
   unfold FO.v
   dsimp only
   rw[h8,hl'],FO.on ⟨by dsimp only;rw[hl'];exact h0,h1,h00⟩,h3.new (List.Sublist.refl _),by rw[FO.rd_d];exact h2,hn.1,hn.2,h3.fr⟩
 cases hb:opnB x.os h
 ·rw[hb]at k2
  refine gcSha0_ ?_;clear hs hm a;intros;rename_i a hm hs
  exact gRetN tab hs rfl (.cons (.cells rfl rfl rfl rfl (hm.ro (k:=0) (n:=2) (g:=g6) mem_ (cutF_ok rfl))) (.cons (.tmp rfl) (.cons (.tmp rfl) .nil))) (hfin dcs ds ocs os 0 false _ rfl hdr hyo.dd hor hyv (hm.sub sub_) (by omega))
 rw[hb]at k2
 obtain⟨k,z,rfl,hk,hz⟩:=opnB_t hb
 have hkl:=(List.getElem?_eq_some_iff.1 hk).1
 have r2:=r1.flat OpD.len hkl
 rw[(List.getElem?_eq_some_iff.1 hk).2]at r2
 unfold OpD.cs at r2
 cases hw:z.w
 ·rw[hw]at r2
  refine gcSha0_ ?_;clear hs hm a;intros;rename_i a hm hs
  exact gRetN tab hs rfl (.cons (.cells rfl rfl rfl rfl (hm.ro (k:=0) (n:=2) (g:=g6) mem_ (cutF_ok rfl))) (.cons (.tmp rfl) (.cons (.tmp rfl) .nil))) (hfin dcs ds ocs os 0 false _ rfl hdr hyo.dd hor hyv (hm.sub sub_) (by omega))
 rw[hw]at r2
 obtain⟨j,d,hzf,hd,f3,f4⟩:=(hv.fit z (List.mem_of_getElem? hk)).at_ hz
 rw[←hyds]at hd
 obtain⟨q,hq,hqd⟩:∃q,ds[j]?=some q∧q.xs=d:=by
  rw[List.getElem?_map]at hd
  cases hx:ds[j]? with
  |none=>rw[hx]at hd;cases hd
  |some q=>rw[hx]at hd;exact⟨q,rfl,Option.some.inj hd⟩
 subst hqd
 have hjl:=(List.getElem?_eq_some_iff.1 hq).1
 obtain⟨gd,rfl⟩:=hdr.some_ (by omega)
 have hks:os[k]?=some z:=by rw[hyos];exact hk
 have hg:∀i v,i<3→z.cs[i]?=some v→ocs[k*3+i]?=some v:=fun i v hi hv=>hor.get (by rw[show ops os=os.flatMap OpD.cs from rfl,flat_get OpD.cs 3 OpD.len os k i (by omega) hi,(List.getElem?_eq_some_iff.1 hks).2];exact hv)
 obtain⟨o,hzo⟩:∃o:Nat,z.o=(o:Int):=⟨z.o.toNat,by omega⟩
 have hg0:=hg 0 (.int .i64 (j:Int)) (by omega) (by rw[←hzf];rfl)
 have hg1:=hg 1 (.int .i64 (o:Int)) (by omega) (by rw[←hzo];rfl)
 have hdc:dcs[j]?=some (slv q.A q.xs.length q.c):=hdr.get (by rw[List.getElem?_map,hq];rfl)
 have hqok:=hyo.dd q (List.mem_of_getElem? hq)
 have hqle:q.xs.length≤q.c:=Row.le hqok
 rw[hzo]at f4
 obtain⟨hq64,hqval⟩:=hyv.d q.xs (List.mem_map.2 ⟨q,List.mem_of_getElem? hq,rfl⟩)
 obtain⟨kk,hkk⟩:∃kk:Nat,min (l.xs.length:Int) (64-(o:Int))=(kk:Int):=⟨(min (l.xs.length:Int) (64-(o:Int))).toNat,by omega⟩
 have hkaddr:(o:Int)+(kk:Int)=((o+kk:Nat):Int):=by omega
 repeat(first|(refine gpSha1_ ?_;clear hs hm a;intros;rename_i a hm hs)|refine sc_ ?_|((with_reducible apply lCons);first|(refine dvc hs hm gw_ rfl rfl rfl rfl rfl (pl 141 rfl) (k2 _ hm.fr) ?_;clear hs hm a;intro w hm a hs)|(refine dvc hs hm gw_ rfl rfl rfl rfl rfl (pl 96 rfl) (k3 _ hm.fr) ?_;clear hs hm a;intro w hm a hs))|((with_reducible apply qCons);first|(refine qwc hs gw_ rfl rfl rfl rfl rfl (pl 141 rfl) (fun w hm=>k2 _ hm.fr) ?_;clear hs a;intro a hs)|(refine qwc hs gw_ rfl rfl rfl rfl rfl (pl 96 rfl) (fun w hm=>k3 _ hm.fr) ?_;clear hs a;intro a hs)))
 obtain⟨g9,rfl⟩:=hs.pp 9
 rw[hkk]at hs
 replace hm:=Mm.frontG CO.hp (L:=[⟨some g9,78,[slv (some gd) ds.length dc,slv (some go) 8 oc]⟩,⟨some g6,78,[nS,nS]⟩,⟨some gd,93,dcs⟩,⟨some go,212,ocs⟩]) (l:=ds) (hm.sub sub_) hq
 simp only[List.cons_append,List.nil_append]at hm
 generalize hE:(ds.eraseIdx j).map CO.hp=E at hm
 refine cLoop (X:=FwX) (fun X a w=>X.i≤kk∧Row X.A X.xs.length X.c 4 (cns X.xs) X.cs∧q.xs.length≤X.xs.length∧o+X.i≤X.xs.length∧X.xs.length≤64∧(∀c∈X.xs,c.val)∧Sl Tryz.f132.ntmps [(2,.slice l.A l.xs.length l.c),(6,pt g6),(9,pt g9),(10,.pointer (some ⟨go,k*3,none⟩)),(11,.int .i64 (kk:Int)),(12,slv X.A X.xs.length X.c),(57,.int .i64 (kk:Int)),(58,.int .i64 (X.i:Int))] a∧Mm (fun _=>False) wB (⟨X.A,95,X.cs⟩::⟨some g9,78,[slv (some gd) ds.length dc,slv (some go) 8 oc]⟩::⟨some g6,78,[nS,nS]⟩::⟨some gd,93,dcs⟩::⟨some go,212,ocs⟩::E) w) (fun X=>kk-X.i) ⟨0,q.A,q.c,q.cs,q.xs⟩ ⟨Nat.zero_le _,hqok,Nat.le_refl _,by dsimp only;omega,hq64,hqval,(sb_ hs),hm⟩ ?_
 clear hs hm a
 rintro⟨i,A,c,cs,xs⟩ a w ⟨j1,j2,j3,j4,j5,j6,hs,hm⟩
 dsimp only at j1 j2 j3 j4 j5 j6 hs hm
 by_cases hlt:i<kk
 ·have hil:i<l.xs.length:=by omega
  obtain⟨bl,ol,hlA,hlb,rl⟩:=Rd.ro hl (by rw[cns_len];omega)
  have r3:=rl.flat CN.cs_len hil
  have hcv:=hlv _ (List.getElem_mem hil)
  generalize l.xs[i]=z0 at r3 hcv
  unfold CN.cs at r3
  have hai:(o:Int)+(i:Int)=((o+i:Nat):Int):=by omega
  rw[hlA]at hs
  have hrl:=j2.len
  have hrle:=j2.le
  by_cases hin:o+i<xs.length
  ·obtain⟨ga,rfl⟩:=j2.some_ (by omega)
   refine gs575d_ ?_;clear hs hm a;intros;rename_i a hm hs
   refine cMid (fun a w=>Sl Tryz.f132.ntmps [(2,.slice l.A l.xs.length l.c),(6,pt g6),(9,pt g9),(10,.pointer (some ⟨go,k*3,none⟩)),(11,.int .i64 (kk:Int)),(12,slv (some ga) xs.length c),(57,.int .i64 (kk:Int)),(58,.int .i64 (i:Int))] a∧Mm (fun _=>False) wB (⟨some ga,95,cs.take ((o+i)*4)++z0.cs++cs.drop ((o+i)*4+4)⟩::⟨some g9,78,[slv (some gd) ds.length dc,slv (some go) 8 oc]⟩::⟨some g6,78,[nS,nS]⟩::⟨some gd,93,dcs⟩::⟨some go,212,ocs⟩::E) w) ?_ ?_
   ·with_reducible repeat(first|apply gThen|apply wp_seq)
    refine cDrawT (n:=13) (.s [0,1,2,3,4,5,6,7,8,9,10,11]<| .o 12<| .x<| .d) [⟨some go,212,ocs⟩] hm rfl rfl ?_
    clear hm;intro t_ w1_ hm
    repeat' (first|(refine dgSha2_ ?_;clear t_ hs hm a;intros;rename_i a hm hs t_)|refine tE t_ ?_|refine tC ?_ ?_|exact tN|intro t_|(refine oDoN (i:=12) hs rfl (Wnt.none rfl) rfl (by exact d_store hs rfl rfl rfl tab rfl rfl rfl rfl hm rep_ (putG (by show(o+i)*4+4≤_;omega))) ?_;clear hs;rintro-w1 hm a hs;replace t_:=tX t_;refine⟨(hm.sub sub_),?_⟩)|(refine tD t_ ?_;(rw[←hlA]at hs);(exact And.intro rfl ⟨(sb_ hs),hm⟩))|fail)
   clear hs hm a
   rintro a w ⟨hs,hm⟩
   refine gs575d_ ?_;clear hs hm a;intros;rename_i a hm hs
   have hsp:=j2.splice (o:=(o+i)*4) (ys:=z0.cs) (by rw[CN.cs_len];omega)
   rw[CN.cs_len,show(cns xs).take ((o+i)*4)++z0.cs++(cns xs).drop ((o+i)*4+4)=cns (xs.set (o+i) z0)from flat_splice CN.cs 4 CN.cs_len xs (o+i) z0 hin]at hsp
   refine⟨⟨i+1,some ga,c,cs.take ((o+i)*4)++z0.cs++cs.drop ((o+i)*4+4),xs.set (o+i) z0⟩,by dsimp only;omega,by dsimp only;omega,by dsimp only;rw[List.length_set];exact hsp,by dsimp only;rw[List.length_set];omega,by dsimp only;rw[List.length_set];omega,by dsimp only;rw[List.length_set];omega,fun y hy=>?_,by dsimp only;rw[List.length_set];exact(sb_ hs),hm⟩
   rcases List.mem_or_eq_of_mem_set hy with hy|rfl
   ·exact j6 y hy
   ·exact hcv
  ·have hie:o+i=xs.length:=by omega
   refine gs575d_ ?_;clear hs hm a;intros;rename_i a hm hs
   refine dv hs (Wnt.none rfl) rfl rfl (d_append (A:=A) (n:=xs.length) (c:=c) (news:=z0.cs) hs rfl rfl rfl rfl rfl tab rfl rfl rfl rfl rfl hm mem_ j2 rfl (hm.ro (n:=4) mem_ (cutF_ok rfl)) rfl (by show(xs.length+1)*24≤_;omega) (by omega)) ?_
   clear hs
   rintro _ w4 ⟨A',c',cs',rfl,hr',hM⟩ a hs
   replace hm:=hM _ rep_
   clear hM
   rw[show cns xs++z0.cs=cns (xs++[z0]) by unfold cns;rw[List.flatMap_append,List.flatMap_singleton]]at hr'
   refine gs575d_ ?_;clear hs hm a;intros;rename_i a hm hs
   rw[←hlA]at hs
   refine⟨⟨i+1,A',c',cs',xs++[z0]⟩,by dsimp only;omega,by dsimp only;omega,by dsimp only;rw[List.length_append,List.length_singleton];exact hr',by dsimp only;rw[List.length_append,List.length_singleton];omega,by dsimp only;rw[List.length_append,List.length_singleton];omega,by dsimp only;rw[List.length_append,List.length_singleton];omega,List.forall_mem_append.2 ⟨j6,List.forall_mem_singleton.2 hcv⟩,by dsimp only;rw[List.length_append,List.length_singleton];exact(sb_ hs),hm.sub sub_⟩
 ·obtain rfl:i=kk:=by omega
  have hdl:=hdr.len
  have hdle:=hdr.le
  refine gs575d_ ?_;clear hs hm a;intros;rename_i a hm hs
  refine cMid (fun a w=>Sl Tryz.f132.ntmps [(6,pt g6),(9,pt g9),(10,.pointer (some ⟨go,k*3,none⟩)),(11,.int .i64 (i:Int))] a∧Mm (fun _=>False) wB (⟨A,95,cs⟩::⟨some g9,78,[slv (some gd) ds.length dc,slv (some go) 8 oc]⟩::⟨some g6,78,[nS,nS]⟩::⟨some gd,93,dcs.set j (slv A xs.length c)⟩::⟨some go,212,ocs⟩::E) w) ?_ ?_
  ·with_reducible repeat(first|apply gThen|apply wp_seq)
   refine cDrawT (n:=9) (.s [0,1,2,3,4,5,6,7]<| .o 8<| .d) [⟨some g9,78,[slv (some gd) ds.length dc,slv (some go) 8 oc]⟩,⟨some go,212,ocs⟩] hm rfl rfl ?_
   clear hm;intro t_ w1_ hm
   repeat' (first|(refine dgSha2_ ?_;clear t_ hs hm a;intros;rename_i a hm hs t_)|refine tE t_ ?_|refine tC ?_ ?_|exact tN|intro t_|(refine tD t_ ?_;(exact And.intro rfl ⟨(sb_ hs),hm⟩))|fail)
  clear hs hm a
  rintro a w ⟨hs,hm⟩
  refine gs575d_ ?_;clear hs hm a;intros;rename_i a hm hs
  have hse:=hor.set (k*3+1) (.int .i64 ((o+i:Nat):Int))
  rw[show(ops os).set (k*3+1) (.int .i64 ((o+i:Nat):Int))=ops (os.set k ⟨z.f,((o+i:Nat):Int),z.w⟩)from flat_set OpD.cs 3 OpD.len os k 1 z (.int .i64 ((o+i:Nat):Int)) hks (by omega) ⟨z.f,((o+i:Nat):Int),z.w⟩ rfl]at hse
  have hvs:=CO.val_set (r:=⟨A,c,cs,xs⟩) hyv hq j3 j5 j6
  have hft:OpD.fit ⟨z.f,((o+i:Nat):Int),z.w⟩ ((ds.set j ⟨A,c,cs,xs⟩).map CO.xs):=⟨fun e=>absurd e hz,fun _=>⟨j,xs,hzf,by rw[List.getElem?_map,List.getElem?_set_self hjl];rfl,by dsimp only;omega,by dsimp only;omega⟩⟩
  rw[←hE]at hm
  have hmB:=Mm.backG CO.hp (q:=⟨A,c,cs,xs⟩) (L:=[⟨some gd,93,dcs.set j (slv A xs.length c)⟩,⟨some go,212,ocs.set (k*3+1) (.int .i64 ((o+i:Nat):Int))⟩]) hjl (hm.sub sub_)
  exact gRetN tab hs rfl (.cons (.cells rfl rfl rfl rfl (hm.ro (k:=0) (n:=2) (g:=g6) mem_ (cutF_ok rfl))) (.cons (.tmp rfl) (.cons (.tmp rfl) .nil))) (hfin _ _ (ocs.set (k*3+1) (.int .i64 ((o+i:Nat):Int))) (os.set k ⟨z.f,((o+i:Nat):Int),z.w⟩) i true _ (by rw[List.length_set]) (CO.rows_set hdr j ⟨A,c,cs,xs⟩) (fun r hr=>by
   rcases List.mem_or_eq_of_mem_set hr with hr|rfl
   ·exact hyo.dd r hr
   ·exact j2) (by rw[List.length_set];exact hse) (FD.set_os (x:=⟨(ds.set j ⟨A,c,cs,xs⟩).map CO.xs,os⟩) hvs k hft) hmB (by omega))
def numC(v:Int):CN:=⟨0,v,0,0⟩
def numsC(q:List Int):List CN:=q.map numC
theorem zrep_ops(n:Nat):zrep n [.int .i64 0,.int .i64 0,.bool false]=ops (List.replicate n ⟨0,0,false⟩):=zrep_map n OpD.cs ⟨0,0,false⟩
structure FnX where
 k:Nat
 os:List OpD
 ocs:List Value
structure FmX where
 al:List CN
 A:Option Nat
 c:Nat
 cs:List Value
theorem fnew_c(A:Option Addr)(c:Nat)(qs:List WV)(wB:World)(hx:Rd wB wB.heap.size A (qs.map WV.v))(hqs:∀q∈qs,q.ok wB)(hq1:qs.length≤4)(hsm:∀q∈qs,q.xs.length≤64)(hbd:∀q∈qs,∀v∈q.xs,0≤v∧v≤65535):Ret Tryz.prog 106 [.slice A qs.length c] wB (fun u w'=>∃(y:FV)(R:List Hp),u= .tuple #[y.v,.int .i64 0]∧On R y.ok∧New wB w' R∧y.d'.val∧y.d'.ds=qs.map (fun q=>numsC q.xs)∧Pu wB w'):=by
 refine enterR Tryz.func106 rfl rfl rfl fun a hs hm=>?_
 refine gsdfd4_ ?_;clear hs hm a;intros;rename_i a hm hs
 obtain⟨g2,rfl⟩:=hs.pp 2
 refine dv hs (Wnt.none rfl) rfl rfl (d_makeSlice (n:=8) hs rfl rfl rfl tab rfl rfl rfl rfl rfl (by omega) rfl hm) ?_
 clear hs hm a
 rintro _ w2 ⟨go,rfl,-,hm⟩ a hs
 refine gsdfd4_ ?_;clear hs hm a;intros;rename_i a hm hs
 obtain⟨g4,rfl⟩:=hs.pp 4
 replace hm:=(hm.zero 93).sel (M':=[⟨some g4,78,[nS,slv (some go) 8 8]⟩,⟨none,93,[]⟩,⟨some go,212,zrep 8 [.int .i64 0,.int .i64 0,.bool false]⟩,⟨some g2,78,[nS,nS]⟩]) [1,0,2,3] (by decide) rfl
 rw[zrep_ops]at hm
 refine cMidE (.exit 0) (fun a w=>∃(os:List OpD)(ocs:List Value),os.length=8∧Row (some go) 8 8 3 (ops os) ocs∧(∀y∈os,y.f=-1∧y.o=0∧y.w=false)∧Sl Tryz.f106.ntmps [(0,.slice A qs.length c),(2,pt g2),(4,pt g4)] a∧Mm (fun _=>False) wB (⟨some g4,78,[nS,slv (some go) 8 8]⟩::⟨none,93,[]⟩::⟨some go,212,ocs⟩::⟨some g2,78,[nS,nS]⟩::[]) w) ?_ ?_
 ·refine cLoop (X:=FnX) (fun X a w=>X.k≤8∧X.os.length=8∧Row (some go) 8 8 3 (ops X.os) X.ocs∧(∀y∈X.os,y.o=0∧y.w=false)∧(∀i y,i<X.k→X.os[i]?=some y→y.f=-1)∧Sl Tryz.f106.ntmps [(0,.slice A qs.length c),(2,pt g2),(4,pt g4),(15,.int .i64 ((8:Nat):Int)),(16,.int .i64 (X.k:Int))] a∧Mm (fun _=>False) wB (⟨some g4,78,[nS,slv (some go) 8 8]⟩::⟨none,93,[]⟩::⟨some go,212,X.ocs⟩::⟨some g2,78,[nS,nS]⟩::[]) w) (fun X=>8-X.k) ⟨0,List.replicate 8 ⟨0,0,false⟩,ops (List.replicate 8 ⟨0,0,false⟩)⟩ ⟨Nat.zero_le _,rfl,row_full (by simp) rfl (by decide),(fun y hy=>by obtain⟨-,rfl⟩:=List.mem_replicate.1 hy;exact⟨rfl,rfl⟩),(fun i y h=>absurd h (Nat.not_lt_zero _)),(sb_ hs),hm⟩ ?_
  clear hs hm a
  rintro⟨k,os,ocs⟩ a w ⟨i1,i2,i3,i4,i5,hs,hm⟩
  dsimp only at i1 i2 i3 i4 i5 hs hm
  have hl:=i3.len
  by_cases hlt:k<8
  ·obtain⟨z,hz⟩:∃z,os[k]?=some z:=⟨_,List.getElem?_eq_getElem (by omega)⟩
   refine gsdfd4_ ?_;clear hs hm a;intros;rename_i a hm hs
   have hse:=i3.set (k*3+0) (.int .i64 (-1))
   rw[show(ops os).set (k*3+0) (.int .i64 (-1))=ops (os.set k ⟨-1,z.o,z.w⟩)from flat_set OpD.cs 3 OpD.len os k 0 z (.int .i64 (-1)) hz (by omega) ⟨-1,z.o,z.w⟩ rfl]at hse
   refine⟨⟨k+1,os.set k ⟨-1,z.o,z.w⟩,ocs.set (k*3+0) (.int .i64 (-1))⟩,by dsimp only;omega,by dsimp only;omega,by dsimp only;rw[List.length_set];exact i2,hse,fun y hy=>?_,fun i y hi hy=>?_,(sb_ hs),hm⟩
   ·rcases List.mem_or_eq_of_mem_set hy with hy|rfl
    ·exact i4 y hy
    ·exact i4 z (List.mem_of_getElem? hz)
   ·by_cases hij:i=k
    ·subst hij
     rw[List.getElem?_set_self (by omega)]at hy
     obtain rfl:=Option.some.inj hy
     rfl
    ·rw[List.getElem?_set_ne (fun h=>hij h.symm)]at hy
     exact i5 i y (by dsimp only at hi;omega) hy
  ·obtain rfl:k=8:=by omega
   refine gsdfd4_ ?_;clear hs hm a;intros;rename_i a hm hs
   exact And.intro rfl ⟨os,ocs,i2,i3,fun y hy=>⟨by
    obtain⟨i,hi,rfl⟩:=List.getElem_of_mem hy
    exact i5 i _ (by omega) (List.getElem?_eq_getElem hi),i4 y hy⟩,(sb_ hs),hm⟩
 clear hs hm a
 rintro a w ⟨os,ocs,hos8,hor,hof,hs,hm⟩
 have hofit:∀(ds:List (List CN)),∀y∈os,y.fit ds:=fun ds y hy=>by
  obtain⟨h1,h2,h3⟩:=hof y hy
  exact⟨fun _=>⟨h2,h3⟩,fun e=>absurd h1 e⟩
 refine gsdfd4_ ?_;clear hs hm a;intros;rename_i a hm hs
 refine cLoop (X:=FcX) (fun X a w=>X.rs.length≤qs.length∧Row X.qA X.rs.length X.qc 1 (X.rs.map CO.v) X.qcs∧X.rs.map CO.xs=(qs.take X.rs.length).map (fun q=>numsC q.xs)∧(∀r∈X.rs,r.ok)∧Sl Tryz.f106.ntmps [(2,pt g2),(4,pt g4),(25,.slice A qs.length c),(26,.int .i64 (qs.length:Int)),(27,.int .i64 (X.rs.length:Int))] a∧Mm (fun _=>False) wB ([⟨some g4,78,[slv X.qA X.rs.length X.qc,slv (some go) 8 8]⟩,⟨X.qA,93,X.qcs⟩,⟨some go,212,ocs⟩,⟨some g2,78,[nS,nS]⟩]++X.rs.map CO.hp) w) (fun X=>qs.length-X.rs.length) ⟨[],none,0,[]⟩ ⟨Nat.zero_le _,Row.empty 1,rfl,(fun r hr=>by cases hr),(sb_ hs),hm⟩ ?_
 clear hs hm a
 rintro⟨rs,qA,qc,qcs⟩ a w ⟨hlen,hqr,hab,hok,hs,hm⟩
 dsimp only at hlen hqr hab hok hs hm
 by_cases hlt:rs.length<qs.length
 ·obtain⟨b1,o1,hA,hb1,r1⟩:=hx.ro (by rw[List.length_map];omega)
  obtain⟨q,hq⟩:∃q,q=qs[rs.length]:=⟨_,rfl⟩
  have hqm:q∈qs:=by rw[hq];exact List.getElem_mem hlt
  have hcell:(qs.map WV.v)[rs.length]?=some (.slice q.A q.xs.length q.c):=by rw[List.getElem?_map,List.getElem?_eq_getElem hlt,hq];rfl
  have hqo:Rd wB wB.heap.size q.A (wds q.xs):=hqs q hqm
  have hqn:=hsm q hqm
  rw[hA]at hs
  refine gsdfd4_ ?_;clear hs hm a;intros;rename_i a hm hs
  replace hm:=hm.zero 95
  refine cMidE (.exit 4) (fun a w=>∃r:CO,r.ok∧r.xs=numsC q.xs∧Sl Tryz.f106.ntmps [(2,pt g2),(4,pt g4),(8,slv r.A q.xs.length r.c),(25,.slice (some ⟨b1,o1,none⟩) qs.length c),(26,.int .i64 (qs.length:Int)),(27,.int .i64 (rs.length:Int))] a∧Mm (fun _=>False) wB (r.hp::([⟨some g4,78,[slv qA rs.length qc,slv (some go) 8 8]⟩,⟨qA,93,qcs⟩,⟨some go,212,ocs⟩,⟨some g2,78,[nS,nS]⟩]++rs.map CO.hp)) w) ?_ ?_
  ·refine cLoop (X:=FmX) (fun X a w=>X.al.length≤q.xs.length∧X.al=numsC (q.xs.take X.al.length)∧Row X.A X.al.length X.c 4 (cns X.al) X.cs∧Sl Tryz.f106.ntmps [(2,pt g2),(4,pt g4),(8,slv X.A X.al.length X.c),(25,.slice (some ⟨b1,o1,none⟩) qs.length c),(26,.int .i64 (qs.length:Int)),(27,.int .i64 (rs.length:Int)),(31,.slice q.A q.xs.length q.c),(32,.int .i64 (q.xs.length:Int)),(33,.int .i64 (X.al.length:Int))] a∧Mm (fun _=>False) wB (⟨X.A,95,X.cs⟩::([⟨some g4,78,[slv qA rs.length qc,slv (some go) 8 8]⟩,⟨qA,93,qcs⟩,⟨some go,212,ocs⟩,⟨some g2,78,[nS,nS]⟩]++rs.map CO.hp)) w) (fun X=>q.xs.length-X.al.length) ⟨[],none,0,[]⟩ ⟨Nat.zero_le _,rfl,Row.empty 4,(sb_ hs),hm⟩ ?_
   clear hs hm a
   rintro⟨al,lA,lc,lcs⟩ a w ⟨i1,i2,i3,hs,hm⟩
   dsimp only at i1 i2 i3 hs hm
   by_cases hl2:al.length<q.xs.length
   ·obtain⟨b2,o2,hA2,hb2,r2⟩:=hqo.ro (by rw[wds_len2];omega)
    have hcw:(wds q.xs)[al.length]?=some (.int .u16 q.xs[al.length]):=by unfold wds;rw[List.getElem?_map,List.getElem?_eq_getElem hl2];rfl
    have hsn:al++[numC q.xs[al.length]]=numsC (q.xs.take (al.length+1)):=by
     rw[List.take_succ_eq_append_getElem hl2]
     unfold numsC at i2 ⊢
     rw[List.map_append,←i2]
     rfl
    generalize q.xs[al.length]=v at hcw hsn
    rw[hA2]at hs
    refine gsdfd4_ ?_;clear hs hm a;intros;rename_i a hm hs
    refine dv hs (Wnt.none rfl) rfl rfl (d_append (A:=lA) (n:=al.length) (c:=lc) (news:=(numC v).cs) hs rfl rfl rfl rfl rfl tab rfl rfl rfl rfl rfl hm mem_ i3 rfl (hm.ro (n:=4) mem_ (cutF_ok rfl)) rfl (by show(al.length+1)*24≤_;omega) (by omega)) ?_
    clear hs
    rintro _ w4 ⟨A',c',cs',rfl,hr',hM⟩ a hs
    replace hm:=hM _ rep_
    clear hM
    rw[show cns al++(numC v).cs=cns (al++[numC v]) by unfold cns;rw[List.flatMap_append,List.flatMap_singleton]]at hr'
    refine gsdfd4_ ?_;clear hs hm a;intros;rename_i a hm hs
    rw[←hA2]at hs
    refine⟨⟨al++[numC v],A',c',cs'⟩,by dsimp only;rw[List.length_append,List.length_singleton];omega,?_⟩
    dsimp only
    rw[List.length_append,List.length_singleton]
    exact⟨hl2,hsn,hr',(sb_ hs),hm.sub (List.Sublist.cons _ (List.Sublist.refl _))⟩
   ·have hle:al.length=q.xs.length:=by omega
    refine gsdfd4_ ?_;clear hs hm a;intros;rename_i a hm hs
    rw[hle]at hs
    rw[hle,List.take_length]at i2
    exact And.intro rfl ⟨⟨lA,lc,lcs,al⟩,i3,i2,(sb_ hs),hm⟩
  clear hs hm a
  rintro a w ⟨r,hro,hrx,hs,hm⟩
  have hrl:r.xs.length=q.xs.length:=by rw[hrx];unfold numsC;rw[List.length_map]
  rw[←hrl]at hs
  refine gsdfd4_ ?_;clear hs hm a;intros;rename_i a hm hs
  refine dv hs (Wnt.none rfl) rfl rfl (d_append (A:=qA) (n:=rs.length) (c:=qc) (news:=[r.v]) hs rfl rfl rfl rfl rfl tab rfl rfl rfl rfl rfl hm mem_ hqr rfl (hm.ro (n:=1) mem_ (cutF_ok rfl)) rfl (by show(rs.length+1)*24≤_;omega) (by omega)) ?_
  clear hs
  rintro _ w4 ⟨qA',qc',qcs',rfl,hqr',hM⟩ a hs
  replace hm:=hM _ rep_
  clear hM
  rw[CO.snoc]at hqr'
  refine gsdfd4_ ?_;clear hs hm a;intros;rename_i a hm hs
  rw[←hA]at hs
  refine⟨⟨rs++[r],qA',qc',qcs'⟩,by dsimp only;rw[List.length_append,List.length_singleton];omega,by dsimp only;rw[List.length_append,List.length_singleton];omega,by dsimp only;rw[List.length_append,List.length_singleton];exact hqr',?_,List.forall_mem_append.2 ⟨hok,List.forall_mem_singleton.2 hro⟩,by dsimp only;rw[List.length_append,List.length_singleton];exact(sb_ hs),?_⟩
  ·dsimp only
   rw[List.length_append,List.length_singleton,List.map_append,hab,List.take_succ_eq_append_getElem hlt,List.map_append,←hq]
   rw[List.map_singleton,List.map_singleton,hrx]
  ·dsimp only
   rw[List.length_append,List.length_singleton]
   exact CO.perm (hm.sub (List.Sublist.cons _ (List.Sublist.refl _)))
 ·have hln:rs.length=qs.length:=by omega
  rw[hln,List.take_length]at hab
  have hok':FO.ok ⟨qA,qc,qcs,rs,some go,8,ocs,os⟩:=⟨hqr,by rw[hos8];exact hor,hok⟩
  have hval:FD.val ⟨rs.map CO.xs,os⟩:=⟨by dsimp only;rw[List.length_map];omega,hos8,fun d hd=>by
   dsimp only at hd
   rw[hab]at hd
   obtain⟨q,hq,rfl⟩:=List.mem_map.1 hd
   refine⟨by unfold numsC;rw[List.length_map];exact hsm q hq,fun c hc=>?_⟩
   obtain⟨v,hv,rfl⟩:=List.mem_map.1 hc
   exact CN.num_val (hbd q hq v hv),hofit _⟩
  have hrd:∀{S:Nat→Prop}{w:World},Mm S wB (⟨qA,93,qcs⟩::⟨some go,212,ocs⟩::rs.map CO.hp) w→FV.ok (FO.rd ⟨qA,qc,qcs,rs,some go,8,ocs,os⟩) w:=fun h=>FO.out h hok'
  have kv:∀w'',FV.ok (FO.rd ⟨qA,qc,qcs,rs,some go,8,ocs,os⟩) w''→Ret Tryz.prog 101 [.agg #[slv qA rs.length qc,slv (some go) 8 8]] w'' (fun u w'=>u= .bool true∧Pu w'' w'):=fun w'' h=>by
   have:=fval_c _ w'' h (by rw[FO.rd_d];exact hval)
   rw[FO.rd_v]at this
   unfold FO.v at this
   dsimp only at this
   rwa[hos8]at this
  simp only[List.cons_append,List.nil_append]at hm
  refine gsdfd4_ ?_;clear hs hm a;intros;rename_i a hm hs
  refine st hs rfl rfl rfl (d_call hs rfl rfl rfl (pl 101 rfl) ((kv _ (hrd (hm.sub sub_))))) ?_;clear hs a;rintro _ w1 ⟨rfl,hf⟩ a hs
  replace hm:=hm.pu hf
  clear hf
  refine gsdfd4_ ?_;clear hs hm a;intros;rename_i a hm hs
  exact gRetN tab hs rfl (.cons (.cells rfl rfl rfl rfl (hm.ro (k:=0) (n:=2) (g:=g2) mem_ (cutF_ok rfl))) (.cons (.tmp rfl) .nil)) ⟨FO.rd ⟨qA,qc,qcs,rs,some go,8,ocs,os⟩,_,by rw[FO.rd_v];unfold FO.v;dsimp only;rw[hos8];rfl,FO.on hok',hm.new sub_,by rw[FO.rd_d];exact hval,by rw[FO.rd_d];exact hab,hm.fr⟩
end Go.Proofs.YtbjffoojenpmfaaGreat
