/- Texts put together: Shc, Shd, She. -/
import Derived.Test.YtbjffoojenpmfaaGreatMgSOl
set_option maxRecDepth 20000
set_option maxHeartbeats 64000000
set_option linter.unusedVariables false
set_option linter.unusedSimpArgs false
namespace Go.Proofs.YtbjffoojenpmfaaGreat
open Go.RowKit
structure OuL where
 A:Option Addr
 c:Nat
 us:List OuV
def OuL.v(x:OuL):Value:= .slice x.A x.us.length x.c
structure OuL.ok(x:OuL)(w:World):Prop where
 u:Rd w w.heap.size x.A (x.us.flatMap OuV.v)
 d:∀y∈x.us,y.d.ok w
theorem OuL.ok.pu{x:OuL}{w w':World}(h:x.ok w)(hf:Pu w w'):x.ok w':=⟨hf.rd' h.u,fun y hy=>(h.d y hy).pu hf⟩
def OuL.l(x:OuL):List OuD:=x.us.map OuV.d'
structure OuS(l:List OuD):Prop where
 n:l.length≤200
 q:∀(i:Nat)(x:OuD),l[i]?=some x→x.seq=(i:Int)∧0≤x.so∧x.so<2∧x.xs.length≤16∧∀c∈x.xs,c.val
theorem OuL.at_{x:OuL}(h:OuS x.l){k:Nat}{y:OuV}(hk:x.us[k]?=some y):y.seq=(k:Int)∧0≤y.so∧y.so<2∧y.d.xs.length≤16∧∀c∈y.d.xs,c.val:=h.q k y.d' (by unfold OuL.l;rw[List.getElem?_map,hk];rfl)
theorem OuL.mem_{x:OuL}(h:OuS x.l){y:OuV}(hy:y∈x.us):y.d.xs.length≤16∧∀c∈y.d.xs,c.val:=by
 obtain⟨k,hk,rfl⟩:=List.getElem_of_mem hy
 exact(OuL.at_ h (List.getElem?_eq_getElem hk)).2.2.2
theorem OuL.len_{x:OuL}(h:OuS x.l):x.us.length≤200:=by have:=h.n;unfold OuL.l at this;rwa[List.length_map]at this
theorem OuL.of{S:Nat→Prop}{w0 w:World}{M:List Hp}{A:Option Nat}{c:Nat}{cs:List Value}{us:List OuO}(hm:Mm S w0 M w)(hM:∀h∈(⟨A,192,cs⟩:Hp)::us.map OuO.hp,h∈M)(hr:Row A us.length c 3 (us.flatMap OuO.v) cs)(ho:∀r∈us,r.d.ok):OuL.ok ⟨ad A,c,us.map OuO.rd⟩ w:=⟨by dsimp only;rw[OuO.rds_v];exact hm.rd_row (hM _ (List.mem_cons_self ..)) hr,fun y hy=>by
 obtain⟨z,hz,rfl⟩:=List.mem_map.1 hy
 exact CO.rd_ok hm (hM _ (List.mem_cons_of_mem _ (List.mem_map.2 ⟨z,hz,rfl⟩))) (ho z hz)⟩
theorem OuL.on{A:Option Nat}{c:Nat}{cs:List Value}{us:List OuO}(hr:Row A us.length c 3 (us.flatMap OuO.v) cs)(ho:∀r∈us,r.d.ok):On (⟨A,192,cs⟩::us.map OuO.hp) (OuL.ok ⟨ad A,c,us.map OuO.rd⟩):=fun _ _ _ _ hm hM=>OuL.of hm hM hr ho
theorem ord_c(x:OuL)(wB:World)(hx:x.ok wB)(h:OuS x.l):Ret Tryz.prog 102 [x.v] wB (fun u w'=>u= .bool true∧Pu wB w'):=by
 have hn:=OuL.len_ h
 have hro:=hx.u
 unfold OuL.v
 refine enterR Tryz.func102 rfl rfl rfl fun a hs hm=>?_
 refine gsce98_ ?_;clear hs hm a;intros;rename_i a hm hs
 refine cLoop (X:=Nat) (fun k a w'=>k≤x.us.length∧Sl Tryz.f102.ntmps [(5,.slice x.A x.us.length x.c),(6,.int .i64 (x.us.length:Int)),(7,.int .i64 (k:Int))] a∧Mm (fun _=>False) wB [] w') (fun k=>x.us.length-k) 0 ⟨Nat.zero_le _,(sb_ hs),hm⟩ ?_
 clear hs hm a
 rintro k a w' ⟨hk,hs,hm⟩
 by_cases hlt:k<x.us.length
 ·obtain⟨b1,o1,hA,hb1,r1⟩:=hro.ro (by rw[flat_len OuV.v 3 OuV.len];omega)
  have r2:=r1.flat OuV.len hlt
  obtain⟨h1,h2,h3,h4,-⟩:=OuL.at_ h (List.getElem?_eq_getElem hlt)
  generalize x.us[k]=q at r2 h1 h2 h3 h4
  unfold OuV.v at r2
  rw[h1]at r2
  rw[hA]at hs
  refine gsce98_ ?_;clear hs hm a;intros;rename_i a hm hs
  rw[←hA]at hs
  exact⟨k+1,by omega,by omega,(sb_ hs),hm.sub (List.nil_sublist _)⟩
 ·obtain rfl:k=x.us.length:=by omega
  refine gsce98_ ?_;clear hs hm a;intros;rename_i a hm hs
  exact gRet1 hs rfl rfl ⟨rfl,hm.fr⟩
theorem OuS.snoc{l:List OuD}{y:OuD}(h:OuS l)(hn:l.length<200)(hy:y.seq=(l.length:Int)∧0≤y.so∧y.so<2∧y.xs.length≤16∧∀c∈y.xs,c.val):OuS (l++[y]):=⟨by rw[List.length_append,List.length_singleton];omega,fun i x hi=>by
 by_cases hil:i<l.length
 ·rw[List.getElem?_append_left hil]at hi
  exact h.q i x hi
 ·rw[List.getElem?_append_right (by omega)]at hi
  obtain⟨hi',e⟩:=List.getElem?_eq_some_iff.1 hi
  rw[List.length_singleton]at hi'
  obtain rfl:i=l.length:=by omega
  rw[Nat.sub_self]at hi
  obtain rfl:=Option.some.inj hi
  exact hy⟩
theorem send_c(x:OuL)(so:Int)(l:CnS)(wB:World)(hx:x.ok wB)(h:OuS x.l)(hl:l.ok wB)(hlv:∀c∈l.xs,c.val)(hln:l.xs.length≤1000):Ret Tryz.prog 137 [x.v,.int .i64 so,l.v] wB (fun u w'=>∃(y:OuL)(n:Int)(b:Bool)(R:List Hp),u= .tuple #[y.v,.int .i64 n,.bool b]∧On R y.ok∧New wB w' R∧OuS y.l∧0≤n∧n≤1000∧Pu wB w'):=by
 have hn:=OuL.len_ h
 have k1:=fun w'' (hf:Pu wB w'')=>ocp_c x.A x.c x.us w'' (hx.pu hf).u (hx.pu hf).d (by omega) (fun q hq=>by have:=(OuL.mem_ h hq).1;omega)
 unfold OuL.v CnS.v
 refine enterR Tryz.func137 rfl rfl rfl fun a hs hm=>?_
 refine gsc5af_ ?_;clear hs hm a;intros;rename_i a hm hs
 refine st hs rfl rfl rfl (d_call hs rfl rfl rfl (pl 105 rfl) ((k1 _ hm.fr))) ?_;clear hs a;rintro _ w1 ⟨qA,qc,qcs,rs,rfl,hqr,hok,hab,hrl,hN,hf⟩ a hs
 replace hm:=gainE hm hf hN
 clear hN hf k1
 rw[hrl]at hs hqr
 have hfin:∀(A:Option Nat)(c:Nat)(cs:List Value)(us:List OuO)(n:Int)(b:Bool)(w':World),Row A us.length c 3 (us.flatMap OuO.v) cs→(∀r∈us,r.d.ok)→OuS (us.map OuO.d')→Mm (fun _=>False) wB (⟨A,192,cs⟩::us.map OuO.hp) w'→0≤n∧n≤1000→∃(y:OuL)(n':Int)(b':Bool)(R:List Hp),Value.tuple #[slv A us.length c,.int .i64 n,.bool b]= .tuple #[y.v,.int .i64 n',.bool b']∧On R y.ok∧New wB w' R∧OuS y.l∧0≤n'∧n'≤1000∧Pu wB w':=
  fun A c cs us n b w' h1 h2 h3 h4 h5=>⟨⟨ad A,c,us.map OuO.rd⟩,n,b,_,by unfold OuL.v;dsimp only;rw[List.length_map];rfl,OuL.on h1 h2,h4.new (List.Sublist.refl _),by unfold OuL.l;dsimp only;rw[OuO.rds_d];exact h3,h5.1,h5.2,h4.fr⟩
 have hrv:OuS (rs.map OuO.d'):=by rw[hab];exact h
 have hno:∀(w':World),Mm (fun _=>False) wB (⟨qA,192,qcs⟩::rs.map OuO.hp) w'→∃(y:OuL)(n':Int)(b':Bool)(R:List Hp),Value.tuple #[slv qA x.us.length qc,.int .i64 0,.bool false]= .tuple #[y.v,.int .i64 n',.bool b']∧On R y.ok∧New wB w' R∧OuS y.l∧0≤n'∧n'≤1000∧Pu wB w':=fun w' hM=>by
  have:=hfin qA qc qcs rs 0 false w' (by rw[hrl];exact hqr) hok hrv hM (by omega)
  rwa[hrl]at this
 simp only[List.nil_append]at hm
 by_cases h1:0≤so
 rotate_left
 ·refine gsc5af_ ?_;clear hs hm a;intros;rename_i a hm hs
  exact z27a2_
 by_cases h2:so<2
 rotate_left
 ·refine gsc5af_ ?_;clear hs hm a;intros;rename_i a hm hs
  exact z27a2_
 by_cases h3:x.us.length<200
 rotate_left
 ·refine gsc5af_ ?_;clear hs hm a;intros;rename_i a hm hs
  exact z27a2_
 by_cases h4:l.xs.length≤16
 rotate_left
 ·refine gsc5af_ ?_;clear hs hm a;intros;rename_i a hm hs
  exact z27a2_
 have hlr:Rd wB wB.heap.size l.A (cns l.xs):=hl
 refine gsc5af_ ?_;clear hs hm a;intros;rename_i a hm hs
 refine dv hs (Wnt.none rfl) rfl rfl (d_appendS (A:=none) (n:=0) (c:=0) (xs:=[]) (news:=cns l.xs) hs rfl rfl rfl rfl tab rfl rfl rfl rfl rfl (hm.zero 95) mem_ (Row.empty 4) (cns_len _) (hm.fr.rd' hlr) (cns_one _) (by show(0+l.xs.length)*24≤_;omega) (by omega)) ?_
 clear hs
 rintro _ w3 ⟨rA,rc,rcs,rfl,hrr,hM⟩ a hs
 replace hm:=hM _ rep_
 clear hM
 rw[Nat.zero_add,List.nil_append]at hrr
 rw[Nat.zero_add]at hs
 refine gsc5af_ ?_;clear hs hm a;intros;rename_i a hm hs
 refine dv hs (Wnt.none rfl) rfl rfl (d_append (A:=qA) (n:=x.us.length) (c:=qc) (news:=[.int .i64 (x.us.length:Int),.int .i64 so,slv rA l.xs.length rc]) hs rfl rfl rfl rfl rfl tab rfl rfl rfl rfl rfl hm mem_ hqr rfl (hm.ro (n:=3) mem_ (cutF_ok rfl)) rfl (by show(x.us.length+1)*40≤_;omega) (by omega)) ?_
 clear hs
 rintro _ w4 ⟨qA',qc',qcs',rfl,hqr',hM⟩ a hs
 replace hm:=hM _ rep_
 clear hM
 refine gsc5af_ ?_;clear hs hm a;intros;rename_i a hm hs
 have hsn:=OuO.snoc rs ⟨x.us.length,so,⟨rA,rc,rcs,l.xs⟩⟩
 rw[show[.int .i64 (x.us.length:Int),.int .i64 so,slv rA l.xs.length rc]=OuO.v ⟨x.us.length,so,⟨rA,rc,rcs,l.xs⟩⟩from rfl,hsn]at hqr'
 have hll:(rs++[(⟨x.us.length,so,⟨rA,rc,rcs,l.xs⟩⟩:OuO)]).length=x.us.length+1:=by rw[List.length_append,List.length_singleton,hrl]
 have hfin':=hfin qA' qc' qcs' (rs++[(⟨x.us.length,so,⟨rA,rc,rcs,l.xs⟩⟩:OuO)]) (l.xs.length:Int) true _ (by rw[hll];exact hqr') (fun r hr=>by
  rcases List.mem_append.1 hr with hr|hr
  ·exact hok r hr
  ·rcases List.mem_singleton.1 hr with rfl;exact hrr) (by
  rw[List.map_append]
  refine hrv.snoc (by rw[List.length_map];omega) ⟨by rw[List.length_map,hrl];rfl,h1,h2,h4,hlv⟩) (OuO.perm (r:=⟨x.us.length,so,⟨rA,rc,rcs,l.xs⟩⟩) (L:=[⟨qA',192,qcs'⟩]) (hm.sub (List.Sublist.cons _ (List.Sublist.refl _)))) (by omega)
 rw[hll]at hfin'
 exact gRetN tab hs rfl (.cons (.tmp rfl) (.cons (.tmp rfl) (.cons (.tmp rfl) .nil))) hfin'
section
variable {P:Program} {T:List (Nat × TI)} {N:Nat} {L:List (Nat × Value)} {a:Act} {w:World} {o:Oper} {x y z:Operand} {t e:TypeId} {i j:TI} {A:Option Addr} {n c:Nat} {k k2:IntKind}
theorem r_cutFG{l:Nat}(hs:Sl N L a)(ho:o.op= .slice t x (some y) none none)(hx:ev L x=some (.slice A n c))(hy:ev L y=some (.int k (l:Int)))(hT:TabOk P T)(hc:tlk T t=some i)(hd:i.d= .sl e)(he:tlk T e=some j)(h1:l≤n):RunV P a o w (.slice (if c=l then A else A.map (·.add (l*j.sz))) (n-l) (c-l)):=
 r_sliceFrom hs ho hx hy hT hc hd he (Int.natCast_nonneg l) (by omega)
theorem r_cutTG{l:Nat}(hs:Sl N L a)(ho:o.op= .slice t x none (some y) none)(hx:ev L x=some (.slice A n c))(hy:ev L y=some (.int k (l:Int)))(hT:TabOk P T)(hc:tlk T t=some i)(hd:i.d= .sl e)(he:tlk T e=some j)(h1:l≤c):RunV P a o w (.slice A l c):=
 r_sliceTo hs ho hx hy hT hc hd he (Int.natCast_nonneg l) (by omega)
end
structure InL where
 A:Option Addr
 c:Nat
 qs:List WV
def InL.v(x:InL):Value:= .slice x.A x.qs.length x.c
structure InL.ok(x:InL)(w:World):Prop where
 q:Rd w w.heap.size x.A (x.qs.map WV.v)
 d:∀y∈x.qs,y.ok w
theorem InL.ok.pu{x:InL}{w w':World}(h:x.ok w)(hf:Pu w w'):x.ok w':=⟨hf.rd' h.q,fun y hy=>(h.d y hy).pu hf⟩
structure InL.val(x:InL):Prop where
 n:x.qs.length≤2
 l:∀q∈x.qs,q.xs.length≤q.c∧q.xs.length≤64∧∀v∈q.xs,0≤v∧v≤65535
theorem InL.of{S:Nat→Prop}{w0 w:World}{M:List Hp}{qA:Option Nat}{qc:Nat}{qcs:List Value}{rs:List WS}(hm:Mm S w0 M w)(hM:∀h∈(⟨qA,74,qcs⟩:Hp)::rs.map WS.hp,h∈M)(hr:Row qA rs.length qc 1 (rs.map WS.v) qcs)(ho:∀r∈rs,r.ok):InL.ok ⟨ad qA,qc,rs.map WS.rd⟩ w:=⟨by dsimp only;rw[WS.rds_v];exact hm.rd_row (hM _ (List.mem_cons_self ..)) hr,fun y hy=>by
 obtain⟨z,hz,rfl⟩:=List.mem_map.1 hy
 exact WS.rd_ok hm (hM _ (List.mem_cons_of_mem _ (List.mem_map.2 ⟨z,hz,rfl⟩))) (ho z hz)⟩
theorem InL.of_val{x:InL}{qA:Option Nat}{qc:Nat}{rs:List WS}(h:x.val)(he:rs.map WS.xs=x.qs.map WV.xs)(ho:∀r∈rs,r.ok):InL.val ⟨ad qA,qc,rs.map WS.rd⟩:=⟨by
 have:=congrArg List.length he
 rw[List.length_map,List.length_map]at this
 dsimp only
 rw[List.length_map,this]
 exact h.n,fun y hy=>by
 obtain⟨z,hz,rfl⟩:=List.mem_map.1 hy
 have hzx:z.xs∈x.qs.map WV.xs:=he▸List.mem_map.2 ⟨z,hz,rfl⟩
 obtain⟨q,hq,e⟩:=List.mem_map.1 hzx
 have:=h.l q hq
 rw[e]at this
 exact⟨Row.le (ho z hz),this.2.1,this.2.2⟩⟩
theorem InL.on{qA:Option Nat}{qc:Nat}{qcs:List Value}{rs:List WS}(hr:Row qA rs.length qc 1 (rs.map WS.v) qcs)(ho:∀r∈rs,r.ok):On (⟨qA,74,qcs⟩::rs.map WS.hp) (InL.ok ⟨ad qA,qc,rs.map WS.rd⟩):=fun _ _ _ _ hm hM=>InL.of hm hM hr ho
theorem wds_cut{w:World}{B:Nat}{A:Option Addr}{xs:List Int}(h:Rd w B A (wds xs)){o c:Nat}(hok:o≤xs.length)(hc:xs.length≤c):Rd w B (if c=o then A else A.map (·.add (o*1))) (wds (xs.drop o)):=by
 have e:∀l:List Int,wds l=l.flatMap (fun v=>[Value.int .u16 v]):=fun l=>by
  unfold wds
  induction l with
  |nil=>rfl
  |cons a t ih=>rw[List.map_cons,List.flatMap_cons,←ih];rfl
 rw[e]at h
 have:=rd_cut (s:=1) (fun _=>rfl) h (o:=o) (k:=xs.length-o) (c:=c) (by omega) hc
 rw[List.take_of_length_le (by rw[List.length_drop];omega),←e]at this
 exact this
theorem WS.mem_hp{l:List WS}{k:Nat}{q:WS}(h:l[k]?=some q):q.hp∈l.map WS.hp:=List.mem_map.2 ⟨q,List.mem_of_getElem? h,rfl⟩
theorem recv_c(x:InL)(so n:Int)(wB:World)(hx:x.ok wB)(h:x.val):Ret Tryz.prog 138 [x.v,.int .i64 so,.int .i64 n] wB (fun u w'=>∃(y:InL)(l:CnS)(b:Bool)(R:List Hp),u= .tuple #[y.v,l.v,.bool b]∧On R y.ok∧On R l.ok∧New wB w' R∧y.val∧(∀c∈l.xs,c.val)∧l.xs.length≤64∧(l.xs.length:Int)≤max 0 n∧Pu wB w'):=by
 have hn:=h.n
 have k1:=fun w'' (hf:Pu wB w'')=>cpin_c x.A x.c x.qs w'' (hx.pu hf).q (hx.pu hf).d (by omega) (fun q hq=>by have:=(h.l q hq).2.1;omega)
 unfold InL.v
 refine enterR Tryz.func138 rfl rfl rfl fun a hs hm=>?_
 refine gs5c3d_ ?_;clear hs hm a;intros;rename_i a hm hs
 refine st hs rfl rfl rfl (d_call hs rfl rfl rfl (pl 103 rfl) ((k1 _ hm.fr))) ?_;clear hs a;rintro _ w1 ⟨qA,qc,qcs,rs,rfl,hqr,hok,hab,hrl,hN,hf⟩ a hs
 replace hm:=gainE hm hf hN
 clear hN hf k1
 simp only[List.nil_append]at hm
 have hlen:∀(j:Nat)(r:WS),rs[j]?=some r→∃q,x.qs[j]?=some q∧r.xs=q.xs:=fun j r hj=>by
  have:=congrArg (fun l=>l[j]?) hab
  simp only[List.getElem?_map,hj,Option.map_some]at this
  cases hq:x.qs[j]? with
  |none=>rw[hq]at this;cases this
  |some q=>rw[hq]at this;exact⟨q,rfl,Option.some.inj this⟩
 have hrv:∀r∈rs,r.xs.length≤r.c∧r.xs.length≤64∧∀v∈r.xs,0≤v∧v≤65535:=fun r hr=>by
  obtain⟨j,hj,rfl⟩:=List.getElem_of_mem hr
  obtain⟨q,hq,e⟩:=hlen j _ (List.getElem?_eq_getElem hj)
  have:=h.l q (List.mem_of_getElem? hq)
  exact⟨Row.le (hok _ (List.getElem_mem hj)),by rw[e];exact this.2.1,by rw[e];exact this.2.2⟩
 have hno:∀(w':World),Mm (fun _=>False) wB (⟨qA,74,qcs⟩::rs.map WS.hp) w'→∃(y:InL)(l:CnS)(b:Bool)(R:List Hp),Value.tuple #[slv qA rs.length qc,nS,.bool false]= .tuple #[y.v,l.v,.bool b]∧On R y.ok∧On R l.ok∧New wB w' R∧y.val∧(∀c∈l.xs,c.val)∧l.xs.length≤64∧(l.xs.length:Int)≤max 0 n∧Pu wB w':=fun w' hM=>by
  refine⟨⟨ad qA,qc,rs.map WS.rd⟩,⟨none,0,[]⟩,false,_,by unfold InL.v;dsimp only;rw[List.length_map];rfl,InL.on hqr hok,(fun _ _ _ _ _ _=>nilC_ok 0 _),hM.new (List.Sublist.refl _),⟨by dsimp only;rw[List.length_map];omega,fun y hy=>?_⟩,(fun c hc=>by cases hc),Nat.zero_le _,(by show((0:Nat):Int)≤_;omega),hM.fr⟩
  obtain⟨z,hz,rfl⟩:=List.mem_map.1 hy
  exact hrv z hz
 by_cases h1:0≤so
 rotate_left
 ·refine gs5c3d_ ?_;clear hs hm a;intros;rename_i a hm hs
  exact z27a2_
 by_cases h2:so<(x.qs.length:Int)
 rotate_left
 ·refine gs5c3d_ ?_;clear hs hm a;intros;rename_i a hm hs
  exact z27a2_
 by_cases h3:0≤n
 rotate_left
 ·refine gs5c3d_ ?_;clear hs hm a;intros;rename_i a hm hs
  exact z27a2_
 obtain⟨k,rfl⟩:∃k:Nat,so=(k:Int):=⟨so.toNat,by omega⟩
 have hk:k<x.qs.length:=by omega
 obtain⟨b1,o1,hA,hb1,r1⟩:=hx.q.ro (by rw[List.length_map];omega)
 obtain⟨q,hq⟩:∃q,x.qs[k]?=some q:=⟨_,List.getElem?_eq_getElem hk⟩
 have hqm:=List.mem_of_getElem? hq
 have hcell:(x.qs.map WV.v)[k]?=some (.slice q.A q.xs.length q.c):=by rw[List.getElem?_map,hq];rfl
 have hqo:Rd wB wB.heap.size q.A (wds q.xs):=hx.d q hqm
 obtain⟨hqc,hqn,hqv⟩:=h.l q hqm
 obtain⟨kk,hkk⟩:∃kk:Nat,min n (q.xs.length:Int)=(kk:Int):=⟨(min n (q.xs.length:Int)).toNat,by omega⟩
 obtain⟨r,hr⟩:∃r,rs[k]?=some r:=⟨_,List.getElem?_eq_getElem (by omega)⟩
 obtain⟨q',hq',hrq⟩:=hlen k r hr
 rw[hq]at hq'
 obtain rfl:=Option.some.inj hq'
 have hrk:=hok r (List.mem_of_getElem? hr)
 have hqle:r.xs.length≤r.c:=Row.le hrk
 have hqcs:qcs[k]?=some (slv r.A r.xs.length r.c):=hqr.get (by rw[List.getElem?_map,hr];rfl)
 obtain⟨gq,rfl⟩:=hqr.some_ (by omega)
 have hql:=hqr.len
 have hqle2:=hqr.le
 rw[hrq]at hqcs hqle
 rw[hA]at hs
 refine gs5c3d_ ?_;clear hs hm a;intros;rename_i a hm hs
 rw[hkk]at hs
 refine gs5c3d_ ?_;clear hs hm a;intros;rename_i a hm hs
 replace hm:=hm.zero 95
 refine cMidE (.exit 0) (fun a w=>∃r:CO,r.ok∧r.xs=numsC (q.xs.take kk)∧Sl Tryz.f138.ntmps [(1,.int .i64 (k:Int)),(9,slv (some gq) rs.length qc),(10,.int .i64 (kk:Int)),(11,slv r.A kk r.c)] a∧Mm (fun _=>False) wB (r.hp::⟨some gq,74,qcs⟩::rs.map WS.hp) w) ?_ ?_
 ·refine cLoop (X:=FmX) (fun X a w=>X.al.length≤kk∧X.al=numsC (q.xs.take X.al.length)∧Row X.A X.al.length X.c 4 (cns X.al) X.cs∧Sl Tryz.f138.ntmps [(1,.int .i64 (k:Int)),(9,slv (some gq) rs.length qc),(10,.int .i64 (kk:Int)),(11,slv X.A X.al.length X.c),(41,.slice q.A kk q.c),(42,.int .i64 (kk:Int)),(43,.int .i64 (X.al.length:Int))] a∧Mm (fun _=>False) wB (⟨X.A,95,X.cs⟩::⟨some gq,74,qcs⟩::rs.map WS.hp) w) (fun X=>kk-X.al.length) ⟨[],none,0,[]⟩ ⟨Nat.zero_le _,rfl,Row.empty 4,(sb_ hs),hm⟩ ?_
  clear hs hm a
  rintro⟨al,lA,lc,lcs⟩ a w ⟨i1,i2,i3,hs,hm⟩
  dsimp only at i1 i2 i3 hs hm
  by_cases hl2:al.length<kk
  ·have hl3:al.length<q.xs.length:=by omega
   obtain⟨b2,o2,hA2,hb2,r2⟩:=hqo.ro (by rw[wds_len2];omega)
   have hcw:(wds q.xs)[al.length]?=some (.int .u16 q.xs[al.length]):=by unfold wds;rw[List.getElem?_map,List.getElem?_eq_getElem hl3];rfl
   have hsn:al++[numC q.xs[al.length]]=numsC (q.xs.take (al.length+1)):=by
    rw[List.take_succ_eq_append_getElem hl3]
    unfold numsC at i2 ⊢
    rw[List.map_append,←i2]
    rfl
   generalize q.xs[al.length]=v at hcw hsn
   rw[hA2]at hs
   refine gs5c3d_ ?_;clear hs hm a;intros;rename_i a hm hs
   refine dv hs (Wnt.none rfl) rfl rfl (d_append (A:=lA) (n:=al.length) (c:=lc) (news:=(numC v).cs) hs rfl rfl rfl rfl rfl tab rfl rfl rfl rfl rfl hm mem_ i3 rfl (hm.ro (n:=4) mem_ (cutF_ok rfl)) rfl (by show(al.length+1)*24≤_;omega) (by omega)) ?_
   clear hs
   rintro _ w4 ⟨A',c',cs',rfl,hr',hM⟩ a hs
   replace hm:=hM _ rep_
   clear hM
   rw[show cns al++(numC v).cs=cns (al++[numC v]) by unfold cns;rw[List.flatMap_append,List.flatMap_singleton]]at hr'
   refine gs5c3d_ ?_;clear hs hm a;intros;rename_i a hm hs
   rw[←hA2]at hs
   refine⟨⟨al++[numC v],A',c',cs'⟩,by dsimp only;rw[List.length_append,List.length_singleton];omega,?_⟩
   dsimp only
   rw[List.length_append,List.length_singleton]
   exact⟨hl2,hsn,hr',(sb_ hs),hm.sub (List.Sublist.cons _ (List.Sublist.refl _))⟩
  ·have hle:al.length=kk:=by omega
   refine gs5c3d_ ?_;clear hs hm a;intros;rename_i a hm hs
   rw[hle]at hs
   rw[hle]at i2
   have hll:al.length=kk:=hle
   exact And.intro rfl ⟨⟨lA,lc,lcs,al⟩,i3,i2,by dsimp only;exact(sb_ hs),hm⟩
 clear hs hm a
 rintro a w ⟨l,hlo,hlx,hs,hm⟩
 have hll:l.xs.length=kk:=by rw[hlx];unfold numsC;rw[List.length_map,List.length_take];omega
 refine gs5c3d_ ?_;clear hs hm a;intros;rename_i a hm hs
 have hqr':=hqr.set k (.slice (if r.c=kk then ad r.A else(ad r.A).map (·.add (kk*1))) (q.xs.length-kk) (r.c-kk))
 have hrr:∀{S:Nat→Prop}{w0 w:World}{M:List Hp},Mm S w0 M w→(∀h∈rs.map WS.hp,h∈M)→Rd w w.heap.size (ad r.A) (wds q.xs):=fun hm hM=>by
  have:=WS.rd_ok hm (hM _ (WS.mem_hp hr)) hrk
  unfold WV.ok WS.rd at this
  dsimp only at this
  rwa[hrq]at this
 refine gRetN tab hs rfl (.cons (.tmp rfl) (.cons (.tmp rfl) (.cons (.tmp rfl) .nil))) ⟨⟨some ⟨gq,0,none⟩,qc,(rs.map WS.rd).set k ⟨if r.c=kk then ad r.A else(ad r.A).map (·.add (kk*1)),r.c-kk,q.xs.drop kk⟩⟩,l.rd,true,_,by dsimp only;rw[List.length_set,List.length_map,CO.rd_v];unfold CO.v;rw[hll];rfl,fun _ _ _ _ hm hM=>⟨?_,fun y hy=>?_⟩,(CO.on hlo).more (fun x hx=>?_),hm.new (List.Sublist.refl _),⟨by dsimp only;rw[List.length_set,List.length_map];omega,fun y hy=>?_⟩,fun c hc=>?_,by show l.xs.length≤64;omega,by show(l.xs.length:Int)≤_;omega,hm.fr⟩
 ·dsimp only
  rw[List.map_set,WS.rds_v,show WV.v ⟨if r.c=kk then ad r.A else(ad r.A).map (·.add (kk*1)),r.c-kk,q.xs.drop kk⟩= .slice (if r.c=kk then ad r.A else(ad r.A).map (·.add (kk*1))) (q.xs.length-kk) (r.c-kk) by unfold WV.v;dsimp only;rw[List.length_drop]]
  exact hm.rd_row (hM _ (List.mem_cons_of_mem _ (List.mem_cons_self ..))) hqr'
 ·dsimp only at hy
  rcases List.mem_or_eq_of_mem_set hy with hy|rfl
  ·obtain⟨z,hz,rfl⟩:=List.mem_map.1 hy
   exact WS.rd_ok hm (hM _ (List.mem_cons_of_mem _ (List.mem_cons_of_mem _ (List.mem_map.2 ⟨z,hz,rfl⟩)))) (hok z hz)
  ·exact wds_cut (hrr hm fun h hh=>hM _ (List.mem_cons_of_mem _ (List.mem_cons_of_mem _ hh))) (by omega) (by omega)
 ·rcases List.mem_singleton.1 hx with rfl
  exact List.mem_cons_self ..
 ·dsimp only at hy
  rcases List.mem_or_eq_of_mem_set hy with hy|rfl
  ·obtain⟨z,hz,rfl⟩:=List.mem_map.1 hy
   exact hrv z hz
  ·exact⟨by dsimp only;rw[List.length_drop];omega,by dsimp only;rw[List.length_drop];omega,fun v hv=>hqv v (List.mem_of_mem_drop hv)⟩
 ·rw[show l.rd.xs=l.xs from rfl,hlx]at hc
  obtain⟨v,hv,rfl⟩:=List.mem_map.1 hc
  exact CN.num_val (hqv v (List.mem_of_mem_take hv))
theorem gpShd0_{G H:Prop}(k:H)(s:Bx H→G:=by intro k_;(repeat(first|(refine ovR_ ?_;(try clear hs a);intro a hs)|((with_reducible apply lCons);first|(refine dv hs gw_ rfl rfl da_ ?_;(try clear hs hm a);rintro _ w_ ⟨g_,rfl,-,hm⟩ a hs)|(refine stn hs rfl rfl ds_ ?_;(try clear hs hm a);rintro-w_ hm a hs))|refine sc_ ?_));have m_:=hm;have s_:=hs;clear hs;(try clear hm);revert m_ s_ a;(try revert w_);(repeat revert g_);exact k_.h):G:=s ⟨k⟩
structure OV where
 ck:WV
 rn:WV
 ins:InL
 f:FV
 us:OuL
abbrev OV.cl(x:OV)(t:List Value):List Value:= .slice x.ck.A x.ck.xs.length x.ck.c:: .slice x.rn.A x.rn.xs.length x.rn.c:: .slice x.ins.A x.ins.qs.length x.ins.c::t
def OV.vs(x:OV):List Value:=[.slice x.ck.A x.ck.xs.length x.ck.c,.slice x.rn.A x.rn.xs.length x.rn.c,.slice x.ins.A x.ins.qs.length x.ins.c,.slice x.f.dA x.f.ds.length x.f.dc,.slice x.f.oA x.f.os.length x.f.oc,.slice x.us.A x.us.us.length x.us.c]
def OV.v(x:OV):Value:= .agg #[.slice x.ck.A x.ck.xs.length x.ck.c,.slice x.rn.A x.rn.xs.length x.rn.c,.slice x.ins.A x.ins.qs.length x.ins.c,.slice x.f.dA x.f.ds.length x.f.dc,.slice x.f.oA x.f.os.length x.f.oc,.slice x.us.A x.us.us.length x.us.c]
structure OV.ok(x:OV)(w:World):Prop where
 ck:x.ck.ok w
 rn:x.rn.ok w
 ins:x.ins.ok w
 f:x.f.ok w
 us:x.us.ok w
theorem OV.ok.pu{x:OV}{w w':World}(h:x.ok w)(hf:Pu w w'):x.ok w':=⟨h.ck.pu hf,h.rn.pu hf,h.ins.pu hf,h.f.pu hf,h.us.pu hf⟩
def WV.fit(q:WV):Prop:=q.xs.length≤q.c∧q.xs.length≤64∧∀v∈q.xs,0≤v∧v≤65535
structure OV.val(x:OV):Prop where
 ck:x.ck.fit
 rn:x.rn.fit
 ins:x.ins.val
 f:x.f.d'.val
 us:OuS x.us.l
theorem oval_c(x:OV)(wB:World)(hx:x.ok wB)(h:x.val):Ret Tryz.prog 83 [x.v] wB (fun u w'=>u= .bool true∧Pu wB w'):=by
 have hin:=h.ins.n
 have hun:=OuL.len_ h.us
 have hc1:=h.ck.2.1
 have hr1:=h.rn.2.1
 have kf:=fun w'' (hf:Pu wB w'')=>fval_c x.f w'' (hx.pu hf).f h.f
 have ko:=fun w'' (hf:Pu wB w'')=>ord_c x.us w'' (hx.pu hf).us h.us
 unfold FV.v at kf
 unfold OuL.v at ko
 unfold OV.v
 refine enterR Tryz.func83 rfl rfl rfl fun a hs hm=>?_
 refine gsce98_ ?_;clear hs hm a;intros;rename_i a hm hs
 obtain⟨g1,rfl⟩:=hs.pp 1
 refine cLoop (X:=Nat) (fun k a w'=>k≤x.ins.qs.length∧Sl Tryz.f83.ntmps [(1,.pointer (some ⟨g1,0,none⟩)),(8,.slice x.ins.A x.ins.qs.length x.ins.c),(9,.int .i64 (x.ins.qs.length:Int)),(10,.int .i64 (k:Int))] a∧Mm (fun _=>False) wB [⟨some g1,81,x.vs⟩] w') (fun k=>x.ins.qs.length-k) 0 ⟨Nat.zero_le _,(sb_ hs),hm⟩ ?_
 clear hs hm a
 rintro k a w' ⟨hk,hs,hm⟩
 unfold OV.vs at hm
 by_cases hlt:k<x.ins.qs.length
 ·obtain⟨b1,o1,hA,hb1,r1⟩:=hx.ins.q.ro (by rw[List.length_map];omega)
  have hcell:(x.ins.qs.map WV.v)[k]?=some (.slice (x.ins.qs[k]).A (x.ins.qs[k]).xs.length (x.ins.qs[k]).c):=by rw[List.getElem?_map,List.getElem?_eq_getElem hlt];rfl
  have hq:=(h.ins.l _ (List.getElem_mem hlt)).2.1
  generalize x.ins.qs[k]=q at hcell hq
  rw[hA]at hs hm
  refine gsce98_ ?_;clear hs hm a;intros;rename_i a hm hs
  rw[←hA]at hs hm
  exact zb7e7_
 ·obtain rfl:k=x.ins.qs.length:=by omega
  refine gsce98_ ?_;clear hs hm a;intros;rename_i a hm hs
  refine cLoop (X:=Nat) (fun k a w'=>k≤x.us.us.length∧Sl Tryz.f83.ntmps [(1,.pointer (some ⟨g1,0,none⟩)),(19,.slice x.us.A x.us.us.length x.us.c),(20,.int .i64 (x.us.us.length:Int)),(21,.int .i64 (k:Int))] a∧Mm (fun _=>False) wB [⟨some g1,81,x.vs⟩] w') (fun k=>x.us.us.length-k) 0 ⟨Nat.zero_le _,(sb_ hs),hm⟩ ?_
  clear hs hm a
  rintro k a w' ⟨hk,hs,hm⟩
  unfold OV.vs at hm
  by_cases hlt:k<x.us.us.length
  ·obtain⟨b1,o1,hA,hb1,r1⟩:=hx.us.u.ro (by rw[flat_len OuV.v 3 OuV.len];omega)
   have r2:=r1.flat OuV.len hlt
   have hqm:=List.getElem_mem hlt
   obtain⟨h1,h2⟩:=OuL.mem_ h.us hqm
   have hqo:=hx.us.d _ hqm
   generalize x.us.us[k]=q at r2 h1 h2 hqo
   unfold OuV.v at r2
   have kc:=fun w'' (hf:Pu wB w'')=>ccls_c q.d 16 w'' (hqo.pu hf) h2 (by omega) (by omega)
   unfold CnS.v at kc
   rw[hA]at hs hm
   repeat(first|(refine gpShd0_ ?_;clear hs hm a;intros;rename_i a hm hs)|refine sc_ ?_|((with_reducible apply lCons);first|(refine dvc hs hm gw_ rfl rfl rfl rfl rfl (pl 96 rfl) (kc _ hm.fr) ?_;clear hs hm a;intro w hm a hs)))
   rw[←hA]at hs hm
   exact zfe81_
  ·obtain rfl:k=x.us.us.length:=by omega
   repeat(first|(refine gpShd0_ ?_;clear hs hm a;intros;rename_i a hm hs)|refine sc_ ?_|((with_reducible apply lCons);first|(refine dvc hs hm gw_ rfl rfl rfl rfl rfl (pl 101 rfl) (kf _ hm.fr) ?_;clear hs hm a;intro w hm a hs)|(refine dvc hs hm gw_ rfl rfl rfl rfl rfl (pl 102 rfl) (ko _ hm.fr) ?_;clear hs hm a;intro w hm a hs)))
   exact gRet1 hs rfl rfl ⟨rfl,hm.fr⟩
theorem ocpy_c(x:OV)(wB:World)(hx:x.ok wB)(h:x.val):Ret Tryz.prog 85 [x.v] wB (fun u w'=>∃(y:OV)(R:List Hp),u=y.v∧On R y.ok∧New wB w' R∧y.val∧y.ck.xs=x.ck.xs∧y.rn.xs=x.rn.xs∧Pu wB w'):=by
 have hin:=h.ins.n
 have hun:=OuL.len_ h.us
 have hc1:=h.ck.2.1
 have hr1:=h.rn.2.1
 have hfn:=h.f.n
 rw[FV.len_]at hfn
 have hfo:x.f.os.length=8:=h.f.o
 have hck:Rd wB wB.heap.size x.ck.A (wds x.ck.xs):=hx.ck
 have hrn:Rd wB wB.heap.size x.rn.A (wds x.rn.xs):=hx.rn
 have ki:=fun w'' (hf:Pu wB w'')=>cpin_c x.ins.A x.ins.c x.ins.qs w'' (hx.pu hf).ins.q (hx.pu hf).ins.d (by omega) (fun q hq=>by have:=(h.ins.l q hq).2.1;omega)
 have kf:=fun w'' (hf:Pu wB w'')=>fcp_c x.f w'' (hx.pu hf).f (by omega) (by omega) (fun q hq=>by have:=(h.f.d _ (FV.mem_ hq)).1;omega)
 have ko:=fun w'' (hf:Pu wB w'')=>ocp_c x.us.A x.us.c x.us.us w'' (hx.pu hf).us.u (hx.pu hf).us.d (by omega) (fun q hq=>by have:=(OuL.mem_ h.us hq).1;omega)
 unfold FV.v at kf
 unfold OV.v
 refine enterR Tryz.func85 rfl rfl rfl fun a hs hm=>?_
 refine gsc5af_ ?_;clear hs hm a;intros;rename_i a hm hs
 obtain⟨g1,rfl⟩:=hs.pp 1
 obtain⟨g2,rfl⟩:=hs.pp 2
 refine cMid (fun a w=>∃(y:OV)(R:List Hp),On R y.ok∧y.val∧y.ck.xs=x.ck.xs∧y.rn.xs=x.rn.xs∧Sl Tryz.f85.ntmps [(2,.pointer (some ⟨g2,0,none⟩))] a∧Mm (fun _=>False) wB (⟨some g2,81,y.vs⟩::R) w) ?_ ?_
 ·with_reducible repeat(first|apply gThen|apply wp_seq)
  refine cDrawT (n:=17) (.s [0,1,3,4,6,7,9,10,12,13]<| .o 2<| .x<| .o 5<| .x<| .o 8<| .x<| .o 11<| .x<| .o 14<| .x<| .t 15<| .o 16<| .d) [⟨some g1,81,[.slice x.ck.A x.ck.xs.length x.ck.c,.slice x.rn.A x.rn.xs.length x.rn.c,.slice x.ins.A x.ins.qs.length x.ins.c,.slice x.f.dA x.f.ds.length x.f.dc,.slice x.f.oA x.f.os.length x.f.oc,.slice x.us.A x.us.us.length x.us.c]⟩] hm rfl rfl ?_
  clear hm;intro t_ w1_ hm
  repeat' (first|(refine dg149e_ ?_;clear t_ hs hm a;intros;rename_i a hm hs t_)|refine tE t_ ?_|refine tC ?_ ?_|exact tN|intro t_|(refine oDo (i:=2) hs rfl (Wnt.none rfl) rfl rfl (by exact d_appendS (A:=none) (n:=0) (c:=0) (xs:=[]) (news:=wds x.ck.xs) hs rfl rfl rfl rfl tab rfl rfl rfl rfl rfl (hm.zero 23) mem_ (Row.empty 1) (wds_len2 _) (hm.fr.rd' hck) (wds_one2 _) (by show(0+x.ck.xs.length)*2≤_;omega) (by omega)) ?_;clear hs;rintro _ w1 ⟨cA,cc,ccs,rfl,hcr,hM⟩ a hs;(replace hm:=hM _ rep_);(clear hM);(rw[Nat.zero_add,List.nil_append]at hcr);(rw[Nat.zero_add]at hs);replace t_:=tX t_;refine⟨(hm.sub sub_),?_⟩)|(refine oDo (i:=5) hs rfl (Wnt.none rfl) rfl rfl (by exact d_appendS (A:=none) (n:=0) (c:=0) (xs:=[]) (news:=wds x.rn.xs) hs rfl rfl rfl rfl tab rfl rfl rfl rfl rfl (hm.zero 23) mem_ (Row.empty 1) (wds_len2 _) (hm.fr.rd' hrn) (wds_one2 _) (by show(0+x.rn.xs.length)*2≤_;omega) (by omega)) ?_;clear hs;rintro _ w1 ⟨rA,rc,rcs,rfl,hrr,hM⟩ a hs;(replace hm:=hM _ rep_);(clear hM);(rw[Nat.zero_add,List.nil_append]at hrr);(rw[Nat.zero_add]at hs);replace t_:=tX t_;refine⟨(hm.sub sub_),?_⟩)|(refine oDo (i:=8) hs rfl (Wnt.none rfl) rfl rfl (by exact d_call hs rfl rfl rfl (pl 103 rfl) ((ki _ hm.fr))) ?_;clear hs;rintro _ w1 ⟨qA,qc,qcs,rs,rfl,hqr,hqo,hqe,hql,hN,hf⟩ a hs;(replace hm:=gainE hm hf hN);(clear hf hN);(try simp only[List.cons_append,List.nil_append,List.append_assoc]at hm);replace t_:=tX t_;refine⟨(hm.sub sub_),?_⟩)|(refine oDo (i:=11) hs rfl (Wnt.none rfl) rfl rfl (by exact d_call hs rfl rfl rfl (pl 104 rfl) ((kf _ hm.fr))) ?_;clear hs;rintro _ w1 ⟨fy,rfl,hfy,hfd,hfl,hN,hf⟩ a hs;(replace hm:=gainE hm hf hN);(clear hf hN);(try simp only[List.cons_append,List.nil_append,List.append_assoc]at hm);replace t_:=tX t_;refine⟨(hm.sub sub_),?_⟩)|(refine oDo (i:=14) hs rfl (Wnt.none rfl) rfl rfl (by exact d_call hs rfl rfl rfl (pl 105 rfl) ((ko _ hm.fr))) ?_;clear hs;rintro _ w1 ⟨uA,uc,ucs,us,rfl,hur,huo,hue,hul,hN,hf⟩ a hs;(replace hm:=gainE hm hf hN);(clear hf hN);(try simp only[List.cons_append,List.nil_append,List.append_assoc]at hm);replace t_:=tX t_;refine⟨(hm.sub sub_),?_⟩)|(refine tD t_ ?_;(have hvs:OV.vs ⟨⟨ad cA,cc,x.ck.xs⟩,⟨ad rA,rc,x.rn.xs⟩,⟨ad qA,qc,rs.map WS.rd⟩,fy.rd,⟨ad uA,uc,us.map OuO.rd⟩⟩=[slv cA x.ck.xs.length cc,slv rA x.rn.xs.length rc,slv qA rs.length qc,slv fy.dA fy.ds.length fy.dc,slv fy.oA fy.os.length fy.oc,slv uA us.length uc]:=by unfold OV.vs FO.rd;dsimp only;rw[List.length_map,List.length_map,List.length_map];rfl);(have hin':=InL.on hqr hqo);(have hu':=OuL.on hur huo);(refine And.intro rfl ⟨⟨⟨ad cA,cc,x.ck.xs⟩,⟨ad rA,rc,x.rn.xs⟩,⟨ad qA,qc,rs.map WS.rd⟩,fy.rd,⟨ad uA,uc,us.map OuO.rd⟩⟩,⟨rA,23,rcs⟩::⟨cA,23,ccs⟩::⟨qA,74,qcs⟩::(rs.map WS.hp++(fy.hps++⟨uA,192,ucs⟩::us.map OuO.hp)),fun S w0 w M hm hM=>⟨hm.rd_row (hM _ (List.mem_cons_of_mem _ (List.mem_cons_self ..))) hcr,hm.rd_row (hM _ (List.mem_cons_self ..)) hrr,hin'.now hm fun z hz=>hM z (by simp only[List.mem_cons,List.mem_append]at hz ⊢;(first|(rcases hz with hz|hz<;>simp[hz])|simp[hz])),(FO.on hfy).now hm fun z hz=>hM z (by simp only[List.mem_cons,List.mem_append]at hz ⊢;(first|(rcases hz with hz|hz<;>simp[hz])|simp[hz])),hu'.now hm fun z hz=>hM z (by simp only[List.mem_cons,List.mem_append]at hz ⊢;(first|(rcases hz with hz|hz<;>simp[hz])|simp[hz]))⟩,⟨⟨Row.le hcr,h.ck.2⟩,⟨Row.le hrr,h.rn.2⟩,InL.of_val h.ins hqe hqo,by rw[FO.rd_d,hfd];exact h.f,by unfold OuL.l;dsimp only;rw[OuO.rds_d,hue];exact h.us⟩,rfl,rfl,(sb_ hs),?_⟩);(rw[hvs]);(exact(hm.sub (M':=⟨rA,23,rcs⟩::⟨cA,23,ccs⟩::⟨some g2,81,[slv cA x.ck.xs.length cc,slv rA x.rn.xs.length rc,slv qA rs.length qc,slv fy.dA fy.ds.length fy.dc,slv fy.oA fy.os.length fy.oc,slv uA us.length uc]⟩::⟨qA,74,qcs⟩::(rs.map WS.hp++(fy.hps++⟨uA,192,ucs⟩::us.map OuO.hp))) sub_).perm (List.perm_middle (l₁:=[_,_])).symm))|fail)
 clear hs hm a
 rintro a w ⟨y,R,ho,hv,hc1,hc2,hs,hm⟩
 refine gsc5af_ ?_;clear hs hm a;intros;rename_i a hm hs
 exact gRetN tab hs rfl (.cons (.cells rfl rfl rfl rfl (hm.ro (k:=0) (n:=6) (g:=g2) mem_ (cutF_ok rfl))) .nil) ⟨y,R,rfl,ho,hm.new (List.Sublist.cons _ (List.Sublist.refl _)),hv,hc1,hc2,hm.fr⟩
theorem obeg_c(A:Option Addr)(c:Nat)(qs:List WV)(x:InL)(ck rn:WV)(wB:World)(hx:Rd wB wB.heap.size A (qs.map WV.v))(hqs:∀q∈qs,q.ok wB)(hq1:qs.length≤4)(hqf:∀q∈qs,q.fit)(hi:x.ok wB)(hiv:x.val)(hck:ck.ok wB)(hckf:ck.fit)(hrn:rn.ok wB)(hrnf:rn.fit):Ret Tryz.prog 88 [.slice A qs.length c,x.v,ck.v,rn.v] wB (fun u w'=>∃(y:OV)(R:List Hp),u= .tuple #[y.v,.int .i64 0]∧On R y.ok∧New wB w' R∧y.val∧y.f.d'.ds=qs.map (fun q=>numsC q.xs)∧Pu wB w'):=by
 have hin:=hiv.n
 have hc1:=hckf.2.1
 have hr1:=hrnf.2.1
 have hck':Rd wB wB.heap.size ck.A (wds ck.xs):=hck
 have hrn':Rd wB wB.heap.size rn.A (wds rn.xs):=hrn
 have kn:=fun w'' (hf:Pu wB w'')=>fnew_c A c qs w'' (hf.rd' hx) (fun q hq=>(hqs q hq).pu hf) hq1 (fun q hq=>(hqf q hq).2.1) (fun q hq=>(hqf q hq).2.2)
 have ki:=fun w'' (hf:Pu wB w'')=>cpin_c x.A x.c x.qs w'' (hi.pu hf).q (hi.pu hf).d (by omega) (fun q hq=>by have:=(hiv.l q hq).2.1;omega)
 unfold InL.v WV.v
 refine enterR Tryz.func88 rfl rfl rfl fun a hs hm=>?_
 refine gsc5af_ ?_;clear hs hm a;intros;rename_i a hm hs
 obtain⟨g8,rfl⟩:=hs.pp 8
 refine st hs rfl rfl rfl (d_call hs rfl rfl rfl (pl 106 rfl) ((kn _ hm.fr))) ?_;clear hs a;rintro _ w1 ⟨fy,FR,rfl,hfo,hN,hfv,hfd,hf⟩ a hs
 replace hm:=gainE hm hf hN
 clear hf hN kn
 simp only[List.cons_append,List.nil_append]at hm
 unfold FV.v at hs
 refine gsc5af_ ?_;clear hs hm a;intros;rename_i a hm hs
 obtain⟨g10,rfl⟩:=hs.pp 10
 refine cMid (fun a w=>∃(y:OV)(R:List Hp)(g12:Nat)(h1 h2:Hp),On (h1::h2::R) y.ok∧y.val∧y.f.d'=fy.d'∧Sl Tryz.f88.ntmps [(8,.pointer (some ⟨g8,0,none⟩)),(12,.pointer (some ⟨g12,0,none⟩))] a∧Mm (fun _=>False) wB (⟨some g12,81,y.vs⟩::h1::h2::⟨some g8,81,[.slice none 0 0,.slice none 0 0,.slice none 0 0,.slice none 0 0,.slice none 0 0,.slice none 0 0]⟩::R) w) ?_ ?_
 ·with_reducible repeat(first|apply gThen|apply wp_seq)
  refine cDrawT (n:=10) (.s [0,2,4,6]<| .e [(1,.x<| .e [(3,.x<| .e [(5,.x<| .t 7<| .o 8<| .o 9<| .d),(8,.o 5<| .x<| .t 7<| .o 9<| .d)]),(8,.o 3<| .x<| .o 5<| .x<| .t 7<| .o 9<| .d)]),(8,.o 1<| .x<| .o 3<| .x<| .o 5<| .x<| .t 7<| .o 9<| .d)]) [⟨some g10,78,[.slice fy.dA fy.ds.length fy.dc,.slice fy.oA fy.os.length fy.oc]⟩] hm rfl rfl ?_
  clear hm;intro t_ w1_ hm
  repeat' (first|(refine dg149e_ ?_;clear t_ hs hm a;intros;rename_i a hm hs t_)|refine tE t_ ?_|refine tC ?_ ?_|exact tN|intro t_|(refine oDo (i:=1) hs rfl (Wnt.none rfl) rfl rfl (by exact d_appendS (A:=none) (n:=0) (c:=0) (xs:=[]) (news:=wds ck.xs) hs rfl rfl rfl rfl tab rfl rfl rfl rfl rfl (hm.zero 23) mem_ (Row.empty 1) (wds_len2 _) (hm.fr.rd' hck') (wds_one2 _) (by show(0+ck.xs.length)*2≤_;omega) (by omega)) ?_;clear hs;rintro _ w1 ⟨cA,cc,ccs,rfl,hcr,hM⟩ a hs;(replace hm:=hM _ rep_);(clear hM);(rw[Nat.zero_add,List.nil_append]at hcr);(rw[Nat.zero_add]at hs);replace t_:=tX t_;refine⟨(hm.sub sub_),?_⟩)|(refine oDo (i:=3) hs rfl (Wnt.none rfl) rfl rfl (by exact d_appendS (A:=none) (n:=0) (c:=0) (xs:=[]) (news:=wds rn.xs) hs rfl rfl rfl rfl tab rfl rfl rfl rfl rfl (hm.zero 23) mem_ (Row.empty 1) (wds_len2 _) (hm.fr.rd' hrn') (wds_one2 _) (by show(0+rn.xs.length)*2≤_;omega) (by omega)) ?_;clear hs;rintro _ w1 ⟨rA,rc,rcs,rfl,hrr,hM⟩ a hs;(replace hm:=hM _ rep_);(clear hM);(rw[Nat.zero_add,List.nil_append]at hrr);(rw[Nat.zero_add]at hs);replace t_:=tX t_;refine⟨(hm.sub sub_),?_⟩)|(refine oDo (i:=5) hs rfl (Wnt.none rfl) rfl rfl (by exact d_call hs rfl rfl rfl (pl 103 rfl) ((ki _ hm.fr))) ?_;clear hs;rintro _ w1 ⟨qA,qc,qcs,rs,rfl,hqr,hqo,hqe,hql,hN,hf⟩ a hs;(replace hm:=gainE hm hf hN);(clear hf hN);(try simp only[List.cons_append,List.nil_append,List.append_assoc]at hm);replace t_:=tX t_;refine⟨(hm.sub sub_),?_⟩)|(refine tD t_ ?_;(obtain⟨g12,rfl⟩:=hs.pp 12);(have hvs:OV.vs ⟨⟨ad cA,cc,ck.xs⟩,⟨ad rA,rc,rn.xs⟩,⟨ad qA,qc,rs.map WS.rd⟩,fy,⟨none,0,[]⟩⟩=[slv cA ck.xs.length cc,slv rA rn.xs.length rc,slv qA rs.length qc,.slice fy.dA fy.ds.length fy.dc,.slice fy.oA fy.os.length fy.oc,.slice none 0 0]:=by unfold OV.vs;dsimp only;rw[List.length_map];rfl);(have hin':=InL.on hqr hqo);(refine And.intro rfl ⟨⟨⟨ad cA,cc,ck.xs⟩,⟨ad rA,rc,rn.xs⟩,⟨ad qA,qc,rs.map WS.rd⟩,fy,⟨none,0,[]⟩⟩,FR++(⟨qA,74,qcs⟩::rs.map WS.hp),g12,⟨rA,23,rcs⟩,⟨cA,23,ccs⟩,fun S w0 w M hm hM=>⟨hm.rd_row (hM _ (List.mem_cons_of_mem _ (List.mem_cons_self ..))) hcr,hm.rd_row (hM _ (List.mem_cons_self ..)) hrr,hin'.now hm fun z hz=>hM z (by simp only[List.mem_cons,List.mem_append]at hz ⊢;(first|(rcases hz with hz|hz<;>simp[hz])|simp[hz])),hfo.now hm fun z hz=>hM z (by simp only[List.mem_cons,List.mem_append]at hz ⊢;(first|(rcases hz with hz|hz<;>simp[hz])|simp[hz])),⟨(fun h=>by cases h),(fun y hy=>by cases hy)⟩⟩,⟨⟨Row.le hcr,hckf.2⟩,⟨Row.le hrr,hrnf.2⟩,InL.of_val hiv hqe hqo,hfv,⟨Nat.zero_le _,(fun i x h=>by cases h)⟩⟩,rfl,(sb_ hs),?_⟩);(rw[hvs]);(first|exact hm.sub (List.Sublist.cons_cons _ (List.Sublist.cons_cons _ (List.Sublist.cons_cons _ (List.Sublist.cons _ (List.Sublist.refl _)))))|exact(hm.sub (List.Sublist.cons_cons _ (List.Sublist.cons_cons _ (List.Sublist.cons_cons _ (List.Sublist.cons _ (List.Sublist.refl _)))))).perm (List.Perm.swap _ _ _)|exact(hm.sub (List.Sublist.cons_cons _ (List.Sublist.cons_cons _ (List.Sublist.cons_cons _ (List.Sublist.cons _ (List.Sublist.refl _)))))).perm (List.perm_middle (l₁:=[_,_])).symm))|fail)
 clear hs hm a
 rintro a w ⟨y,R,g12,h1,h2,ho,hv,hfe,hs,hm⟩
 have kv:=fun w'' (hf:y.ok w'')=>oval_c y w'' hf hv
 unfold OV.v at kv
 unfold OV.vs at hm
 refine gsc5af_ ?_;clear hs hm a;intros;rename_i a hm hs
 refine st hs rfl rfl rfl (d_call hs rfl rfl rfl (pl 83 rfl) ((kv _ (ho.now hm (fun z hz=>by simp only[List.mem_cons]at hz ⊢;rcases hz with rfl|rfl|hz<;>simp[*]))))) ?_;clear hs a;rintro _ w1 ⟨rfl,hf⟩ a hs
 replace hm:=hm.pu hf
 clear hf
 refine gsc5af_ ?_;clear hs hm a;intros;rename_i a hm hs
 exact gRetN tab hs rfl (.cons (.cells rfl rfl rfl rfl (hm.ro (k:=0) (n:=6) (g:=g8) mem_ (cutF_ok rfl))) (.cons (.tmp rfl) .nil)) ⟨y,h1::h2::R,rfl,ho,hm.new (List.Sublist.cons _ (List.Sublist.cons_cons _ (List.Sublist.cons_cons _ (List.Sublist.cons _ (List.Sublist.refl _))))),hv,by rw[hfe];exact hfd,hm.fr⟩
theorem gpShe0_{G H:Prop}(k:H)(s:Bx H→G:=by intro k_;(repeat(first|(refine ov79a8_ ?_;(try clear hs a);intro a hs)|((with_reducible apply lCons);first|(refine dv hs gw_ rfl rfl da_ ?_;(try clear hs hm a);rintro _ w_ ⟨g_,rfl,-,hm⟩ a hs)|(refine stn hs rfl rfl ds_ ?_;(try clear hs hm a);rintro-w_ hm a hs))|refine sc_ ?_));have m_:=hm;have s_:=hs;clear hs;(try clear hm);revert m_ s_ a;(try revert w_);(repeat revert g_);exact k_.h):G:=s ⟨k⟩
theorem gpShe1_{G H:Prop}(k:H)(s:Bx H→G:=by intro k_;(repeat(first|(refine oqa85c_ ?_;(try clear hs a);intro a hs)|((with_reducible apply lCons);first|(refine dv hs gw_ rfl rfl da_ ?_;(try clear hs hm a);rintro _ w_ ⟨g_,rfl,-,hm⟩ a hs)|(refine stn hs rfl rfl ds_ ?_;(try clear hs hm a);rintro-w_ hm a hs))|((with_reducible apply qNil);(try clear hm);intro w_ hm)|refine cQ_ ?_|refine sc_ ?_));have m_:=hm;have s_:=hs;clear hs;(try clear hm);revert m_ s_ a;(try revert w_);(repeat revert g_);exact k_.h):G:=s ⟨k⟩
def actsF(c:Int):Prop:=(1≤c∧c≤7)∨c=13∨c=14
theorem acts_c(c:Int)(wB:World)(h:actsF c):Ret Tryz.prog 130 [.int .i64 c] wB (fun u w'=>u= .bool true∧Pu wB w'):=by
 rcases h with h|rfl|rfl
 ·obtain⟨h1,h2⟩:=h
  refine enterR Tryz.func130 rfl rfl rfl fun a hs hm=>?_
  refine gs87a7_ ?_;clear hs hm a;intros;rename_i a hm hs
  exact gRet1 hs rfl rfl ⟨rfl,hm.fr⟩
 ·refine enterR Tryz.func130 rfl rfl rfl fun a hs hm=>?_
  refine gs87a7_ ?_;clear hs hm a;intros;rename_i a hm hs
  exact gRet1 hs rfl rfl ⟨rfl,hm.fr⟩
 ·refine enterR Tryz.func130 rfl rfl rfl fun a hs hm=>?_
  refine gs87a7_ ?_;clear hs hm a;intros;rename_i a hm hs
  exact gRet1 hs rfl rfl ⟨rfl,hm.fr⟩
theorem rkin_c [HB](x:RqV)(wB:World)(hx:x.ok wB)(h:x.kin):Ret Tryz.prog 131 [x.v] wB (fun u w'=>u= .bool true∧Pu wB w'):=by
 have hn:=h.n
 have kk:=fun w''=>knd_c x.call w''
 have hro:Rd wB wB.heap.size x.a.A (cns x.a.xs):=hx.a
 have hl3:=kndF_len x.call
 unfold RqV.v
 refine enterR Tryz.func131 rfl rfl rfl fun a hs hm=>?_
 have hsz:((({data:=(kndF x.call).toArray}:ByteArray).size:Nat):Int)=(x.a.xs.length:Int):=by
  show(((kndF x.call).toArray.size:Nat):Int)=_
  rw[List.size_toArray,hn]
 repeat(first|(refine gpShe0_ ?_;clear hs hm a;intros;rename_i a hm hs)|refine sc_ ?_|((with_reducible apply lCons);first|(refine dvc hs hm gw_ rfl rfl rfl rfl rfl (pl 118 rfl) (kk _) ?_;clear hs hm a;intro w hm a hs)))
 obtain⟨g1,rfl⟩:=hs.pp 1
 refine cLoop (X:=Nat) (fun k a w'=>k≤x.a.xs.length∧Sl Tryz.f131.ntmps [(1,pt g1),(3,txv (kndF x.call)),(16,.slice x.a.A x.a.xs.length x.a.c),(17,.int .i64 (x.a.xs.length:Int)),(18,.int .i64 (k:Int))] a∧Mm (fun _=>False) wB [] w') (fun k=>x.a.xs.length-k) 0 ⟨Nat.zero_le _,(sb_ hs),hm.sub (List.nil_sublist _)⟩ ?_
 clear hs hm a
 rintro k a w' ⟨hk,hs,hm⟩
 by_cases hlt:k<x.a.xs.length
 ·obtain⟨b1,o1,hA,hb1,r1⟩:=hro.ro (by rw[cns_len];omega)
  have r2:=r1.flat CN.cs_len hlt
  have hf:=h.k k hlt (by omega)
  have hkx:(kndF x.call)[k]?=some ((kndF x.call)[k]'(by omega)):=List.getElem?_eq_getElem _
  generalize x.a.xs[k]=q at r2 hf
  generalize(kndF x.call)[k]'(by omega)=e at hf hkx
  have kf:=fun w''=>fit_c e q.t w''
  rw[hf]at kf
  unfold CN.cs at r2
  rw[hA]at hs
  repeat(first|(refine gpShe1_ ?_;clear hs hm a;intros;rename_i a hm hs)|refine sc_ ?_|((with_reducible apply lCons);first|(refine dvc hs hm gw_ rfl rfl rfl rfl rfl (pl 119 rfl) (kf _) ?_;clear hs hm a;intro w hm a hs))|((with_reducible apply qCons);first|(refine qwc hs gw_ rfl rfl rfl rfl rfl (pl 119 rfl) (fun w hm=>kf _) ?_;clear hs a;intro a hs)))
  rw[←hA]at hs
  exact⟨k+1,by omega,by omega,(sb_ hs),hm.sub (List.nil_sublist _)⟩
 ·obtain rfl:k=x.a.xs.length:=by omega
  refine gs9a29_ ?_;clear hs hm a;intros;rename_i a hm hs
  exact gRet1 hs rfl rfl ⟨rfl,hm.fr⟩
end Go.Proofs.YtbjffoojenpmfaaGreat
