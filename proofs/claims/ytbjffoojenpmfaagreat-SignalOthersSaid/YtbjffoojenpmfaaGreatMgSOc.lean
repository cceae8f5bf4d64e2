/- Texts put together: Lk3, Lk4, Lk5, Lk6, Lk7, Lk8, Lk9, Sgo, Sgq, Sgt, Sic, Sid, Sie, Sge, Sgf, Sgg, Sgh, Sgp, Sgr, Sgs, Shk, Shl, Shm, Shn, Sho. -/
import Derived.Test.YtbjffoojenpmfaaGreatMgSOb
set_option maxRecDepth 20000
set_option maxHeartbeats 64000000
namespace Go.Proofs.YtbjffoojenpmfaaGreat
open Go.RowKit
structure CqX where
 rs:List RW
 qA:Option Nat
 qc:Nat
 qcs:List Value
theorem rows_snoc(rs:List RW)(r:RW):rs.map RW.v++[r.v]=(rs++[r]).map RW.v:=by simp
theorem cpy_c(x:KS)(wB:World)(hx:x.ok wB)(hsm:x.sm):Ret Tryz.prog 122 [x.v] wB (fun u w'=>∃y:KO,u=y.v∧y.ok∧y.ab=x.ab∧y.rs.length=x.qs.length∧New wB w' y.hps∧Pu wB w'):=by
 have hon:=hx.o.1
 have hq1:=hsm.q
 have ho1:=hsm.o
 unfold KS.v IS.v at*
 refine enterR Tryz.func122 rfl rfl rfl fun a hs hm=>?_
 refine gs5eea_ ?_;clear hs hm a;intros;rename_i a hm hs
 obtain⟨g1,rfl⟩:=hs.pp 1
 obtain⟨g2,rfl⟩:=hs.pp 2
 refine dv hs (Wnt.none rfl) rfl rfl (d_appendS (A:=none) (n:=0) (c:=0) (xs:=[]) (news:=ints x.o.xs) hs rfl rfl rfl rfl tab rfl rfl rfl rfl rfl (hm.zero 3) mem_ (Row.empty 1) (by rw[ints_len,hon];exact(Nat.mul_one _).symm) (hm.fr.rd' hx.o.2) (ints_one _) (by show(0+x.o.n)*8≤_;omega) (by omega)) ?_
 clear hs
 rintro _ w2 ⟨oA,oc,ocs,rfl,hor,hM⟩ a hs
 replace hm:=hM _ rep_
 clear hM
 rw[Nat.zero_add,List.nil_append]at hor
 rw[Nat.zero_add]at hs
 refine gs5eea_ ?_;clear hs hm a;intros;rename_i a hm hs
 obtain⟨g3,rfl⟩:=hs.pp 3
 replace hm:=(hm.zero 22).sel (M':=[⟨some g3,84,[slv oA x.o.n oc,nS]⟩,⟨none,22,[]⟩,⟨oA,3,ocs⟩,⟨some g2,84,[nS,nS]⟩,⟨some g1,84,[.slice x.o.A x.o.n x.o.c,.slice x.qA x.qs.length x.qc]⟩]) [1,0,2,3,4] (by decide) rfl
 refine cLoop (X:=CqX) (fun X a w'=>X.rs.length≤x.qs.length∧Sl Tryz.f122.ntmps [(2,pt g2),(3,pt g3),(11,.slice x.qA x.qs.length x.qc),(12,.int .i64 (x.qs.length:Int)),(13,.int .i64 (X.rs.length:Int))] a∧Mm (fun _=>False) wB ([⟨some g3,84,[slv oA x.o.n oc,slv X.qA X.rs.length X.qc]⟩,⟨X.qA,22,X.qcs⟩,⟨oA,3,ocs⟩,⟨some g2,84,[nS,nS]⟩]++X.rs.map RW.hp) w'∧Row X.qA X.rs.length X.qc 1 (X.rs.map RW.v) X.qcs∧X.rs.map RW.xs=(x.qs.take X.rs.length).map IS.xs∧∀r∈X.rs,r.ok) (fun X=>x.qs.length-X.rs.length) ⟨[],none,0,[]⟩ ⟨Nat.zero_le _,(sb_ hs),hm.sub sub_,Row.empty 1,rfl,fun r hr=>by cases hr⟩ ?_
 clear hs hm a
 rintro⟨rs,qA,qc,qcs⟩ a w' ⟨hlen,hs,hm,hqr,hab,hok⟩
 dsimp only at*
 by_cases hlt:rs.length<x.qs.length
 ·obtain⟨b1,o1,hA,hb1,r1⟩:=hx.q.ro (by rw[List.length_map];omega)
  obtain⟨q,hq⟩:∃q,q=x.qs[rs.length]:=⟨_,rfl⟩
  have hqm:q∈x.qs:=by rw[hq];exact List.getElem_mem hlt
  have hcell:(x.qs.map IS.v)[rs.length]?=some (.slice q.A q.n q.c):=by rw[List.getElem?_map,List.getElem?_eq_getElem hlt,hq];rfl
  have hqo:=hx.qs q hqm
  have hqn:=hsm.qs q hqm
  have hqx:=hqo.1
  rw[hA]at hs
  refine gs5eea_ ?_;clear hs hm a;intros;rename_i a hm hs
  refine cMid (fun a w=>∃(r:RW)(qA':Option Nat)(qc':Nat)(qcs':List Value),r.ok∧r.xs=q.xs∧Row qA' (rs.length+1) qc' 1 ((rs++[r]).map RW.v) qcs'∧Sl Tryz.f122.ntmps [(2,pt g2),(3,pt g3),(11,.slice x.qA x.qs.length x.qc),(12,.int .i64 (x.qs.length:Int)),(13,.int .i64 (rs.length:Int))] a∧Mm (fun _=>False) wB (r.hp::([⟨some g3,84,[slv oA x.o.n oc,slv qA' (rs.length+1) qc']⟩,⟨qA',22,qcs'⟩,⟨oA,3,ocs⟩,⟨some g2,84,[nS,nS]⟩]++rs.map RW.hp)) w) ?_ ?_
  ·skip
   refine cDrawT (n:=8) (.s [0,2]<| .e [(1,.o 3<| .x<| .o 4<| .o 5<| .x<| .t 6<| .o 7<| .d),(3,.x<| .e [(1,.o 4<| .o 5<| .x<| .t 6<| .o 7<| .d),(4,.o 1<| .o 5<| .x<| .t 6<| .o 7<| .d)])]) [] hm rfl rfl ?_
   clear hm;intro t_ w1_ hm
   repeat' (first|(refine dg75f8_ ?_;clear t_ hs hm a;intros;rename_i a hm hs t_)|refine tE t_ ?_|refine tC ?_ ?_|exact tN|intro t_|(refine oDo (i:=3) hs rfl (Wnt.none rfl) rfl rfl (by exact d_appendS (A:=none) (n:=0) (c:=0) (xs:=[]) (news:=ints q.xs) hs rfl rfl rfl rfl tab rfl rfl rfl rfl rfl (hm.zero 3) mem_ (Row.empty 1) (by rw[ints_len,hqx];exact(Nat.mul_one _).symm) (hm.fr.rd' hqo.2) (ints_one _) (by show(0+q.n)*8≤_;omega) (by omega)) ?_;clear hs;rintro _ w1 ⟨rA,rc,rcs,rfl,hrr,hM⟩ a hs;(replace hm:=hM _ rep_);(clear hM);(rw[Nat.zero_add,List.nil_append]at hrr);(rw[Nat.zero_add]at hs);replace t_:=tX t_;refine⟨(hm.sub sub_),?_⟩)|(refine oDo (i:=5) hs rfl (Wnt.none rfl) rfl rfl (by exact d_append (A:=qA) (n:=rs.length) (c:=qc) (news:=[slv rA q.n rc]) hs rfl rfl rfl rfl rfl tab rfl rfl rfl rfl rfl hm mem_ hqr rfl (hm.ro (n:=1) mem_ (cutF_ok rfl)) rfl (by show(rs.length+1)*24≤_;omega) (by omega)) ?_;clear hs;rintro _ w1 ⟨qA',qc',qcs',rfl,hqr',hM⟩ a hs;(replace hm:=hM _ rep_);(clear hM);replace t_:=tX t_;refine⟨(hm.sub sub_),?_⟩)|(refine tD t_ ?_;(have hvv:slv rA q.n rc=RW.v ⟨rA,rc,rcs,q.xs⟩:=by unfold RW.v;rw[hqx]);(rw[hvv,rows_snoc]at hqr');(rw[←hA]at hs);(exact And.intro rfl ⟨⟨rA,rc,rcs,q.xs⟩,qA',qc',qcs',by unfold RW.ok;rw[hqx];exact hrr,rfl,hqr',(sb_ hs),hm.sub (List.Sublist.cons _ (List.Sublist.refl _))⟩))|fail)
  clear hs hm a hqr
  rintro a w ⟨r,qA',qc',qcs',hro,hrx,hqr',hs,hm⟩
  refine gs5eea_ ?_;clear hs hm a;intros;rename_i a hm hs
  refine⟨⟨rs++[r],qA',qc',qcs'⟩,by dsimp only;rw[List.length_append,List.length_singleton];omega,by dsimp only;rw[List.length_append,List.length_singleton];omega,?_,?_,?_,take_snoc_xs hab hlt (by rw[hrx,hq]),?_⟩
  ·dsimp only
   rw[List.length_append,List.length_singleton]
   exact(sb_ hs)
  ·dsimp only
   rw[List.length_append,List.length_singleton]
   exact cp_perm hm
  ·dsimp only
   rw[List.length_append,List.length_singleton]
   exact hqr'
  ·intro z hz
   rcases List.mem_append.1 hz with hz|hz
   ·exact hok z hz
   ·rcases List.mem_singleton.1 hz with rfl;exact hro
 ·have hln:rs.length=x.qs.length:=by omega
  refine gs5eea_ ?_;clear hs hm a;intros;rename_i a hm hs
  rw[hln,List.take_length]at hab
  refine gRetN tab hs rfl (.cons (.cells rfl rfl rfl rfl (hm.ro (k:=0) (n:=2) (g:=g2) mem_ (cutF_ok rfl))) .nil) ⟨⟨⟨oA,oc,ocs,x.o.xs⟩,qA,qc,qcs,rs⟩,?_,⟨by unfold RW.ok;rw[hon];exact hor,hqr,hok⟩,by unfold KO.ab KS.ab;rw[hab],hln,hm.new ?_,hm.fr⟩
  ·unfold KO.v RW.v
   dsimp only
   rw[hon]
   rfl
  ·unfold KO.hps
   dsimp only
   exact zbd11_
theorem any_take{α:Type}(p:α→Bool)(xs:List α)(h:∀k (hk:k<xs.length),p xs[k]=false):xs.any p=false:=by
 rw[List.any_eq_false]
 intro x hx
 obtain⟨k,hk,rfl⟩:=List.getElem_of_mem hx
 simp[h k hk]
def Ab.wt(a:Ab)(t:Int):Bool:=a.qs.any (fun q=>q.any (t==·))
def KO.ks(y:KO):KS:=⟨y.o.is,y.qA.map fun g=>⟨g,0,none⟩,y.qc,y.rs.map RW.is⟩
theorem KO.ks_v(y:KO):y.ks.v=y.v:=by
 unfold KO.ks KS.v KO.v slv
 rw[List.length_map]
 rfl
theorem KO.ks_ab(y:KO):y.ks.ab=y.ab:=by
 unfold KO.ks KS.ab KO.ab
 rw[List.map_map]
 rfl
theorem KO.ks_ok{S:Nat→Prop}{w0 w:World}{M:List Hp}{y:KO}(hm:Mm S w0 M w)(hM:∀h∈y.hps,h∈M)(hy:y.ok):y.ks.ok w:=by
 refine⟨RW.ok_is hm (hM _ (List.Mem.tail _ (List.Mem.head _))) hy.o,?_,fun q hq=>?_⟩
 ·have:=hm.rd_row (hM _ (List.Mem.head _)) hy.q
  show Rd w w.heap.size _ ((y.rs.map RW.is).map IS.v)
  rw[List.map_map]
  exact this
 ·obtain⟨r,hr,rfl⟩:=List.mem_map.1 hq
  exact RW.ok_is hm (hM _ (List.Mem.tail _ (List.Mem.tail _ (List.mem_map_of_mem hr)))) (hy.rs r hr)
theorem IS.blk_rw{r:RW}{g:Nat}(h:r.is.blk g):r.hp.g=some g:=by
 obtain⟨_,o,e⟩:=h
 unfold RW.is at e
 dsimp only at e
 unfold RW.hp
 dsimp only
 cases hA:r.A with
 |none=>rw[hA]at e;cases e
 |some b=>rw[hA]at e;cases e;rfl
theorem KO.blk_hps{y:KO}{g:Nat}(h:y.ks.blk g):∃h∈y.hps,h.g=some g:=by
 rcases h with h|⟨_,o,e⟩|⟨q,hq,h⟩
 ·exact⟨_,List.Mem.tail _ (List.Mem.head _),IS.blk_rw h⟩
 ·refine⟨_,List.Mem.head _,?_⟩
  unfold KO.ks at e
  dsimp only at e ⊢
  cases hA:y.qA with
  |none=>rw[hA]at e;cases e
  |some b=>rw[hA]at e;cases e;rfl
 ·obtain⟨r,hr,rfl⟩:=List.mem_map.1 hq
  exact⟨_,List.Mem.tail _ (List.Mem.tail _ (List.mem_map_of_mem hr)),IS.blk_rw h⟩
theorem KO.ks_new{y:KO}{n:Nat}(h:∀h∈y.hps,∀g,h.g=some g→n≤g):y.ks.new n:=fun g hg=>by
 obtain⟨z,hz,e⟩:=KO.blk_hps hg
 exact h z hz g e
theorem cp_gain{S:Nat→Prop}{w0 w w':World}{M:List Hp}{y:KO}(hm:Mm S w0 M w)(hf:Pu w w')(hN:New w w' y.hps):Mm S w0 (⟨y.qA,22,y.qcs⟩::y.o.hp::(M++y.rs.map RW.hp)) w':=by
 refine(hm.gain hf hN).perm ?_
 exact List.Perm.cons _ (List.Perm.cons _ List.perm_append_comm)
theorem rep_set{rs:List RW}{k:Nat}{r r':RW}(h:rs[k]?=some r):Rep (rs.map RW.hp) r.hp r'.hp ((rs.set k r').map RW.hp):=by
 induction rs generalizing k with
 |nil=>simp at h
 |cons a l ih=>
  cases k with
  |zero=>
   simp at h
   subst h
   exact Rep.head _ _ _
  |succ k=>
   simp only[List.getElem?_cons_succ]at h
   exact Rep.tail _ (ih h)
structure Ab.sh(a:Ab):Prop where
 o:a.os.length=4
 q:a.qs.length=4
 l:∀q∈a.qs,q.length≤500
theorem KS.sm_of{x:KS}{w:World}(hx:x.ok w)(h:x.ab.sh):x.sm:=by
 refine⟨by have:=hx.o.1;have:=h.o;unfold KS.ab at this;dsimp only at this;omega,by have:=h.q;unfold KS.ab at this;rw[List.length_map]at this;omega,fun q hq=>?_⟩
 have h1:=h.l q.xs (List.mem_map_of_mem hq)
 have h2:=(hx.qs q hq).1
 omega
def takF(a:Ab)(k:Nat)(t:Int):Ab × Int:=
 if a.os.getD k 0=t then(a,2)else if a.wt t=true then(a,2)
 else if a.os.getD k 0=-1 then(⟨a.os.set k t,a.qs⟩,0)
 else(⟨a.os,a.qs.set k (a.qs.getD k []++[t])⟩,1)
def givF(a:Ab)(k:Nat)(t:Int):Ab × Int × Bool:=
 if a.os.getD k 0=t then match a.qs.getD k []with
  |[]=>(⟨a.os.set k (-1),a.qs⟩,-1,true)
  |u::r=>(⟨a.os.set k u,a.qs.set k r⟩,u,true)
 else(a,-1,false)
def TakR(r:Ab × Int)(w:World)(u:Value)(w':World):Prop:=∃y:KS,u= .tuple #[y.v,.int .i64 r.2]∧y.ok w'∧y.new w.heap.size∧y.ab=r.1∧Pu w w'
def GivR(r:Ab × Int × Bool)(w:World)(u:Value)(w':World):Prop:=∃y:KS,u= .tuple #[y.v,.int .i64 r.2.1,.bool r.2.2]∧y.ok w'∧y.new w.heap.size∧y.ab=r.1∧Pu w w'
theorem KO.new_at{w0 w:World}{M:List Hp}{y:KO}(hm:Mm (fun _=>False) w0 M w)(hM:∀h∈y.hps,h∈M):y.ks.new w0.heap.size:=
 KO.ks_new fun h hh g hg=>(hm.ow h (hM h hh) g hg).resolve_right id
theorem RW.set_ok{r:RW}(h:r.ok)(k:Nat)(v:Int):RW.ok ⟨r.A,r.c,r.cs.set k (.int .i64 v),r.xs.set k v⟩:=by
 unfold RW.ok at*
 dsimp only
 rw[List.length_set,show ints (r.xs.set k v)=(ints r.xs).set k (.int .i64 v) by simp[ints,List.map_set]]
 exact Row.set h k _
theorem Mm.gen{S:Nat→Prop}{w0 w:World}{M:List Hp}(hm:Mm S w0 M w):∃M',M'=M∧Mm S w0 M' w:=⟨M,rfl,hm⟩
theorem rtak_c(x:KS)(k:Nat)(t:Int)(wB:World)(hx:x.ok wB)(hsh:x.ab.sh)(hk:k<4):Ret Tryz.prog 124 [x.v,.int .i64 (k:Int),.int .i64 t] wB (fun u w'=>TakR (takF x.ab k t) wB u w'):=by
 have hs0:=hsh.o
 have hq0:=hsh.q
 have hsm:=KS.sm_of hx hsh
 have hxo:=hx.o.1
 obtain⟨⟨oA,on,oc,os⟩,qA,qc,qs⟩:=x
 unfold KS.ab at hs0 hq0
 dsimp only at hs0 hq0 hxo
 rw[List.length_map]at hq0
 obtain rfl:on=4:=by omega
 obtain⟨b1,o1,hoA,hb1,r1⟩:=hx.o.2.ro (by rw[ints_len];dsimp only;omega)
 dsimp only at hoA r1
 subst hoA
 have e1:=ints_some (xs:=os) (k:=k) (by omega)
 have hg1:=getI (l:=os) (k:=k) (by omega)
 have hcp:=fun w'' (hf:Pu wB w'')=>cpy_c ⟨⟨some ⟨b1,o1,none⟩,4,oc,os⟩,qA,qc,qs⟩ w'' (hx.pu hf) hsm
 unfold KS.v IS.v KS.ab at*
 dsimp only at hcp ⊢
 obtain⟨v,hv⟩:∃v,os[k]=v:=⟨_,rfl⟩
 rw[hv]at e1 hg1
 unfold takF
 dsimp only
 rw[hg1]
 by_cases c1:v=t
 ·rw[if_pos c1]
  refine enterR Tryz.func124 rfl rfl rfl fun a hs hm=>?_
  refine gs87a7_ ?_;clear hs hm a;intros;rename_i a hm hs
  obtain⟨g3,rfl⟩:=hs.pp 3
  obtain⟨g6,rfl⟩:=hs.pp 6
  refine st hs rfl rfl rfl (d_call hs rfl rfl rfl (pl 122 rfl) ((hcp _ hm.fr))) ?_;clear hs a;rintro _ w1 ⟨y,rfl,hy,hyab,hyl,hN,hf⟩ a hs
  have hm6:=cp_gain hm hf hN
  clear hm hf hN
  have hm:=hm6
  clear hm6
  unfold KO.v RW.v at hs
  refine gs87a7_ ?_;clear hs hm a;intros;rename_i a hm hs
  refine gRetN tab hs rfl (.cons (.cells rfl rfl rfl rfl (hm.ro (k:=0) (n:=2) (g:=g6) mem_ (cutF_ok rfl))) (.cons (.tmp rfl) .nil)) ⟨y.ks,by rw[KO.ks_v];rfl,KO.ks_ok hm ?_ hy,KO.new_at hm ?_,by rw[KO.ks_ab,hyab],hm.fr⟩
  ·skip
   intro h hh
   rcases List.mem_cons.1 hh with rfl|hh
   ·exact mem_
   ·rcases List.mem_cons.1 hh with rfl|hh
    ·exact mem_
    ·repeat(first|exact hh|apply List.mem_cons_of_mem)
  ·skip
   intro h hh
   rcases List.mem_cons.1 hh with rfl|hh
   ·exact mem_
   ·rcases List.mem_cons.1 hh with rfl|hh
    ·exact mem_
    ·repeat(first|exact hh|apply List.mem_cons_of_mem)
 ·rw[if_neg c1]
  cases hb:Ab.wt ⟨os,qs.map IS.xs⟩ t
  ·rw[if_neg (by simp)]
   by_cases c3:v=-1
   ·rw[if_pos c3]
    refine enterR Tryz.func124 rfl rfl rfl fun a hs hm=>?_
    refine gs87a7_ ?_;clear hs hm a;intros;rename_i a hm hs
    obtain⟨g3,rfl⟩:=hs.pp 3
    obtain⟨g6,rfl⟩:=hs.pp 6
    refine st hs rfl rfl rfl (d_call hs rfl rfl rfl (pl 122 rfl) ((hcp _ hm.fr))) ?_;clear hs a;rintro _ w1 ⟨y,rfl,hy,hyab,hyl,hN,hf⟩ a hs
    have hm6:=cp_gain hm hf hN
    clear hm hf hN
    have hm:=hm6
    clear hm6
    unfold KO.v RW.v at hs
    obtain⟨⟨yoA,yoc,yocs,yos⟩,yqA,yqc,yqcs,yrs⟩:=y
    obtain⟨ho,hq,hrs⟩:=hy
    unfold KO.ab at hyab
    dsimp only at hyab hyl ho hq hrs
    obtain⟨rfl,hyq⟩:=Ab.mk.inj hyab
    obtain⟨go,rfl⟩:=Row.some_ (show Row yoA yos.length yoc 1 (ints yos) yocs from ho) (by omega)
    have hk2:k<yocs.length:=by rw[Row.len ho];have:=Row.le ho;dsimp only at this ⊢;omega
    unfold RW.hp at hm
    dsimp only at hs hm
    refine gs87a7_ ?_;clear hs hm a;intros;rename_i a hm hs
    obtain⟨g8,rfl⟩:=hs.pp 8
    obtain⟨M,hM,hm⟩:=hm.gen
    refine cLoop (X:=Nat) (fun i a w'=>Sl Tryz.f124.ntmps [(1,.int .i64 (k:Int)),(2,.int .i64 t),(3,pt g3),(6,pt g6),(8,pt g8),(32,.slice qA qs.length qc),(33,.int .i64 (qs.length:Int)),(34,.int .i64 (i:Int))] a∧Mm (fun _=>False) wB M w'∧i≤qs.length∧∀j (hj:j<qs.length),j<i→(qs[j].xs.any (t==·))=false) (fun i=>qs.length-i) 0 ⟨(sb_ hs),hm,Nat.zero_le _,fun j _ hj=>by omega⟩ ?_
    clear hs hm a
    rintro i a w' ⟨hs,hm,hi,hno⟩
    by_cases hi4:i<qs.length
    ·obtain⟨b2,o2,hA,hb2,r2⟩:=hx.q.ro (by rw[List.length_map];show 0<qs.length;omega)
     obtain⟨q,hq⟩:∃q,q=qs[i]:=⟨_,rfl⟩
     have hqm:q∈qs:=by rw[hq];exact List.getElem_mem hi4
     have hcell2:(qs.map IS.v)[i]?=some (.slice q.A q.n q.c):=by rw[List.getElem?_map,List.getElem?_eq_getElem hi4,hq];rfl
     have hqo:=hx.qs q hqm
     have hqn:=hsm.qs q hqm
     have hqx:=hqo.1
     dsimp only at hA r2
     rw[hA]at hs
     refine gs87a7_ ?_;clear hs hm a;intros;rename_i a hm hs
     rw[←hA]at hs
     refine cLoop (X:=Nat) (fun j a w'=>Sl Tryz.f124.ntmps [(1,.int .i64 (k:Int)),(2,.int .i64 t),(3,pt g3),(6,pt g6),(8,pt g8),(32,.slice qA qs.length qc),(33,.int .i64 (qs.length:Int)),(34,.int .i64 (i:Int)),(38,.slice q.A q.n q.c),(39,.int .i64 (q.n:Int)),(40,.int .i64 (j:Int))] a∧Mm (fun _=>False) wB M w'∧j≤q.n∧∀l (hl:l<q.xs.length),l<j→(t==q.xs[l])=false) (fun j=>q.n-j) 0 ⟨(sb_ hs),hm,Nat.zero_le _,fun l _ hl=>by omega⟩ ?_
     clear hs hm a hA r2
     rintro j a w' ⟨hs,hm,hj,hno2⟩
     by_cases hjn:j<q.n
     ·obtain⟨b3,o3,hA3,hb3,r3⟩:=hqo.2.ro (by rw[ints_len];omega)
      have e3:=ints_some (xs:=q.xs) (k:=j) (by omega)
      obtain⟨z,hz0⟩:∃z,q.xs[j]=z:=⟨_,rfl⟩
      have hzm:z∈q.xs:=by rw[←hz0];exact List.getElem_mem _
      rw[hz0]at e3
      rw[hA3]at hs
      by_cases hz:z=t
      ·subst hM
       exfalso
       have:=List.any_eq_false.1 hb q.xs (List.mem_map_of_mem hqm)
       exact this (by rw[List.any_eq_true];exact⟨z,hzm,by simp[hz]⟩)
      ·refine gs87a7_ ?_;clear hs hm a;intros;rename_i a hm hs
       rw[←hA3]at hs
       refine⟨j+1,by omega,(sb_ hs),hm,by omega,fun l hl hlj=>?_⟩
       by_cases e:l=j
       ·subst e;rw[hz0];simpa using fun h=>hz h.symm
       ·exact hno2 l hl (by omega)
     ·have hqf:q.xs.any (t==·)=false:=any_take _ _ fun l hl=>hno2 l hl (by omega)
      refine gs87a7_ ?_;clear hs hm a;intros;rename_i a hm hs
      refine⟨i+1,by omega,(sb_ hs),hm,by omega,fun l hl hlj=>?_⟩
      by_cases e:l=i
      ·subst e;rw[←hq];exact hqf
      ·exact hno l hl (by omega)
    ·subst hM
     refine gs87a7_ ?_;clear hs hm a;intros;rename_i a hm hs
     have hset:=RW.set_ok ho k t
     refine gRetN tab hs rfl (.cons (.cells rfl rfl rfl rfl (hm.ro (k:=0) (n:=2) (g:=g6) mem_ (cutF_ok rfl))) (.cons (.tmp rfl) .nil)) ⟨KO.ks ⟨⟨some go,yoc,yocs.set k (.int .i64 t),yos.set k t⟩,yqA,yqc,yqcs,yrs⟩,?_,KO.ks_ok hm ?_ ⟨hset,hq,hrs⟩,KO.new_at hm ?_,?_,hm.fr⟩
     ·rw[KO.ks_v]
      unfold KO.v RW.v
      dsimp only
      rw[List.length_set]
      rfl
     ·skip
      intro h hh
      rcases List.mem_cons.1 hh with rfl|hh
      ·exact mem_
      ·rcases List.mem_cons.1 hh with rfl|hh
       ·exact mem_
       ·repeat(first|exact hh|apply List.mem_cons_of_mem)
     ·skip
      intro h hh
      rcases List.mem_cons.1 hh with rfl|hh
      ·exact mem_
      ·rcases List.mem_cons.1 hh with rfl|hh
       ·exact mem_
       ·repeat(first|exact hh|apply List.mem_cons_of_mem)
     ·rw[KO.ks_ab]
      unfold KO.ab
      dsimp only
      rw[hyq]
   ·rw[if_neg c3]
    refine enterR Tryz.func124 rfl rfl rfl fun a hs hm=>?_
    refine gs87a7_ ?_;clear hs hm a;intros;rename_i a hm hs
    obtain⟨g3,rfl⟩:=hs.pp 3
    obtain⟨g6,rfl⟩:=hs.pp 6
    refine st hs rfl rfl rfl (d_call hs rfl rfl rfl (pl 122 rfl) ((hcp _ hm.fr))) ?_;clear hs a;rintro _ w1 ⟨y,rfl,hy,hyab,hyl,hN,hf⟩ a hs
    have hm6:=cp_gain hm hf hN
    clear hm hf hN
    have hm:=hm6
    clear hm6
    unfold KO.v RW.v at hs
    obtain⟨⟨yoA,yoc,yocs,yos⟩,yqA,yqc,yqcs,yrs⟩:=y
    obtain⟨ho,hq,hrs⟩:=hy
    unfold KO.ab at hyab
    dsimp only at hyab hyl ho hq hrs
    obtain⟨rfl,hyq⟩:=Ab.mk.inj hyab
    obtain⟨gq,rfl⟩:=hq.some_ (by omega)
    have hkl:k<yrs.length:=by omega
    obtain⟨r,hr⟩:∃r,r=yrs[k]:=⟨_,rfl⟩
    have hr2:yrs[k]?=some r:=by rw[hr];exact List.getElem?_eq_getElem hkl
    have hrm0:r∈yrs:=List.mem_of_getElem? hr2
    have hro:Row r.A r.xs.length r.c 1 (ints r.xs) r.cs:=hrs r hrm0
    have hcell:yqcs[k]?=some (slv r.A r.xs.length r.c):=hq.get (by rw[List.getElem?_map,hr2];rfl)
    have hk2:k<yqcs.length:=by rw[hq.len];have:=hq.le;omega
    have hrl:r.xs.length≤500:=hsh.l _ (by show r.xs∈qs.map IS.xs;rw[←hyq];exact List.mem_map_of_mem hrm0)
    have hrm:(⟨r.A,3,r.cs⟩:Hp)∈yrs.map RW.hp:=List.mem_map_of_mem (f:=RW.hp) hrm0
    have hrep:=fun rA rc rcs=>rep_set (r':=⟨rA,rc,rcs,r.xs++[t]⟩) hr2
    unfold RW.hp at hm hrep
    dsimp only at hs hm hrep
    refine gs87a7_ ?_;clear hs hm a;intros;rename_i a hm hs
    obtain⟨g8,rfl⟩:=hs.pp 8
    obtain⟨M,hM,hm⟩:=hm.gen
    refine cLoop (X:=Nat) (fun i a w'=>Sl Tryz.f124.ntmps [(1,.int .i64 (k:Int)),(2,.int .i64 t),(3,pt g3),(6,pt g6),(8,pt g8),(32,.slice qA qs.length qc),(33,.int .i64 (qs.length:Int)),(34,.int .i64 (i:Int))] a∧Mm (fun _=>False) wB M w'∧i≤qs.length∧∀j (hj:j<qs.length),j<i→(qs[j].xs.any (t==·))=false) (fun i=>qs.length-i) 0 ⟨(sb_ hs),hm,Nat.zero_le _,fun j _ hj=>by omega⟩ ?_
    clear hs hm a
    rintro i a w' ⟨hs,hm,hi,hno⟩
    by_cases hi4:i<qs.length
    ·obtain⟨b2,o2,hA,hb2,r2⟩:=hx.q.ro (by rw[List.length_map];show 0<qs.length;omega)
     obtain⟨q,hq⟩:∃q,q=qs[i]:=⟨_,rfl⟩
     have hqm:q∈qs:=by rw[hq];exact List.getElem_mem hi4
     have hcell2:(qs.map IS.v)[i]?=some (.slice q.A q.n q.c):=by rw[List.getElem?_map,List.getElem?_eq_getElem hi4,hq];rfl
     have hqo:=hx.qs q hqm
     have hqn:=hsm.qs q hqm
     have hqx:=hqo.1
     dsimp only at hA r2
     rw[hA]at hs
     refine gs87a7_ ?_;clear hs hm a;intros;rename_i a hm hs
     rw[←hA]at hs
     refine cLoop (X:=Nat) (fun j a w'=>Sl Tryz.f124.ntmps [(1,.int .i64 (k:Int)),(2,.int .i64 t),(3,pt g3),(6,pt g6),(8,pt g8),(32,.slice qA qs.length qc),(33,.int .i64 (qs.length:Int)),(34,.int .i64 (i:Int)),(38,.slice q.A q.n q.c),(39,.int .i64 (q.n:Int)),(40,.int .i64 (j:Int))] a∧Mm (fun _=>False) wB M w'∧j≤q.n∧∀l (hl:l<q.xs.length),l<j→(t==q.xs[l])=false) (fun j=>q.n-j) 0 ⟨(sb_ hs),hm,Nat.zero_le _,fun l _ hl=>by omega⟩ ?_
     clear hs hm a hA r2
     rintro j a w' ⟨hs,hm,hj,hno2⟩
     by_cases hjn:j<q.n
     ·obtain⟨b3,o3,hA3,hb3,r3⟩:=hqo.2.ro (by rw[ints_len];omega)
      have e3:=ints_some (xs:=q.xs) (k:=j) (by omega)
      obtain⟨z,hz0⟩:∃z,q.xs[j]=z:=⟨_,rfl⟩
      have hzm:z∈q.xs:=by rw[←hz0];exact List.getElem_mem _
      rw[hz0]at e3
      rw[hA3]at hs
      by_cases hz:z=t
      ·subst hM
       exfalso
       have:=List.any_eq_false.1 hb q.xs (List.mem_map_of_mem hqm)
       exact this (by rw[List.any_eq_true];exact⟨z,hzm,by simp[hz]⟩)
      ·refine gs87a7_ ?_;clear hs hm a;intros;rename_i a hm hs
       rw[←hA3]at hs
       refine⟨j+1,by omega,(sb_ hs),hm,by omega,fun l hl hlj=>?_⟩
       by_cases e:l=j
       ·subst e;rw[hz0];simpa using fun h=>hz h.symm
       ·exact hno2 l hl (by omega)
     ·have hqf:q.xs.any (t==·)=false:=any_take _ _ fun l hl=>hno2 l hl (by omega)
      refine gs87a7_ ?_;clear hs hm a;intros;rename_i a hm hs
      refine⟨i+1,by omega,(sb_ hs),hm,by omega,fun l hl hlj=>?_⟩
      by_cases e:l=i
      ·subst e;rw[←hq];exact hqf
      ·exact hno l hl (by omega)
    ·subst hM
     refine gs87a7_ ?_;clear hs hm a;intros;rename_i a hm hs
     refine cMid (fun a w'=>∃(rA:Option Nat)(rc:Nat)(rcs:List Value),Row rA (r.xs.length+1) rc 1 (ints r.xs++[.int .i64 t]) rcs∧Sl Tryz.f124.ntmps [(6,pt g6),(8,pt g8)] a∧Mm (fun _=>False) wB (⟨some g8,84,[slv yoA yos.length yoc,slv (some gq) yrs.length yqc]⟩::⟨some gq,22,yqcs.set k (slv rA (r.xs.length+1) rc)⟩::⟨yoA,3,yocs⟩::⟨some g6,84,[nS,nS]⟩::(yrs.set k ⟨rA,rc,rcs,r.xs++[t]⟩).map RW.hp) w') ?_ ?_
     ·skip
      refine cDrawT (n:=13) (.s [0,1,2,3,4,5,6,8]<| .e [(7,.o 9<| .o 10<| .x<| .t 11<| .o 12<| .d),(9,.o 7<| .o 10<| .x<| .t 11<| .o 12<| .d)]) [⟨some g8,84,[slv yoA yos.length yoc,slv (some gq) yrs.length yqc]⟩] hm rfl rfl ?_
      clear hm;intro t_ w1_ hm
      repeat' (first|(refine dgdadf_ ?_;clear t_ hs hm a;intros;rename_i a hm hs t_)|refine tE t_ ?_|refine tC ?_ ?_|exact tN|intro t_|(refine oDo (i:=10) hs rfl (Wnt.none rfl) rfl rfl (by exact d_append (A:=r.A) (n:=r.xs.length) (c:=r.c) (news:=[.int .i64 t]) hs rfl rfl rfl rfl rfl tab rfl rfl rfl rfl rfl hm (by repeat(first|exact hrm|apply mT)) hro rfl (hm.ro (n:=1) mem_ (cutF_ok rfl)) rfl (by show(r.xs.length+1)*8≤_;omega) (by omega)) ?_;clear hs;rintro _ w1 ⟨rA,rc,rcs,rfl,hrr,hM⟩ a hs;(replace hm:=hM _ (by repeat(first|exact hrep rA rc rcs|apply Rep.tail)));(clear hM);replace t_:=tX t_;refine⟨(hm.sub sub_),?_⟩)|(refine tD t_ ?_;(exact And.intro rfl ⟨rA,rc,rcs,hrr,(sb_ hs),hm.sub (List.Sublist.cons _ (List.Sublist.cons_cons _ (List.Sublist.cons_cons _ (List.Sublist.cons_cons _ (List.Sublist.cons_cons _ (List.Sublist.cons _ (List.Sublist.refl _)))))))⟩))|fail)
     clear hs hm a
     rintro a w' ⟨rA,rc,rcs,hrr,hs,hm⟩
     refine gs87a7_ ?_;clear hs hm a;intros;rename_i a hm hs
     refine gRetN tab hs rfl (.cons (.cells rfl rfl rfl rfl (hm.ro (k:=0) (n:=2) (g:=g6) mem_ (cutF_ok rfl))) (.cons (.tmp rfl) .nil)) ⟨KO.ks ⟨⟨yoA,yoc,yocs,yos⟩,some gq,yqc,yqcs.set k (slv rA (r.xs.length+1) rc),yrs.set k ⟨rA,rc,rcs,r.xs++[t]⟩⟩,?_,KO.ks_ok hm ?_ ⟨ho,?_,?_⟩,KO.new_at hm ?_,?_,hm.fr⟩
     ·rw[KO.ks_v]
      unfold KO.v RW.v
      dsimp only
      rw[List.length_set]
      rfl
     ·skip
      intro h hh
      rcases List.mem_cons.1 hh with rfl|hh
      ·exact mem_
      ·rcases List.mem_cons.1 hh with rfl|hh
       ·exact mem_
       ·repeat(first|exact hh|apply List.mem_cons_of_mem)
     ·show Row (some gq) (yrs.set k _).length yqc 1 _ _
      rw[List.length_set,List.map_set,show RW.v ⟨rA,rc,rcs,r.xs++[t]⟩=slv rA (r.xs.length+1) rc by unfold RW.v;simp]
      exact hq.set _ _
     ·intro z hz
      rcases List.mem_or_eq_of_mem_set hz with h|rfl
      ·exact hrs z h
      ·unfold RW.ok
       dsimp only
       rw[List.length_append,List.length_singleton,show ints (r.xs++[t])=ints r.xs++[.int .i64 t] by simp[ints]]
       exact hrr
     ·skip
      intro h hh
      rcases List.mem_cons.1 hh with rfl|hh
      ·exact mem_
      ·rcases List.mem_cons.1 hh with rfl|hh
       ·exact mem_
       ·repeat(first|exact hh|apply List.mem_cons_of_mem)
     ·rw[KO.ks_ab]
      unfold KO.ab
      dsimp only
      rw[List.map_set,hyq,←hyq,List.getD_eq_getElem?_getD,List.getElem?_map,hr2]
      rfl
  ·rw[if_pos rfl]
   refine enterR Tryz.func124 rfl rfl rfl fun a hs hm=>?_
   refine gs87a7_ ?_;clear hs hm a;intros;rename_i a hm hs
   obtain⟨g3,rfl⟩:=hs.pp 3
   obtain⟨g6,rfl⟩:=hs.pp 6
   refine st hs rfl rfl rfl (d_call hs rfl rfl rfl (pl 122 rfl) ((hcp _ hm.fr))) ?_;clear hs a;rintro _ w1 ⟨y,rfl,hy,hyab,hyl,hN,hf⟩ a hs
   have hm6:=cp_gain hm hf hN
   clear hm hf hN
   have hm:=hm6
   clear hm6
   unfold KO.v RW.v at hs
   refine gs87a7_ ?_;clear hs hm a;intros;rename_i a hm hs
   obtain⟨g8,rfl⟩:=hs.pp 8
   obtain⟨M,hM,hm⟩:=hm.gen
   refine cLoop (X:=Nat) (fun i a w'=>Sl Tryz.f124.ntmps [(1,.int .i64 (k:Int)),(2,.int .i64 t),(3,pt g3),(6,pt g6),(8,pt g8),(32,.slice qA qs.length qc),(33,.int .i64 (qs.length:Int)),(34,.int .i64 (i:Int))] a∧Mm (fun _=>False) wB M w'∧i≤qs.length∧∀j (hj:j<qs.length),j<i→(qs[j].xs.any (t==·))=false) (fun i=>qs.length-i) 0 ⟨(sb_ hs),hm,Nat.zero_le _,fun j _ hj=>by omega⟩ ?_
   clear hs hm a
   rintro i a w' ⟨hs,hm,hi,hno⟩
   by_cases hi4:i<qs.length
   ·obtain⟨b2,o2,hA,hb2,r2⟩:=hx.q.ro (by rw[List.length_map];show 0<qs.length;omega)
    obtain⟨q,hq⟩:∃q,q=qs[i]:=⟨_,rfl⟩
    have hqm:q∈qs:=by rw[hq];exact List.getElem_mem hi4
    have hcell2:(qs.map IS.v)[i]?=some (.slice q.A q.n q.c):=by rw[List.getElem?_map,List.getElem?_eq_getElem hi4,hq];rfl
    have hqo:=hx.qs q hqm
    have hqn:=hsm.qs q hqm
    have hqx:=hqo.1
    dsimp only at hA r2
    rw[hA]at hs
    refine gs87a7_ ?_;clear hs hm a;intros;rename_i a hm hs
    rw[←hA]at hs
    refine cLoop (X:=Nat) (fun j a w'=>Sl Tryz.f124.ntmps [(1,.int .i64 (k:Int)),(2,.int .i64 t),(3,pt g3),(6,pt g6),(8,pt g8),(32,.slice qA qs.length qc),(33,.int .i64 (qs.length:Int)),(34,.int .i64 (i:Int)),(38,.slice q.A q.n q.c),(39,.int .i64 (q.n:Int)),(40,.int .i64 (j:Int))] a∧Mm (fun _=>False) wB M w'∧j≤q.n∧∀l (hl:l<q.xs.length),l<j→(t==q.xs[l])=false) (fun j=>q.n-j) 0 ⟨(sb_ hs),hm,Nat.zero_le _,fun l _ hl=>by omega⟩ ?_
    clear hs hm a hA r2
    rintro j a w' ⟨hs,hm,hj,hno2⟩
    by_cases hjn:j<q.n
    ·obtain⟨b3,o3,hA3,hb3,r3⟩:=hqo.2.ro (by rw[ints_len];omega)
     have e3:=ints_some (xs:=q.xs) (k:=j) (by omega)
     obtain⟨z,hz0⟩:∃z,q.xs[j]=z:=⟨_,rfl⟩
     have hzm:z∈q.xs:=by rw[←hz0];exact List.getElem_mem _
     rw[hz0]at e3
     rw[hA3]at hs
     by_cases hz:z=t
     ·subst hM
      refine gs87a7_ ?_;clear hs hm a;intros;rename_i a hm hs
      refine gRetN tab hs rfl (.cons (.cells rfl rfl rfl rfl (hm.ro (k:=0) (n:=2) (g:=g6) mem_ (cutF_ok rfl))) (.cons (.tmp rfl) .nil)) ⟨y.ks,by rw[KO.ks_v];rfl,KO.ks_ok hm ?_ hy,KO.new_at hm ?_,by rw[KO.ks_ab,hyab],hm.fr⟩
      ·skip
       intro h hh
       rcases List.mem_cons.1 hh with rfl|hh
       ·exact mem_
       ·rcases List.mem_cons.1 hh with rfl|hh
        ·exact mem_
        ·repeat(first|exact hh|apply List.mem_cons_of_mem)
      ·skip
       intro h hh
       rcases List.mem_cons.1 hh with rfl|hh
       ·exact mem_
       ·rcases List.mem_cons.1 hh with rfl|hh
        ·exact mem_
        ·repeat(first|exact hh|apply List.mem_cons_of_mem)
     ·refine gs87a7_ ?_;clear hs hm a;intros;rename_i a hm hs
      rw[←hA3]at hs
      refine⟨j+1,by omega,(sb_ hs),hm,by omega,fun l hl hlj=>?_⟩
      by_cases e:l=j
      ·subst e;rw[hz0];simpa using fun h=>hz h.symm
      ·exact hno2 l hl (by omega)
    ·have hqf:q.xs.any (t==·)=false:=any_take _ _ fun l hl=>hno2 l hl (by omega)
     refine gs87a7_ ?_;clear hs hm a;intros;rename_i a hm hs
     refine⟨i+1,by omega,(sb_ hs),hm,by omega,fun l hl hlj=>?_⟩
     by_cases e:l=i
     ·subst e;rw[←hq];exact hqf
     ·exact hno l hl (by omega)
   ·subst hM
    exfalso
    have hf:Ab.wt ⟨os,qs.map IS.xs⟩ t=false:=by
     unfold Ab.wt
     rw[List.any_map]
     exact any_take _ _ fun j hj=>hno j hj (by omega)
    rw[hf]at hb
    cases hb
theorem er_perm{α:Type}{l:List α}{k:Nat}{r:α}(h:l[k]?=some r):l.Perm (r::l.eraseIdx k):=by
 induction l generalizing k with
 |nil=>simp at h
 |cons a l ih=>
  cases k with
  |zero=>simp at h;subst h;exact List.Perm.refl _
  |succ k=>
   simp only[List.getElem?_cons_succ]at h
   exact(List.Perm.cons a (ih h)).trans (List.Perm.swap _ _ _)
theorem ks_mk{S:Nat→Prop}{w0 w:World}{M:List Hp}{o:RW}{qA:Option Nat}{qc:Nat}{qcs:List Value}{qs:List IS}(hm:Mm S w0 M w)(h1:o.hp∈M)(ho:o.ok)(h2:(⟨qA,22,qcs⟩:Hp)∈M)(hq:Row qA qs.length qc 1 (qs.map IS.v) qcs)(hqs:∀q∈qs,q.ok w):KS.ok ⟨o.is,qA.map fun g=>⟨g,0,none⟩,qc,qs⟩ w:=
 ⟨RW.ok_is hm h1 ho,hm.rd_row h2 hq,hqs⟩
theorem ks_new{w0 w:World}{M:List Hp}{o:RW}{qA:Option Nat}{qc:Nat}{qcs:List Value}{qs:List IS}(hm:Mm (fun _=>False) w0 M w)(h1:o.hp∈M)(h2:(⟨qA,22,qcs⟩:Hp)∈M)(hqs:∀q∈qs,∀g,q.blk g→w0.heap.size≤g):KS.new ⟨o.is,qA.map fun g=>⟨g,0,none⟩,qc,qs⟩ w0.heap.size:=by
 intro g hg
 rcases hg with h|⟨_,o',e⟩|⟨q,hq,h⟩
 ·exact(hm.ow _ h1 g (IS.blk_rw h)).resolve_right id
 ·refine(hm.ow _ h2 g ?_).resolve_right id
  cases hA:qA with
  |none=>rw[hA]at e;cases e
  |some b=>rw[hA]at e;cases e;rfl
 ·exact hqs q hq g h
theorem mem5{h a b c d e:Hp}{L:List Hp}(hh:h∈b::L):h∈a::b::c::d::e::L:=by
 rcases List.mem_cons.1 hh with rfl|hh
 ·exact List.Mem.tail _ (List.Mem.head _)
 ·exact List.Mem.tail _ (List.Mem.tail _ (List.Mem.tail _ (List.Mem.tail _ (List.Mem.tail _ hh))))
def tlS(g n c:Nat)(l:List Int):IS:=⟨if c=(1:Int).toNat then some ⟨g,0,none⟩else(some ⟨g,0,none⟩:Option Addr).map (·.add ((1:Int).toNat*1)),n-(1:Int).toNat,c-(1:Int).toNat,l⟩
theorem tlS_ok{S:Nat→Prop}{w0 w:World}{M:List Hp}{g c:Nat}{u:Int}{l:List Int}{cs:List Value}(hm:Mm S w0 M w)(hM:(⟨some g,3,cs⟩:Hp)∈M)(hr:Row (some g) (u::l).length c 1 (ints (u::l)) cs):(tlS g (u::l).length c l).ok w:=by
 refine⟨by simp[tlS],fun h0=>?_⟩
 have hle:=hr.le
 have hl0:0<l.length:=by rw[ints_len]at h0;exact h0
 have hc:¬c=(1:Int).toNat:=by simp at hle ⊢;omega
 refine⟨g,1,?_,Hp.lt (hm.me _ hM) rfl,fun j v hj=>?_⟩
 ·unfold tlS
  dsimp only
  rw[if_neg hc]
  rfl
 ·rw[hm.at_ hM]
  refine hr.get ?_
  rw[Nat.add_comm]
  exact hj
theorem tlS_blk{g n c:Nat}{l:List Int}{b:Nat}(h:(tlS g n c l).blk b):b=g:=by
 obtain⟨_,o,e⟩:=h
 unfold tlS at e
 dsimp only at e
 split at e
 ·cases e;rfl
 ·simp[Addr.add]at e
  exact e.1.symm
theorem isv_set(rs:List RW)(k:Nat)(q:IS):(rs.map RW.v).set k q.v=((rs.map RW.is).set k q).map IS.v:=by
 rw[List.map_set,List.map_map]
 rfl
theorem Mm.front{S:Nat→Prop}{w0 w:World}{rs:List RW}{k:Nat}{r:RW}{L:List Hp}(hm:Mm S w0 (L++rs.map RW.hp) w)(h:rs[k]?=some r):Mm S w0 (r.hp::(L++(rs.eraseIdx k).map RW.hp)) w:=by
 refine hm.perm ?_
 have h1:=(er_perm h).map RW.hp
 exact(List.perm_middle.symm.trans (List.Perm.append_left L h1.symm))
theorem rgiv_c(x:KS)(k:Nat)(t:Int)(wB:World)(hx:x.ok wB)(hsh:x.ab.sh)(hk:k<4):Ret Tryz.prog 112 [x.v,.int .i64 (k:Int),.int .i64 t] wB (fun u w'=>GivR (givF x.ab k t) wB u w'):=by
 have hs0:=hsh.o
 have hq0:=hsh.q
 have hsm:=KS.sm_of hx hsh
 have hxo:=hx.o.1
 obtain⟨⟨oA,on,oc,os⟩,qA,qc,qs⟩:=x
 unfold KS.ab at hs0 hq0
 dsimp only at hs0 hq0 hxo
 rw[List.length_map]at hq0
 obtain rfl:on=4:=by omega
 obtain⟨b1,o1,hoA,hb1,r1⟩:=hx.o.2.ro (by rw[ints_len];dsimp only;omega)
 dsimp only at hoA r1
 subst hoA
 have e1:=ints_some (xs:=os) (k:=k) (by omega)
 have hg1:=getI (l:=os) (k:=k) (by omega)
 have hcp:=fun w'' (hf:Pu wB w'')=>cpy_c ⟨⟨some ⟨b1,o1,none⟩,4,oc,os⟩,qA,qc,qs⟩ w'' (hx.pu hf) hsm
 unfold KS.v IS.v KS.ab at*
 dsimp only at hcp ⊢
 obtain⟨v,hv⟩:∃v,os[k]=v:=⟨_,rfl⟩
 rw[hv]at e1 hg1
 unfold givF
 dsimp only
 rw[hg1]
 by_cases c1:v=t
 ·rw[if_pos c1]
  refine enterR Tryz.func112 rfl rfl rfl fun a hs hm=>?_
  refine gs0d2a_ ?_;clear hs hm a;intros;rename_i a hm hs
  obtain⟨g6,rfl⟩:=hs.pp 6
  refine st hs rfl rfl rfl (d_call hs rfl rfl rfl (pl 122 rfl) ((hcp _ hm.fr))) ?_;clear hs a;rintro _ w1 ⟨y,rfl,hy,hyab,hyl,hN,hf⟩ a hs
  have hm6:=cp_gain hm hf hN
  clear hm hf hN
  have hm:=hm6
  clear hm6
  unfold KO.v RW.v at hs
  obtain⟨⟨yoA,yoc,yocs,yos⟩,yqA,yqc,yqcs,yrs⟩:=y
  obtain⟨ho,hq,hrs⟩:=hy
  unfold KO.ab at hyab
  dsimp only at hyab hyl ho hq hrs
  obtain⟨rfl,hyq⟩:=Ab.mk.inj hyab
  obtain⟨gq,rfl⟩:=hq.some_ (by omega)
  obtain⟨go,rfl⟩:=Row.some_ (show Row yoA yos.length yoc 1 (ints yos) yocs from ho) (by omega)
  have hko:k<yocs.length:=by rw[Row.len ho];have:=Row.le ho;dsimp only at this ⊢;omega
  have hkl:k<yrs.length:=by omega
  obtain⟨r,hr⟩:∃r,r=yrs[k]:=⟨_,rfl⟩
  have hr2:yrs[k]?=some r:=by rw[hr];exact List.getElem?_eq_getElem hkl
  have hrm0:r∈yrs:=List.mem_of_getElem? hr2
  have hro:Row r.A r.xs.length r.c 1 (ints r.xs) r.cs:=hrs r hrm0
  have hcell:yqcs[k]?=some (slv r.A r.xs.length r.c):=hq.get (by rw[List.getElem?_map,hr2];rfl)
  have hk2:k<yqcs.length:=by rw[hq.len];have:=hq.le;omega
  have hrl:r.xs.length≤500:=hsh.l _ (by show r.xs∈qs.map IS.xs;rw[←hyq];exact List.mem_map_of_mem hrm0)
  have hqk:(qs.map IS.xs).getD k []=r.xs:=by rw[←hyq,List.getD_eq_getElem?_getD,List.getElem?_map,hr2];rfl
  rw[hqk]
  unfold RW.hp at hm
  dsimp only at hs hm
  cases hxs:r.xs with
  |nil=>
   rw[hxs]at hcell
   dsimp only
   have hlast:(yocs.set k (.int .i64 (-1)))[k]?=some (.int .i64 (-1)):=by simp[hko]
   refine gs0d2a_ ?_;clear hs hm a;intros;rename_i a hm hs
   obtain⟨g9,rfl⟩:=hs.pp 9
   refine cMid (fun a w'=>Sl Tryz.f112.ntmps [(6,pt g6),(7,.int .i64 (-1)),(8,.bool true)] a∧Mm (fun _=>False) wB (⟨some gq,22,yqcs⟩::⟨some go,3,yocs.set k (.int .i64 (-1))⟩::⟨some g6,84,[slv (some go) yos.length yoc,slv (some gq) yrs.length yqc]⟩::yrs.map RW.hp) w') ?_ ?_
   ·skip
    refine cDrawT (n:=9) (.s [0,1,2,3,4,5]<| .o 6<| .s [7,8]<| .d) [⟨some g9,84,[slv (some go) yos.length yoc,slv (some gq) yrs.length yqc]⟩,⟨some go,3,yocs.set k (.int .i64 (-1))⟩] hm rfl rfl ?_
    clear hm;intro t_ w1_ hm
    repeat' (first|(refine dge39a_ ?_;clear t_ hs hm a;intros;rename_i a hm hs t_)|refine tE t_ ?_|refine tC ?_ ?_|exact tN|intro t_|(refine tD t_ ?_;(exact And.intro rfl ⟨(sb_ hs),hm.sub (List.Sublist.cons _ (List.Sublist.cons_cons _ (List.Sublist.cons_cons _ (List.Sublist.cons_cons _ (List.Sublist.cons _ (List.Sublist.refl _))))))⟩))|fail)
   clear hs hm a
   rintro a w' ⟨hs,hm⟩
   refine gs0d2a_ ?_;clear hs hm a;intros;rename_i a hm hs
   have hset:=RW.set_ok ho k (-1)
   refine gRetN tab hs rfl (.cons (.cells rfl rfl rfl rfl (hm.ro (k:=0) (n:=2) (g:=g6) mem_ (cutF_ok rfl))) (.cons (.tmp rfl) (.cons (.tmp rfl) .nil))) ⟨KO.ks ⟨⟨some go,yoc,yocs.set k (.int .i64 (-1)),yos.set k (-1)⟩,some gq,yqc,yqcs,yrs⟩,?_,KO.ks_ok hm ?_ ⟨hset,hq,hrs⟩,KO.new_at hm ?_,?_,hm.fr⟩
   ·rw[KO.ks_v]
    unfold KO.v RW.v
    dsimp only
    rw[List.length_set]
    rfl
   ·skip
    intro h hh
    rcases List.mem_cons.1 hh with rfl|hh
    ·exact mem_
    ·rcases List.mem_cons.1 hh with rfl|hh
     ·exact mem_
     ·repeat(first|exact hh|apply List.mem_cons_of_mem)
   ·skip
    intro h hh
    rcases List.mem_cons.1 hh with rfl|hh
    ·exact mem_
    ·rcases List.mem_cons.1 hh with rfl|hh
     ·exact mem_
     ·repeat(first|exact hh|apply List.mem_cons_of_mem)
   ·rw[KO.ks_ab]
    unfold KO.ab
    dsimp only
    rw[hyq]
  |cons u l=>
   rw[hxs]at hcell hro
   dsimp only
   obtain⟨gr,hgr⟩:=hro.some_ (by simp)
   rw[hgr]at hcell hro
   have hc0:r.cs[0]?=some (.int .i64 u):=hro.get rfl
   have hpos:0<(u::l).length:=Nat.succ_pos _
   have hm6:=Mm.front (L:=[_,_,_,_]) hm hr2
   clear hm
   have hm:=hm6
   clear hm6
   unfold RW.hp at hm
   rw[hgr]at hm
   rw[hxs]at hrl
   have hlast:((yocs.set k (.int .i64 (-1))).set k (.int .i64 u))[k]?=some (.int .i64 u):=by simp[hko]
   have hko2:k<(yocs.set k (.int .i64 (-1))).length:=by rw[List.length_set];exact hko
   refine gs0d2a_ ?_;clear hs hm a;intros;rename_i a hm hs
   obtain⟨g9,rfl⟩:=hs.pp 9
   refine cMid (fun a w'=>Sl Tryz.f112.ntmps [(1,.int .i64 (k:Int)),(6,pt g6),(9,pt g9)] a∧Mm (fun _=>False) wB (⟨some g9,84,[slv (some go) yos.length yoc,slv (some gq) yrs.length yqc]⟩::⟨some gr,3,r.cs⟩::⟨some gq,22,yqcs⟩::⟨some go,3,(yocs.set k (.int .i64 (-1))).set k (.int .i64 u)⟩::⟨some g6,84,[nS,nS]⟩::(yrs.eraseIdx k).map RW.hp) w') ?_ ?_
   ·skip
    refine cDrawT (n:=12) (.s [0,1,2,3,4,5,6,7,8,9,10]<| .o 11<| .d) [⟨some g9,84,[slv (some go) yos.length yoc,slv (some gq) yrs.length yqc]⟩,⟨some gr,3,r.cs⟩,⟨some gq,22,yqcs⟩] hm rfl rfl ?_
    clear hm;intro t_ w1_ hm
    repeat' (first|(refine dge39a_ ?_;clear t_ hs hm a;intros;rename_i a hm hs t_)|refine tE t_ ?_|refine tC ?_ ?_|exact tN|intro t_|(refine tD t_ ?_;(exact And.intro rfl ⟨(sb_ hs),hm.sub (List.Sublist.cons_cons _ (List.Sublist.cons_cons _ (List.Sublist.cons_cons _ (List.Sublist.cons_cons _ (List.Sublist.cons_cons _ (List.Sublist.cons _ (List.Sublist.refl _)))))))⟩))|fail)
   clear hs hm a
   rintro a w' ⟨hs,hm⟩
   refine gs0d2a_ ?_;clear hs hm a;intros;rename_i a hm hs
   refine cMid (fun a w'=>Sl Tryz.f112.ntmps [(1,.int .i64 (k:Int)),(6,pt g6),(9,pt g9)] a∧Mm (fun _=>False) wB (⟨some g9,84,[slv (some go) yos.length yoc,slv (some gq) yrs.length yqc]⟩::⟨some gr,3,r.cs⟩::⟨some gq,22,yqcs.set k (tlS gr (u::l).length r.c l).v⟩::⟨some go,3,(yocs.set k (.int .i64 (-1))).set k (.int .i64 u)⟩::⟨some g6,84,[nS,nS]⟩::(yrs.eraseIdx k).map RW.hp) w') ?_ ?_
   ·skip
    refine cDrawT (n:=11) (.s [0,1,2,3,4,5,6]<| .o 7<| .s [8,9]<| .o 10<| .d) [⟨some g9,84,[slv (some go) yos.length yoc,slv (some gq) yrs.length yqc]⟩] hm rfl rfl ?_
    clear hm;intro t_ w1_ hm
    repeat' (first|(refine dge39a_ ?_;clear t_ hs hm a;intros;rename_i a hm hs t_)|refine tE t_ ?_|refine tC ?_ ?_|exact tN|intro t_|(refine tD t_ ?_;(exact And.intro rfl ⟨(sb_ hs),hm⟩))|fail)
   clear hs hm a
   rintro a w' ⟨hs,hm⟩
   refine gs0d2a_ ?_;clear hs hm a;intros;rename_i a hm hs
   refine cMid (fun a w'=>Sl Tryz.f112.ntmps [(6,pt g6),(7,.int .i64 u),(8,.bool true)] a∧Mm (fun _=>False) wB (⟨some g9,84,[slv (some go) yos.length yoc,slv (some gq) yrs.length yqc]⟩::⟨some gr,3,r.cs⟩::⟨some gq,22,yqcs.set k (tlS gr (u::l).length r.c l).v⟩::⟨some go,3,(yocs.set k (.int .i64 (-1))).set k (.int .i64 u)⟩::⟨some g6,84,[slv (some go) yos.length yoc,slv (some gq) yrs.length yqc]⟩::(yrs.eraseIdx k).map RW.hp) w') ?_ ?_
   ·skip
    refine cDrawT (n:=9) (.s [0,1,2,3,4,5]<| .o 6<| .s [7,8]<| .d) [⟨some g9,84,[slv (some go) yos.length yoc,slv (some gq) yrs.length yqc]⟩,⟨some go,3,(yocs.set k (.int .i64 (-1))).set k (.int .i64 u)⟩] hm rfl rfl ?_
    clear hm;intro t_ w1_ hm
    repeat' (first|(refine dge39a_ ?_;clear t_ hs hm a;intros;rename_i a hm hs t_)|refine tE t_ ?_|refine tC ?_ ?_|exact tN|intro t_|(refine tD t_ ?_;(exact And.intro rfl ⟨(sb_ hs),hm⟩))|fail)
   clear hs hm a
   rintro a w' ⟨hs,hm⟩
   rw[List.set_set]at hm
   refine gs0d2a_ ?_;clear hs hm a;intros;rename_i a hm hs
   have hset:=RW.set_ok ho k u
   have hlq:((yrs.map RW.is).set k (tlS gr (u::l).length r.c l)).length=yrs.length:=by rw[List.length_set,List.length_map]
   have hmem:∀r'∈yrs,r'.hp∈(⟨some gr,3,r.cs⟩:Hp)::(yrs.eraseIdx k).map RW.hp:=fun r' hr'=>by
    rcases List.mem_cons.1 ((er_perm hr2).mem_iff.1 hr')with rfl|h
    ·unfold RW.hp;rw[hgr];exact List.Mem.head _
    ·exact List.Mem.tail _ (List.mem_map_of_mem h)
   refine gRetN tab hs rfl (.cons (.cells rfl rfl rfl rfl (hm.ro (k:=0) (n:=2) (g:=g6) mem_ (cutF_ok rfl))) (.cons (.tmp rfl) (.cons (.tmp rfl) .nil))) ⟨⟨RW.is ⟨some go,yoc,yocs.set k (.int .i64 u),yos.set k u⟩,(some gq:Option Nat).map fun g=>⟨g,0,none⟩,yqc,(yrs.map RW.is).set k (tlS gr (u::l).length r.c l)⟩,?_,ks_mk (qcs:=yqcs.set k (tlS gr (u::l).length r.c l).v) hm mem_ hset mem_ ?_ ?_,ks_new (qcs:=yqcs.set k (tlS gr (u::l).length r.c l).v) hm mem_ mem_ ?_,?_,hm.fr⟩
   ·unfold KS.v
    dsimp only
    rw[hlq,RW.is_v]
    unfold RW.v
    dsimp only
    rw[List.length_set]
    rfl
   ·rw[hlq,←isv_set]
    exact hq.set _ _
   ·intro q hq'
    rcases List.mem_or_eq_of_mem_set hq' with h|rfl
    ·obtain⟨r',hr',rfl⟩:=List.mem_map.1 h
     exact RW.ok_is hm (mem5 (hmem r' hr')) (hrs r' hr')
    ·exact tlS_ok hm mem_ hro
   ·intro q hq' b hb
    rcases List.mem_or_eq_of_mem_set hq' with h|rfl
    ·obtain⟨r',hr',rfl⟩:=List.mem_map.1 h
     exact(hm.ow _ (mem5 (hmem r' hr')) b (IS.blk_rw hb)).resolve_right id
    ·obtain rfl:=tlS_blk hb
     exact(hm.ow ⟨some b,3,r.cs⟩ mem_ b rfl).resolve_right id
   ·unfold KS.ab
    dsimp only
    rw[List.map_set,List.map_map,←hyq]
    rfl
 ·rw[if_neg c1]
  refine enterR Tryz.func112 rfl rfl rfl fun a hs hm=>?_
  refine gs0d2a_ ?_;clear hs hm a;intros;rename_i a hm hs
  obtain⟨g6,rfl⟩:=hs.pp 6
  refine st hs rfl rfl rfl (d_call hs rfl rfl rfl (pl 122 rfl) ((hcp _ hm.fr))) ?_;clear hs a;rintro _ w1 ⟨y,rfl,hy,hyab,hyl,hN,hf⟩ a hs
  have hm6:=cp_gain hm hf hN
  clear hm hf hN
  have hm:=hm6
  clear hm6
  unfold KO.v RW.v at hs
  refine gs0d2a_ ?_;clear hs hm a;intros;rename_i a hm hs
  refine gRetN tab hs rfl (.cons (.cells rfl rfl rfl rfl (hm.ro (k:=0) (n:=2) (g:=g6) mem_ (cutF_ok rfl))) (.cons (.tmp rfl) (.cons (.tmp rfl) .nil))) ⟨y.ks,by rw[KO.ks_v];rfl,KO.ks_ok hm ?_ hy,KO.new_at hm ?_,by rw[KO.ks_ab,hyab],hm.fr⟩
  ·skip
   intro h hh
   rcases List.mem_cons.1 hh with rfl|hh
   ·exact mem_
   ·rcases List.mem_cons.1 hh with rfl|hh
    ·exact mem_
    ·repeat(first|exact hh|apply List.mem_cons_of_mem)
  ·skip
   intro h hh
   rcases List.mem_cons.1 hh with rfl|hh
   ·exact mem_
   ·rcases List.mem_cons.1 hh with rfl|hh
    ·exact mem_
    ·repeat(first|exact hh|apply List.mem_cons_of_mem)
def thd0:ThD:=⟨0,List.replicate 8 ⟨0,0⟩,0,0,-1,-1,0,0⟩
theorem zrep_cvs(n:Nat):zrep n [.int .u8 0,.int .u16 0]=cvs (List.replicate n ⟨0,0⟩):=zrep_map n CV.cs ⟨0,0⟩
theorem row_full{A:Option Nat}{n s:Nat}{xs:List Value}(hA:A≠none)(hl:xs.length=n*s)(hn:n≤maxLen):Row A n n s xs xs:=
 ⟨fun h=>absurd h hA,Nat.le_refl _,hn,hl,hl,by rw[←hl,List.take_length]⟩
theorem temp_c(wB:World):Ret Tryz.prog 142 [] wB (fun u w'=>∃q:ThO,u= .agg q.v.toArray∧q.ok∧q.d=thd0∧New wB w' [q.hp]∧Pu wB w'):=by
 refine enterR Tryz.func142 rfl rfl rfl fun a hs hm=>?_
 refine gsc373_ ?_;clear hs hm a;intros;rename_i a hm hs
 refine dv hs (Wnt.none rfl) rfl rfl (d_makeSlice (n:=8) hs rfl rfl rfl tab rfl rfl rfl rfl rfl (by omega) rfl hm) ?_
 clear hs hm
 rintro _ w1 ⟨g1,rfl,-,hm⟩ a hs
 refine gsc373_ ?_;clear hs hm a;intros;rename_i a hm hs
 obtain⟨g0,rfl⟩:=hs.pp 0
 have hz:zrep 8 [.int .u8 0,.int .u16 0]=cvs (List.replicate 8 ⟨0,0⟩):=zrep_cvs 8
 have hro:(⟨some g1,8,zrep 8 [.int .u8 0,.int .u16 0],thd0⟩:ThO).ok:=by
  show Row (some g1) 8 8 2 (cvs (List.replicate 8 ⟨0,0⟩)) (zrep 8 [.int .u8 0,.int .u16 0])
  rw[hz]
  exact row_full (fun e=>by cases e) (by rw[cvs_len,List.length_replicate]) (by unfold maxLen;omega)
 exact gRetN tab hs rfl (.cons (.cells rfl rfl rfl rfl (hm.ro (k:=0) (n:=8) (g:=g0) mem_ (cutF_ok rfl))) .nil) ⟨⟨some g1,8,_,thd0⟩,rfl,hro,rfl,hm.new (List.Sublist.cons_cons _ (List.nil_sublist _)),hm.fr⟩
theorem tnew_c(pc:Int)(c:CV)(wB:World):Ret Tryz.prog 140 [.int .i64 pc,.agg #[.int .u8 c.t,.int .u16 c.v]] wB (fun u w'=>∃q:ThO,u= .agg q.v.toArray∧q.ok∧q.d={thd0 with st:=1,pc:=pc,xs:=c::List.replicate 7 ⟨0,0⟩}∧New wB w' [q.hp]∧Pu wB w'):=by
 refine enterR Tryz.func140 rfl rfl rfl fun a hs hm=>?_
 refine gs87a7_ ?_;clear hs hm a;intros;rename_i a hm hs
 refine st hs rfl rfl rfl (d_call hs rfl rfl rfl (pl 142 rfl) ((temp_c _))) ?_;clear hs a;rintro _ w1 ⟨⟨qA,qc,qcs,qd⟩,rfl,hqo,hqd,hN,hf⟩ a hs
 replace hm:=gainE hm hf hN
 clear hN hf
 dsimp only at hqd
 subst hqd
 have hr:Row qA 8 qc 2 (cvs (List.replicate 8 ⟨0,0⟩)) qcs:=hqo
 clear hqo
 obtain⟨gq,rfl⟩:=hr.some_ (by omega)
 have hql:=hr.len
 have hle:=hr.le
 unfold ThO.v at hs
 unfold ThO.hp at hm
 dsimp only at hs hm
 unfold thd0 at hs
 dsimp only at hs
 rw[List.length_replicate]at hs
 refine gs87a7_ ?_;clear hs hm a;intros;rename_i a hm hs
 obtain⟨g3,rfl⟩:=hs.pp 3
 obtain⟨g4,rfl⟩:=hs.pp 4
 obtain⟨g5,rfl⟩:=hs.pp 5
 simp only[List.cons_append,List.nil_append]at hm
 have hsp:=hr.splice (o:=0) (ys:=c.cs) (by rw[CV.cs_len];omega)
 rw[CV.cs_len,show(cvs (List.replicate 8 ⟨0,0⟩)).take 0++c.cs++(cvs (List.replicate 8 ⟨0,0⟩)).drop (0+2)=cvs (c::List.replicate 7 ⟨0,0⟩)from rfl]at hsp
 refine cMid (fun a w=>∃g5:Nat,Sl Tryz.f140.ntmps [(4,pt g4),(5,pt g5)] a∧Mm (fun _=>False) wB [⟨some g5,52,[.int .i64 1,slv (some gq) 8 qc,.int .i64 pc,.int .i64 0,.int .i64 (-1),.int .i64 (-1),.int .i64 0,.int .u16 0]⟩,⟨some g4,52,[.int .i64 0,nS,.int .i64 0,.int .i64 0,.int .i64 0,.int .i64 0,.int .i64 0,.int .u16 0]⟩,⟨some gq,103,qcs.take 0++c.cs++qcs.drop (0+2)⟩] w) ?_ ?_
 ·with_reducible repeat(first|apply gThen|apply wp_seq)
  refine cDrawT (n:=10) (.s [0,2,3]<| .o 1<| .t 4<| .o 5<| .t 6<| .o 7<| .t 8<| .o 9<| .x<| .d) [⟨some g3,103,[.int .u8 c.t,.int .u16 c.v]⟩] hm rfl rfl ?_
  clear hm;intro t_ w1_ hm
  repeat' (first|(refine dgdadf_ ?_;clear t_ hs hm a;intros;rename_i a hm hs t_)|refine tE t_ ?_|refine tC ?_ ?_|exact tN|intro t_|(refine oDoN (i:=9) hs rfl (Wnt.none rfl) rfl (by exact d_store hs rfl rfl rfl tab rfl rfl rfl rfl hm rep_ (putG (by show 0+2≤_;omega))) ?_;clear hs;rintro-w1 hm a hs;replace t_:=tX t_;refine⟨(hm.sub sub_),?_⟩)|(refine tD t_ ?_;(exact And.intro rfl ⟨g5,(sb_ hs),hm.sub sub_⟩))|fail)
 clear hs hm a
 rintro a w ⟨g5,hs,hm⟩
 refine gs87a7_ ?_;clear hs hm a;intros;rename_i a hm hs
 exact gRetN tab hs rfl (.cons (.cells rfl rfl rfl rfl (hm.ro (k:=0) (n:=8) (g:=g4) mem_ (cutF_ok rfl))) .nil) ⟨⟨some gq,qc,_,{thd0 with st:=1,pc:=pc,xs:=c::List.replicate 7 ⟨0,0⟩}⟩,rfl,hsp,rfl,hm.new sub_,hm.fr⟩
theorem tcop_c(t:ThV)(wB:World)(hA:Rd wB wB.heap.size t.A (cvs t.d.xs))(hn:t.d.xs.length≤1000):Ret Tryz.prog 121 [.agg t.v.toArray] wB (fun u w'=>∃q:ThO,u= .agg q.v.toArray∧q.ok∧q.d=t.d∧New wB w' [q.hp]∧Pu wB w'):=by
 unfold ThV.v
 refine enterR Tryz.func121 rfl rfl rfl fun a hs hm=>?_
 refine gs5eea_ ?_;clear hs hm a;intros;rename_i a hm hs
 obtain⟨g1,rfl⟩:=hs.pp 1
 obtain⟨g2,rfl⟩:=hs.pp 2
 refine dv hs (Wnt.none rfl) rfl rfl (d_appendS (A:=none) (n:=0) (c:=0) (xs:=[]) (news:=cvs t.d.xs) hs rfl rfl rfl rfl tab rfl rfl rfl rfl rfl (hm.zero 103) mem_ (Row.empty 2) (cvs_len _) (hm.fr.rd' hA) (cvs_one _) (by show(0+t.d.xs.length)*4≤_;omega) (by omega)) ?_
 clear hs
 rintro _ w3 ⟨rA,rc,rcs,rfl,hrr,hM⟩ a hs
 replace hm:=hM _ rep_
 clear hM
 rw[Nat.zero_add,List.nil_append]at hrr
 rw[Nat.zero_add]at hs
 refine gs5eea_ ?_;clear hs hm a;intros;rename_i a hm hs
 exact gRetN tab hs rfl (.cons (.cells rfl rfl rfl rfl (hm.ro (k:=0) (n:=8) (g:=g2) mem_ (cutF_ok rfl))) .nil) ⟨⟨rA,rc,rcs,t.d⟩,rfl,hrr,rfl,hm.new sub_,hm.fr⟩
theorem tend_c(t:ThV)(trp cod:Int)(wB:World)(hA:Rd wB wB.heap.size t.A (cvs t.d.xs))(hn:t.d.xs.length≤1000):Ret Tryz.prog 109 [.agg t.v.toArray,.int .i64 trp,.int .u16 cod] wB (fun u w'=>∃q:ThO,u= .agg q.v.toArray∧q.ok∧q.d={t.d with st:=4,trp:=trp,cod:=cod}∧New wB w' [q.hp]∧Pu wB w'):=by
 have kc:=fun w'' (hf:Pu wB w'')=>tcop_c t w'' (hf.rd' hA) hn
 unfold ThV.v at*
 refine enterR Tryz.func109 rfl rfl rfl fun a hs hm=>?_
 refine gs87a7_ ?_;clear hs hm a;intros;rename_i a hm hs
 refine st hs rfl rfl rfl (d_call hs rfl rfl rfl (pl 121 rfl) ((kc _ hm.fr))) ?_;clear hs a;rintro _ w1 ⟨q,rfl,hqo,hqd,hN,hf⟩ a hs
 replace hm:=gainE hm hf hN
 clear hN hf
 obtain⟨qA,qc,qcs,qd⟩:=q
 dsimp only at hqd
 subst hqd
 unfold ThO.v at hs
 refine gs87a7_ ?_;clear hs hm a;intros;rename_i a hm hs
 obtain⟨g6,rfl⟩:=hs.pp 6
 obtain⟨g7,rfl⟩:=hs.pp 7
 exact gRetN tab hs rfl (.cons (.cells rfl rfl rfl rfl (hm.ro (k:=0) (n:=8) (g:=g6) mem_ (cutF_ok rfl))) .nil) ⟨⟨qA,qc,qcs,{t.d with st:=4,trp:=trp,cod:=cod}⟩,rfl,hqo,rfl,hm.new sub_,hm.fr⟩
structure RyX where
 js:List Int
 A:Option Nat
 c:Nat
 cs:List Value
theorem trdy_c(A:Option Addr)(c:Nat)(ts:List ThV)(wB:World)(hA:Rd wB wB.heap.size A (ts.flatMap ThV.v))(hn:ts.length≤1000):Ret Tryz.prog 89 [.slice A ts.length c] wB (fun u w'=>∃(B:Option Addr)(d:Nat)(js:List Int),u= .slice B js.length d∧Rd w' w'.heap.size B (ints js)∧(∀b o,B=some ⟨b,o,none⟩→wB.heap.size≤b)∧js.length≤ts.length∧(∀j∈js,∃(k:Nat)(h:k<ts.length),j=(k:Int)∧(ts[k]).d.st=1)∧Pu wB w'):=by
 refine enterR Tryz.func89 rfl rfl rfl fun a hs hm=>?_
 refine gs87a7_ ?_;clear hs hm a;intros;rename_i a hm hs
 replace hm:=hm.zero 3
 refine cLoop (X:=Nat × RyX) (fun X a w'=>X.1≤ts.length∧X.2.js.length≤X.1∧Sl Tryz.f89.ntmps [(0,.slice A ts.length c),(3,slv X.2.A X.2.js.length X.2.c),(6,.slice A ts.length c),(7,.int .i64 (ts.length:Int)),(8,.int .i64 (X.1:Int))] a∧Mm (fun _=>False) wB [⟨X.2.A,3,X.2.cs⟩] w'∧Row X.2.A X.2.js.length X.2.c 1 (ints X.2.js) X.2.cs∧(∀j∈X.2.js,∃(k:Nat)(h:k<ts.length),j=(k:Int)∧(ts[k]).d.st=1)) (fun X=>ts.length-X.1) (0,⟨[],none,0,[]⟩) ⟨Nat.zero_le _,Nat.le_refl _,(sb_ hs),hm.sub sub_,Row.empty 1,fun j hj=>by cases hj⟩ ?_
 clear hs hm a
 rintro⟨k,js,jA,jc,jcs⟩ a w' ⟨hk,hjk,hs,hm,hjr,hjs⟩
 dsimp only at*
 by_cases hlt:k<ts.length
 ·obtain⟨b1,o1,hAe,hb1,r1⟩:=hA.ro (by rw[flat_len ThV.v 8 ThV.len];omega)
  have q1:=r1.flat ThV.len hlt
  obtain⟨z,hz⟩:∃z,ts[k]=z:=⟨_,rfl⟩
  rw[hz]at q1
  unfold ThV.v at q1
  rw[hAe]at hs
  by_cases hst:z.d.st=1
  ·rw[hst]at q1
   refine gs87a7_ ?_;clear hs hm a;intros;rename_i a hm hs
   refine dv hs (Wnt.none rfl) rfl rfl (d_append (A:=jA) (n:=js.length) (c:=jc) (news:=[.int .i64 (k:Int)]) hs rfl rfl rfl rfl rfl tab rfl rfl rfl rfl rfl hm mem_ hjr rfl (hm.ro (n:=1) mem_ (cutF_ok rfl)) rfl (by show(js.length+1)*8≤_;omega) (by omega)) ?_
   clear hs
   rintro _ w4 ⟨jA2,jc2,jcs2,rfl,hjr2,hM⟩ a hs
   replace hm:=hM _ rep_
   clear hM
   rw[ints_snoc']at hjr2
   refine gs87a7_ ?_;clear hs hm a;intros;rename_i a hm hs
   rw[←hAe]at hs
   refine⟨(k+1,⟨js++[(k:Int)],jA2,jc2,jcs2⟩),by dsimp only;omega,⟨by dsimp only;omega,by dsimp only;rw[List.length_append,List.length_singleton];omega,?_,hm.sub sub_,?_,?_⟩⟩
   ·dsimp only
    rw[List.length_append,List.length_singleton]
    exact(sb_ hs)
   ·dsimp only
    rw[List.length_append,List.length_singleton]
    exact hjr2
   ·intro j hj
    dsimp only at hj
    rcases List.mem_append.1 hj with hj|hj
    ·exact hjs j hj
    ·rcases List.mem_singleton.1 hj with rfl
     exact⟨k,hlt,rfl,by rw[hz];exact hst⟩
  ·refine gs87a7_ ?_;clear hs hm a;intros;rename_i a hm hs
   rw[←hAe]at hs
   exact⟨(k+1,⟨js,jA,jc,jcs⟩),by dsimp only;omega,⟨by dsimp only;omega,by dsimp only;omega,(sb_ hs),hm.sub sub_,hjr,hjs⟩⟩
 ·refine gs87a7_ ?_;clear hs hm a;intros;rename_i a hm hs
  exact gRet1 hs rfl rfl ⟨jA.map fun g=>⟨g,0,none⟩,jc,js,rfl,hm.rd_row mem_ hjr,(fun b o e=>by
   cases jA with
   |none=>cases e
   |some g=>
    have e':g=b:=by simpa using congrArg (fun x=>x.map Addr.block) e
    subst e'
    exact(hm.ow _ (List.mem_cons_self ..) g rfl).resolve_right id),by omega,hjs,hm.fr⟩
theorem gpSgq0_{G H:Prop}(k:H)(s:Bx H→G:=by intro k_;(repeat(first|(refine ov_ ?_;(try clear hs a);intro a hs)|((with_reducible apply lCons);first|(refine dv hs gw_ rfl rfl da_ ?_;(try clear hs hm a);rintro _ w_ ⟨g_,rfl,-,hm⟩ a hs)|(refine stn hs rfl rfl ds_ ?_;(try clear hs hm a);rintro-w_ hm a hs))|refine sc_ ?_));have m_:=hm;have s_:=hs;clear hs;(try clear hm);revert m_ s_ a;(try revert w_);(repeat revert g_);exact k_.h):G:=s ⟨k⟩
theorem gpSgq1_{G H:Prop}(k:H)(s:Bx H→G:=by intro k_;(repeat(first|(refine ovR_ ?_;(try clear hs a);intro a hs)|((with_reducible apply lCons);first|(refine dv hs gw_ rfl rfl da_ ?_;(try clear hs hm a);rintro _ w_ ⟨g_,rfl,-,hm⟩ a hs)|(refine stn hs rfl rfl ds_ ?_;(try clear hs hm a);rintro-w_ hm a hs))|refine sc_ ?_));have m_:=hm;have s_:=hs;clear hs;(try clear hm);revert m_ s_ a;(try revert w_);(repeat revert g_);exact k_.h):G:=s ⟨k⟩
def txv(l:List UInt8):Value:= .string ⟨l.toArray⟩
section
variable {P:Program} {N:Nat} {L:List (Nat × Value)} {a:Act} {w:World} {o:Oper} {x y:Operand} {T:List (Nat × TI)}
theorem r_sidx{t:TypeId}{i:TI}{l:List UInt8}{k:Nat}{c:UInt8}(hs:Sl N L a)(ho:o.op= .index t x y)(hx:ev L x=some (txv l))(hy:ev L y=some (.int .i64 (k:Int)))(hT:TabOk P T)(hc:tlk T t=some i)(hd:i.d= .str)(hk:l[k]?=some c):RunV P a o w (.int .u8 (c.toNat:Int)):=by
 replace hx:=hs.ev hx;replace hy:=hs.ev hy
 unfold txv at hx
 have h1:(⟨l.toArray⟩:ByteArray)[k]?=some c:=by
  rw[←hk]
  have:(⟨l.toArray⟩:ByteArray).size=l.length:=by simp[ByteArray.size]
  by_cases h:k<l.length
  ·rw[List.getElem?_eq_getElem h,getElem?_pos _ k (by rw[this];exact h)]
   simp[ByteArray.getElem_eq_getElem_data]
  ·rw[List.getElem?_eq_none (by omega),getElem?_neg _ k (by rw[this];exact h)]
 unfold RunV execOp
 simp[ho,hx,hy,Instr.index,asIntOf,run_und ((hT _ _ hc).str hd),h1]
end
def kndF(c:Int):List UInt8:=if c=0 then[78]else if c=8 then[78]else if c=9 then[78]else if c=11 then[78]else if c=12 then[78]else if c=1 then[72,80,78]else if c=2 then[72,80,78]else if c=3 then[78,78]else if c=4 then[72]else if c=5 then[72,78]else if c=10 then[78,88]else if c=13 then[78,80,78]else if c=14 then[78,80,78]else[]
theorem kndF_len(c:Int):(kndF c).length≤3:=by
 have h:∀(p:Prop) [Decidable p](a b:List UInt8),a.length≤3→b.length≤3→(if p then a else b).length≤3:=fun p _ a b ha hb=>by split<;>assumption
 unfold kndF
 repeat(first|(refine h _ _ _ (by decide) ?_)|decide)
def fitB(k:UInt8)(t:Int):Bool:=if k=78 then decide (t=0)else if k=72 then decide (t=2)else if k=80 then decide (t=1)else true
def bufF(c:Int):Int:=if c=1 then 1 else if c=13 then 1 else if c=2 then 2 else if c=14 then 2 else 0
theorem knd_c(c:Int)(wB:World):Ret Tryz.prog 118 [.int .i64 c] wB (fun u w'=>u=txv (kndF c)∧Pu wB w'):=by
 refine enterR Tryz.func118 rfl rfl rfl fun a hs hm=>?_
 unfold kndF
 by_cases c0:c=0
 ·subst c0
  refine gs87a7_ ?_;clear hs hm a;intros;rename_i a hm hs
  exact gRet1 hs rfl rfl ⟨rfl,hm.fr⟩
 rw[if_neg c0]
 by_cases c8:c=8
 ·subst c8
  refine gs87a7_ ?_;clear hs hm a;intros;rename_i a hm hs
  exact gRet1 hs rfl rfl ⟨rfl,hm.fr⟩
 rw[if_neg c8]
 by_cases c9:c=9
 ·subst c9
  refine gs87a7_ ?_;clear hs hm a;intros;rename_i a hm hs
  exact gRet1 hs rfl rfl ⟨rfl,hm.fr⟩
 rw[if_neg c9]
 by_cases c11:c=11
 ·subst c11
  refine gs87a7_ ?_;clear hs hm a;intros;rename_i a hm hs
  exact gRet1 hs rfl rfl ⟨rfl,hm.fr⟩
 rw[if_neg c11]
 by_cases c12:c=12
 ·subst c12
  refine gs87a7_ ?_;clear hs hm a;intros;rename_i a hm hs
  exact gRet1 hs rfl rfl ⟨rfl,hm.fr⟩
 rw[if_neg c12]
 by_cases c1:c=1
 ·subst c1
  refine gs87a7_ ?_;clear hs hm a;intros;rename_i a hm hs
  exact gRet1 hs rfl rfl ⟨rfl,hm.fr⟩
 rw[if_neg c1]
 by_cases c2:c=2
 ·subst c2
  refine gs87a7_ ?_;clear hs hm a;intros;rename_i a hm hs
  exact gRet1 hs rfl rfl ⟨rfl,hm.fr⟩
 rw[if_neg c2]
 by_cases c3:c=3
 ·subst c3
  refine gs87a7_ ?_;clear hs hm a;intros;rename_i a hm hs
  exact gRet1 hs rfl rfl ⟨rfl,hm.fr⟩
 rw[if_neg c3]
 by_cases c4:c=4
 ·subst c4
  refine gs87a7_ ?_;clear hs hm a;intros;rename_i a hm hs
  exact gRet1 hs rfl rfl ⟨rfl,hm.fr⟩
 rw[if_neg c4]
 by_cases c5:c=5
 ·subst c5
  refine gs87a7_ ?_;clear hs hm a;intros;rename_i a hm hs
  exact gRet1 hs rfl rfl ⟨rfl,hm.fr⟩
 rw[if_neg c5]
 by_cases c10:c=10
 ·subst c10
  refine gs87a7_ ?_;clear hs hm a;intros;rename_i a hm hs
  exact gRet1 hs rfl rfl ⟨rfl,hm.fr⟩
 rw[if_neg c10]
 by_cases c13:c=13
 ·subst c13
  refine gs87a7_ ?_;clear hs hm a;intros;rename_i a hm hs
  exact gRet1 hs rfl rfl ⟨rfl,hm.fr⟩
 rw[if_neg c13]
 by_cases c14:c=14
 ·subst c14
  refine gs87a7_ ?_;clear hs hm a;intros;rename_i a hm hs
  exact gRet1 hs rfl rfl ⟨rfl,hm.fr⟩
 rw[if_neg c14]
 refine gs87a7_ ?_;clear hs hm a;intros;rename_i a hm hs
 exact gRet1 hs rfl rfl ⟨rfl,hm.fr⟩
theorem u8_eq{k:UInt8}{n:Nat}(hn:n<256):((k.toNat:Int)=(n:Int))↔k=UInt8.ofNat n:=by
 constructor
 ·intro h
  have h1:k.toNat=n:=by omega
  rw[←h1];simp
 ·rintro rfl
  rw[UInt8.toNat_ofNat'];omega
theorem fit_c(k:UInt8)(t:Int)(wB:World):Ret Tryz.prog 119 [.int .u8 (k.toNat:Int),.int .u8 t] wB (fun u w'=>u= .bool (fitB k t)∧Pu wB w'):=by
 unfold fitB
 by_cases h1:k=78
 ·subst h1
  rw[if_pos rfl]
  refine enterR Tryz.func119 rfl rfl rfl fun a hs hm=>?_
  refine gs87a7_ ?_;clear hs hm a;intros;rename_i a hm hs
  exact gRet1 hs rfl rfl ⟨rfl,hm.fr⟩
 ·rw[if_neg h1]
  have h1':¬(k.toNat:Int)=78:=fun e=>h1 ((u8_eq (n:=78) (by omega)).1 e)
  by_cases h2:k=72
  ·subst h2
   rw[if_pos rfl]
   refine enterR Tryz.func119 rfl rfl rfl fun a hs hm=>?_
   refine gs87a7_ ?_;clear hs hm a;intros;rename_i a hm hs
   exact gRet1 hs rfl rfl ⟨rfl,hm.fr⟩
  ·rw[if_neg h2]
   have h2':¬(k.toNat:Int)=72:=fun e=>h2 ((u8_eq (n:=72) (by omega)).1 e)
   by_cases h3:k=80
   ·subst h3
    rw[if_pos rfl]
    refine enterR Tryz.func119 rfl rfl rfl fun a hs hm=>?_
    refine gs87a7_ ?_;clear hs hm a;intros;rename_i a hm hs
    exact gRet1 hs rfl rfl ⟨rfl,hm.fr⟩
   ·rw[if_neg h3]
    have h3':¬(k.toNat:Int)=80:=fun e=>h3 ((u8_eq (n:=80) (by omega)).1 e)
    refine enterR Tryz.func119 rfl rfl rfl fun a hs hm=>?_
    generalize(k.toNat:Int)=z at*
    refine gs87a7_ ?_;clear hs hm a;intros;rename_i a hm hs
    exact gRet1 hs rfl rfl ⟨rfl,hm.fr⟩
theorem arg_c(c:Int)(wB:World)(hc:0≤c∧c≤15):Ret Tryz.prog 110 [.int .i64 c] wB (fun u w'=>u= .int .i64 ((kndF c).length:Int)∧Pu wB w'):=by
 have hk:=fun w=>knd_c c w
 generalize kndF c=l at*
 refine enterR Tryz.func110 rfl rfl rfl fun a hs hm=>?_
 repeat(first|(refine gpSgq0_ ?_;clear hs hm a;intros;rename_i a hm hs)|refine sc_ ?_|((with_reducible apply lCons);first|(refine dvc hs hm gw_ rfl rfl rfl rfl rfl (pl 118 rfl) (hk _) ?_;clear hs hm a;intro w hm a hs)))
 exact gRet1 hs rfl rfl ⟨rfl,hm.fr⟩
theorem buf_c(c:Int)(wB:World)(hc:0≤c∧c≤15):Ret Tryz.prog 111 [.int .i64 c] wB (fun u w'=>u= .int .i64 (bufF c)∧Pu wB w'):=by
 unfold bufF
 refine enterR Tryz.func111 rfl rfl rfl fun a hs hm=>?_
 by_cases c1:c=1
 ·subst c1
  refine gs87a7_ ?_;clear hs hm a;intros;rename_i a hm hs
  exact gRet1 hs rfl rfl ⟨rfl,hm.fr⟩
 rw[if_neg c1]
 by_cases c13:c=13
 ·subst c13
  refine gs87a7_ ?_;clear hs hm a;intros;rename_i a hm hs
  exact gRet1 hs rfl rfl ⟨rfl,hm.fr⟩
 rw[if_neg c13]
 by_cases c2:c=2
 ·subst c2
  refine gs87a7_ ?_;clear hs hm a;intros;rename_i a hm hs
  exact gRet1 hs rfl rfl ⟨rfl,hm.fr⟩
 rw[if_neg c2]
 by_cases c14:c=14
 ·subst c14
  refine gs87a7_ ?_;clear hs hm a;intros;rename_i a hm hs
  exact gRet1 hs rfl rfl ⟨rfl,hm.fr⟩
 rw[if_neg c14]
 refine gs87a7_ ?_;clear hs hm a;intros;rename_i a hm hs
 exact gRet1 hs rfl rfl ⟨rfl,hm.fr⟩
structure CN where
 t:Int
 v:Int
 r:Int
 o:Int
def CN.cs(c:CN):List Value:=[.int .u8 c.t,.int .u16 c.v,.int .i64 c.r,.int .i64 c.o]
theorem CN.cs_len(c:CN):c.cs.length=4:=rfl
def CN.a(c:CN):Value:= .agg #[.int .u8 c.t,.int .u16 c.v,.int .i64 c.r,.int .i64 c.o]
def cns(l:List CN):List Value:=l.flatMap CN.cs
theorem cns_len(l:List CN):(cns l).length=l.length*4:=flat_len CN.cs 4 CN.cs_len l
theorem cns_one(l:List CN):(cns l).all (·.oneCell')=true:=flat_one (fun _=>rfl) l
structure CN.val(c:CN):Prop where
 t:c.t=0∨c.t=2∨c.t=1
 v:0≤c.v∧c.v≤65535
 n:¬c.t=1→c.r=0∧c.o=0
 p:c.t=1→c.v=0∧-1≤c.r∧c.r≤3∧0≤c.o∧c.o≤65535∧(¬c.r=-1→c.o≤31)
theorem ccel_c(c:CN)(wB:World)(h:c.val):Ret Tryz.prog 117 [c.a] wB (fun u w'=>u= .bool true∧Pu wB w'):=by
 obtain⟨t,v,r,o⟩:=c
 obtain⟨ht,hv,hn,hp⟩:=h
 unfold CN.a
 dsimp only at*
 rcases ht with rfl|rfl|rfl
 ·obtain⟨rfl,rfl⟩:=hn (by decide)
  refine enterR Tryz.func117 rfl rfl rfl fun a hs hm=>?_
  refine gs87a7_ ?_;clear hs hm a;intros;rename_i a hm hs
  exact gRet1 hs rfl rfl ⟨rfl,hm.fr⟩
 ·obtain⟨rfl,rfl⟩:=hn (by decide)
  refine enterR Tryz.func117 rfl rfl rfl fun a hs hm=>?_
  refine gs87a7_ ?_;clear hs hm a;intros;rename_i a hm hs
  exact gRet1 hs rfl rfl ⟨rfl,hm.fr⟩
 ·obtain⟨rfl,h1,h2,h3,h4,h5⟩:=hp rfl
  by_cases hr:r=-1
  ·subst hr
   refine enterR Tryz.func117 rfl rfl rfl fun a hs hm=>?_
   refine gs87a7_ ?_;clear hs hm a;intros;rename_i a hm hs
   exact gRet1 hs rfl rfl ⟨rfl,hm.fr⟩
  ·replace h5:=h5 hr
   refine enterR Tryz.func117 rfl rfl rfl fun a hs hm=>?_
   refine gs87a7_ ?_;clear hs hm a;intros;rename_i a hm hs
   exact gRet1 hs rfl rfl ⟨rfl,hm.fr⟩
structure CnS where
 A:Option Addr
 c:Nat
 xs:List CN
def CnS.v(x:CnS):Value:= .slice x.A x.xs.length x.c
def CnS.ok(x:CnS)(w:World):Prop:=Rd w w.heap.size x.A (cns x.xs)
theorem CnS.ok.pu{x:CnS}{w w':World}(h:x.ok w)(hf:Pu w w'):x.ok w':=hf.rd' h
theorem ccls_c(x:CnS)(n:Int)(wB:World)(hx:x.ok wB)(h:∀c∈x.xs,c.val)(hn:(x.xs.length:Int)≤n)(hl:x.xs.length≤1000000):Ret Tryz.prog 96 [x.v,.int .i64 n] wB (fun u w'=>u= .bool true∧Pu wB w'):=by
 obtain⟨A,c,xs⟩:=x
 unfold CnS.ok at hx
 unfold CnS.v
 dsimp only at*
 refine enterR Tryz.func96 rfl rfl rfl fun a hs hm=>?_
 refine gsce98_ ?_;clear hs hm a;intros;rename_i a hm hs
 refine cLoop (X:=Nat) (fun k a w'=>k≤xs.length∧Sl Tryz.f96.ntmps [(0,.slice A xs.length c),(1,.int .i64 n),(7,.slice A xs.length c),(8,.int .i64 (xs.length:Int)),(9,.int .i64 (k:Int))] a∧Mm (fun _=>False) wB [] w') (fun k=>xs.length-k) 0 ⟨Nat.zero_le _,(sb_ hs),hm.sub (List.nil_sublist _)⟩ ?_
 clear hs hm a
 rintro k a w' ⟨hk,hs,hm⟩
 by_cases hlt:k<xs.length
 ·obtain⟨b1,o1,hA,hb1,r1⟩:=hx.ro (by rw[cns_len];omega)
  have q1:=r1.flat CN.cs_len hlt
  have hc:=h xs[k] (List.getElem_mem hlt)
  have kc:=fun w''=>ccel_c xs[k] w'' hc
  generalize xs[k]=z at*
  unfold CN.cs at q1
  unfold CN.a at kc
  rw[hA]at hs
  repeat(first|(refine gpSgq1_ ?_;clear hs hm a;intros;rename_i a hm hs)|refine sc_ ?_|((with_reducible apply lCons);first|(refine dvc hs hm gw_ rfl rfl rfl rfl rfl (pl 117 rfl) (kc _) ?_;clear hs hm a;intro w hm a hs)))
  rw[←hA]at hs
  exact⟨k+1,by omega,by omega,(sb_ hs),hm.sub (List.nil_sublist _)⟩
 ·have he:k=xs.length:=by omega
  subst he
  refine gsce98_ ?_;clear hs hm a;intros;rename_i a hm hs
  exact gRet1 hs rfl rfl ⟨rfl,hm.fr⟩
structure RqV where
 th:Int
 stop:Int
 trap:Int
 cnt:Int
 pc:Int
 call:Int
 a:CnS
 d:CnS
def RqV.v(x:RqV):Value:= .agg #[.int .i64 x.th,.int .i64 x.stop,.int .i64 x.trap,.int .i64 x.cnt,.int .i64 x.pc,.int .i64 x.call,.slice x.a.A x.a.xs.length x.a.c,.slice x.d.A x.d.xs.length x.d.c]
structure RqV.ok(x:RqV)(w:World):Prop where
 a:x.a.ok w
 d:x.d.ok w
theorem RqV.ok.pu{x:RqV}{w w':World}(h:x.ok w)(hf:Pu w w'):x.ok w':=⟨h.a.pu hf,h.d.pu hf⟩
structure RqV.val(x:RqV):Prop where
 th:0≤x.th∧x.th≤3
 stop:0≤x.stop∧x.stop≤3
 trap:0≤x.trap∧x.trap≤6
 cnt:0≤x.cnt∧x.cnt≤1099511627776
 pc:0≤x.pc∧x.pc≤255
 call:0≤x.call∧x.call≤15
 a:x.a.xs.length≤3
 d:x.d.xs.length≤16
 av:∀c∈x.a.xs,c.val
 dv:∀c∈x.d.xs,c.val
structure RqV.kin [HB](x:RqV):Prop where
 n:x.a.xs.length=(kndF x.call).length
 k:∀i (h:i<x.a.xs.length) (h':i<(kndF x.call).length),fitB (kndF x.call)[i] x.a.xs[i].t=true
 b:bufF x.call=2→∀c,x.a.xs[2]?=some c→c.v≤16
 h:x.call=12→∀c,x.a.xs[0]?=some c→c.v≤HB.h
theorem rqval_c(x:RqV)(wB:World)(hx:x.ok wB)(h:x.val):Ret Tryz.prog 126 [x.v] wB (fun u w'=>u= .bool true∧Pu wB w'):=by
 obtain⟨th,stop,trap,cnt,pc,call,a0,d0⟩:=x
 obtain⟨h1,h2,h3,h4,h5,h6,h7,h8,h9,h10⟩:=h
 obtain⟨x1,x2⟩:=hx
 dsimp only at*
 have ka:=fun w'' (hf:Pu wB w'')=>ccls_c a0 3 w'' (x1.pu hf) h9 (by omega) (by omega)
 have kd:=fun w'' (hf:Pu wB w'')=>ccls_c d0 16 w'' (x2.pu hf) h10 (by omega) (by omega)
 unfold CnS.v at ka kd
 unfold RqV.v
 dsimp only
 refine enterR Tryz.func126 rfl rfl rfl fun a hs hm=>?_
 refine gsce98_ ?_;clear hs hm a;intros;rename_i a hm hs
 simp only[List.append_eq,List.cons_append,List.nil_append]
 repeat(first|(refine gpSgq1_ ?_;clear hs hm a;intros;rename_i a hm hs)|refine sc_ ?_|((with_reducible apply lCons);first|(refine dvc hs hm gw_ rfl rfl rfl rfl rfl (pl 96 rfl) (ka _ hm.fr) ?_;clear hs hm a;intro w hm a hs)|(refine dvc hs hm gw_ rfl rfl rfl rfl rfl (pl 96 rfl) (kd _ hm.fr) ?_;clear hs hm a;intro w hm a hs)))
 exact gRet1 hs rfl rfl ⟨rfl,hm.fr⟩
theorem gpSgt0_{G H:Prop}(k:H)(s:Bx H→G:=by intro k_;(repeat(first|(refine ov_ ?_;(try clear hs a);intro a hs)|((with_reducible apply lCons);first|(refine dv hs gw_ rfl rfl da_ ?_;(try clear hs hm a);rintro _ w_ ⟨g_,rfl,-,hm⟩ a hs)|(refine stn hs rfl rfl ds_ ?_;(try clear hs hm a);rintro-w_ hm a hs))|refine sc_ ?_));have m_:=hm;have s_:=hs;clear hs;(try clear hm);revert m_ s_ a;(try revert w_);(repeat revert g_);exact k_.h):G:=s ⟨k⟩
structure RsV where
 val:CN
 d:CnS
 spawn:Int
 wait:Bool
def RsV.v(x:RsV):Value:= .agg #[.int .u8 x.val.t,.int .u16 x.val.v,.int .i64 x.val.r,.int .i64 x.val.o,.slice x.d.A x.d.xs.length x.d.c,.int .i64 x.spawn,.bool x.wait]
def RsV.ok(x:RsV)(w:World):Prop:=x.d.ok w
theorem RsV.ok.pu{x:RsV}{w w':World}(h:x.ok w)(hf:Pu w w'):x.ok w':=CnS.ok.pu (x:=x.d) h hf
structure RsV.fit(x:RsV):Prop where
 v:x.val.val
 d:x.d.xs.length≤16
 dv:∀c∈x.d.xs,c.val
 sp:-1≤x.spawn∧x.spawn≤3
def failF(n:Int)(ok:Bool):Int:=if ok=true then n else 65535
def valR(n:Int)(ok:Bool):RsV:=⟨⟨0,IntKind.u16.wrap (failF n ok),0,0⟩,⟨none,0,[]⟩,-1,false⟩
theorem nilC_ok(c:Nat)(w:World):CnS.ok ⟨none,c,[]⟩ w:=fun h=>by cases h
theorem CN.num_val{n:Int}(h:0≤n∧n≤65535):CN.val ⟨0,n,0,0⟩:=⟨.inl rfl,h,fun _=>⟨rfl,rfl⟩,(fun e=>by cases e)⟩
theorem valR_ok(n:Int)(ok:Bool)(w:World):(valR n ok).ok w:=nilC_ok 0 w
theorem valR_fit(n:Int)(ok:Bool):(valR n ok).fit:=⟨CN.num_val (u16_bd _),Nat.zero_le _,(fun c hc=>by cases hc),(by show(-1:Int)≤-1∧(-1:Int)≤3;omega)⟩
theorem vlu_c(n:Int)(ok:Bool)(wB:World):Ret Tryz.prog 123 [.int .i64 n,.bool ok] wB (fun u w'=>u=(valR n ok).v∧Pu wB w'):=by
 cases ok
 ·refine enterR Tryz.func123 rfl rfl rfl fun a hs hm=>?_
  refine gs5eea_ ?_;clear hs hm a;intros;rename_i a hm hs
  exact gRetN tab hs rfl (.cons (.cells rfl rfl rfl rfl (hm.ro (k:=0) (n:=7) mem_ (cutF_ok rfl))) .nil) ⟨rfl,hm.fr⟩
 ·refine enterR Tryz.func123 rfl rfl rfl fun a hs hm=>?_
  refine gs5eea_ ?_;clear hs hm a;intros;rename_i a hm hs
  exact gRetN tab hs rfl (.cons (.cells rfl rfl rfl rfl (hm.ro (k:=0) (n:=7) mem_ (cutF_ok rfl))) .nil) ⟨rfl,hm.fr⟩
theorem rsval_c(x:RsV)(wB:World)(hx:x.ok wB)(h:x.fit):Ret Tryz.prog 127 [x.v] wB (fun u w'=>u= .bool true∧Pu wB w'):=by
 obtain⟨c0,d0,sp,wt⟩:=x
 obtain⟨h1,h2,h3,h4⟩:=h
 unfold RsV.ok at hx
 dsimp only at*
 have kc:=fun w''=>ccel_c c0 w'' h1
 have kd:=fun w'' (hf:Pu wB w'')=>ccls_c d0 16 w'' (hx.pu hf) h3 (by omega) (by omega)
 unfold CnS.v at kd
 unfold CN.a at kc
 unfold RsV.v
 dsimp only
 refine enterR Tryz.func127 rfl rfl rfl fun a hs hm=>?_
 repeat(first|(refine gpSgt0_ ?_;clear hs hm a;intros;rename_i a hm hs)|refine sc_ ?_|((with_reducible apply lCons);first|(refine dvc hs hm gw_ rfl rfl rfl rfl rfl (pl 117 rfl) (kc _) ?_;clear hs hm a;intro w hm a hs)|(refine dvc hs hm gw_ rfl rfl rfl rfl rfl (pl 96 rfl) (kd _ hm.fr) ?_;clear hs hm a;intro w hm a hs)))
 exact gRet1 hs rfl rfl ⟨rfl,hm.fr⟩
def le0:LnO:=⟨none,0,[],⟨-1,false,[]⟩⟩
def lz0:LnO:=⟨none,0,[],⟨0,false,[]⟩⟩
def lnC(k:Nat):List Value:=(List.replicate k le0++List.replicate (4-k) lz0).flatMap LnO.v
def ln4:List Value:=(List.replicate 4 le0).flatMap LnO.v
theorem le0_val(i:Nat):le0.d.val i:=⟨fun _=>⟨rfl,rfl⟩,(fun h=>absurd rfl h),(fun c hc=>by cases hc)⟩
theorem ln4_row(g:Nat):Row (some g) (List.replicate 4 le0).length 4 3 ((List.replicate 4 le0).flatMap LnO.v) ln4:=row_lit (g:=g) (k:=4) rfl (by omega)
theorem le0_ok:∀y∈List.replicate 4 le0,y.ok:=fun y hy=>by
 rw[List.eq_of_mem_replicate hy]
 exact Row.empty 2
theorem empty_c(wB:World):Ret Tryz.prog 62 [] wB (fun u w'=>∃g,u=slv (some g) 4 4∧New wB w' [⟨some g,61,ln4⟩]∧Pu wB w'):=by
 refine enterR Tryz.func62 rfl rfl rfl fun a hs hm=>?_
 refine gsdfd4_ ?_;clear hs hm a;intros;rename_i a hm hs
 refine dv hs (Wnt.none rfl) rfl rfl (d_makeSlice (n:=4) hs rfl rfl rfl tab rfl rfl rfl rfl rfl (by omega) rfl hm) ?_
 clear hs hm
 rintro _ w1 ⟨g1,rfl,-,hm⟩ a hs
 refine gsdfd4_ ?_;clear hs hm a;intros;rename_i a hm hs
 refine cLoop (X:=Nat) (fun k a w'=>k≤4∧Sl Tryz.f62.ntmps [(1,.slice (some ⟨g1,0,none⟩) 4 4),(5,.int .i64 4),(6,.int .i64 (k:Int))] a∧Mm (fun _=>False) wB [⟨some g1,61,lnC k⟩] w') (fun k=>4-k) 0 ⟨Nat.zero_le _,(sb_ hs),hm⟩ ?_
 clear hs hm a
 rintro k a w' ⟨hk,hs,hm⟩
 rcases(by omega:k=0∨k=1∨k=2∨k=3∨k=4)with rfl|rfl|rfl|rfl|rfl
 ·refine gsdfd4_ ?_;clear hs hm a;intros;rename_i a hm hs
  exact⟨1,by omega,by omega,(sb_ hs),hm⟩
 ·refine gsdfd4_ ?_;clear hs hm a;intros;rename_i a hm hs
  exact⟨2,by omega,by omega,(sb_ hs),hm⟩
 ·refine gsdfd4_ ?_;clear hs hm a;intros;rename_i a hm hs
  exact⟨3,by omega,by omega,(sb_ hs),hm⟩
 ·refine gsdfd4_ ?_;clear hs hm a;intros;rename_i a hm hs
  exact⟨4,by omega,by omega,(sb_ hs),hm⟩
 ·refine gsdfd4_ ?_;clear hs hm a;intros;rename_i a hm hs
  exact gRet1 hs rfl rfl ⟨g1,rfl,hm.new sub_,hm.fr⟩
theorem gpSid0_{G H:Prop}(k:H)(s:Bx H→G:=by intro k_;(repeat(first|(refine ovR_ ?_;(try clear hs a);intro a hs)|((with_reducible apply lCons);first|(refine dv hs gw_ rfl rfl (by first|exact da_|exact d_makeSlice hs rfl rfl rfl tab rfl rfl rfl rfl rfl (by omega) rfl hm) ?_;(try clear hs hm a);rintro _ w_ ⟨g_,rfl,-,hm⟩ a hs)|(refine stn hs rfl rfl ds_ ?_;(try clear hs hm a);rintro-w_ hm a hs))|refine sc_ ?_));have m_:=hm;have s_:=hs;clear hs;(try clear hm);revert m_ s_ a;(try revert w_);(repeat revert g_);exact k_.h):G:=s ⟨k⟩
theorem cvs_set{xs:List CV}{m:Nat}{v:Int}(h:m<xs.length):(cvs xs).set (m*2+1) (.int .u16 v)=cvs (xs.set m ⟨(xs[m]).t,v⟩):=
 flat_set CV.cs 2 CV.cs_len xs m 1 xs[m] (.int .u16 v) (List.getElem?_eq_getElem h) (by omega) ⟨(xs[m]).t,v⟩ rfl
theorem ldm_c [HB](p:PV)(A:Option Addr)(c:Nat)(bs:List Int)(key:Int)(wB:World)(hp:p.ok wB)(hpv:p.val)(hA:Rd wB wB.heap.size A (ints bs))(hnc:p.ss.length≤c)(hg:LGap bs p.ss):Ret Tryz.prog 100 [p.v,.agg #[.slice A p.ss.length c,.int .u16 key]] wB (fun u w'=>∃y:MeO,u= .tuple #[y.v,.int .i64 0]∧y.ok∧y.val∧New wB w' y.hps∧Pu wB w'):=by
 obtain⟨cA,cc,code,sA,sc,ss,dA,dc,ws⟩:=p
 obtain⟨h1,h2,h3,h4⟩:=hp
 obtain⟨v1,v2,v3,v4,v5,v6⟩:=hpv
 dsimp only at*
 have hs1:=v1.one
 have hs4:=v1.four
 have hbl:=hg.len
 have kv:=fun w'' (hf:Pu wB w'')=>lv_c A ss.length c bs key sA sc ss w'' rfl hnc (hf.rd' hA) (hf.rd' h2) v1 hg
 obtain⟨bb,ob,rfl,hbb,rB⟩:=hA.ro (by rw[ints_len];omega)
 obtain⟨b2,o2,rfl,hb2,rS⟩:=h2.ro (by rw[ints_len];omega)
 obtain⟨b3,o3,rfl,hb3,rD⟩:=h3.ro (by rw[List.length_map];omega)
 unfold PV.v
 dsimp only
 refine enterR Tryz.func100 rfl rfl rfl fun a hs hm=>?_
 repeat(first|(refine gpSid0_ ?_;clear hs hm a;intros;rename_i a hm hs)|refine sc_ ?_|((with_reducible apply lCons);first|(refine dvc hs hm gw_ rfl rfl rfl rfl rfl (pl 39 rfl) (kv _ hm.fr) ?_;clear hs hm a;intro w hm a hs)))
 obtain⟨g2,rfl⟩:=hs.pp 2
 obtain⟨g3,rfl⟩:=hs.pp 3
 obtain⟨g4,rfl⟩:=hs.pp 4
 refine cMid (fun a w=>∃(gc gl g6:Nat),Sl Tryz.f100.ntmps [(2,pt g2),(3,pt g3),(4,pt g4),(6,pt g6)] a∧Mm (fun _=>False) wB [⟨some g6,29,[.slice (some ⟨gc,0,none⟩) 512 512,.slice (some ⟨gl,0,none⟩) 4 4]⟩,⟨some gc,103,cvs (List.replicate 512 ⟨0,0⟩)⟩,⟨some gl,61,ln4⟩,⟨some g4,29,[nS,nS]⟩,⟨some g3,25,[.slice (some ⟨bb,ob,none⟩) ss.length c,.int .u16 key]⟩,⟨some g2,38,[.slice cA code.length cc,.slice (some ⟨b2,o2,none⟩) ss.length sc,.slice (some ⟨b3,o3,none⟩) ws.length dc]⟩] w) ?_ ?_
 ·with_reducible repeat(first|apply gThen|apply wp_seq)
  refine cDrawT (n:=5) (.e [(0,.x<| .e [(1,.x<| .t 2<| .o 3<| .o 4<| .d),(3,.o 1<| .x<| .t 2<| .o 4<| .d)]),(1,.x<| .e [(0,.x<| .t 2<| .o 3<| .o 4<| .d),(3,.o 0<| .x<| .t 2<| .o 4<| .d)]),(3,.e [(0,.x<| .o 1<| .x<| .t 2<| .o 4<| .d),(1,.x<| .o 0<| .x<| .t 2<| .o 4<| .d)])]) [] hm rfl rfl ?_
  clear hm;intro t_ w1_ hm
  repeat' (first|(refine dg9546_ ?_;clear t_ hs hm a;intros;rename_i a hm hs t_)|refine tE t_ ?_|refine tC ?_ ?_|exact tN|intro t_|(refine oDo (i:=0) hs rfl (Wnt.none rfl) rfl rfl (by exact d_makeSlice (n:=512) hs rfl rfl rfl tab rfl rfl rfl rfl rfl (by omega) rfl hm) ?_;clear hs;rintro _ w1 ⟨gc,rfl,-,hm⟩ a hs;(rw[zrep_cvs]at hm);replace t_:=tX t_;refine⟨(hm.sub sub_),?_⟩)|(refine oDo (i:=1) hs rfl (Wnt.none rfl) rfl rfl (by exact d_call hs rfl rfl rfl (pl 62 rfl) ((empty_c _))) ?_;clear hs;rintro _ w1 ⟨gl,rfl,hN,hf⟩ a hs;(replace hm:=hm.gain hf hN);(clear hf hN);(simp only[List.cons_append,List.nil_append]at hm);replace t_:=tX t_;refine⟨(hm.sub sub_),?_⟩)|(refine tD t_ ?_;(obtain⟨g6,rfl⟩:=hs.pp 6);(first|exact And.intro rfl ⟨gc,gl,g6,(sb_ hs),hm.sel [0,1,2,3,4,5] (by decide) rfl⟩|exact And.intro rfl ⟨gc,gl,g6,(sb_ hs),hm.sel [0,2,1,3,4,5] (by decide) rfl⟩|exact And.intro rfl ⟨gc,gl,g6,(sb_ hs),hm.sel [1,0,2,3,4,5] (by decide) rfl⟩|exact And.intro rfl ⟨gc,gl,g6,(sb_ hs),hm.sel [1,2,0,3,4,5] (by decide) rfl⟩|exact And.intro rfl ⟨gc,gl,g6,(sb_ hs),hm.sel [2,0,1,3,4,5] (by decide) rfl⟩|exact And.intro rfl ⟨gc,gl,g6,(sb_ hs),hm.sel [2,1,0,3,4,5] (by decide) rfl⟩))|fail)
 clear hs hm a
 rintro a w ⟨gc,gl,g6,hs,hm⟩
 refine gsdfd4_ ?_;clear hs hm a;intros;rename_i a hm hs
 refine cLoop (X:=Nat × List CV) (fun X a w'=>X.1≤ws.length∧X.2.length=512∧(∀z∈X.2,z.val)∧Sl Tryz.f100.ntmps [(2,pt g2),(3,pt g3),(4,pt g4),(6,pt g6),(30,.slice (some ⟨b3,o3,none⟩) ws.length dc),(31,.int .i64 (ws.length:Int)),(32,.int .i64 (X.1:Int))] a∧Mm (fun _=>False) wB [⟨some g6,29,[.slice (some ⟨gc,0,none⟩) 512 512,.slice (some ⟨gl,0,none⟩) 4 4]⟩,⟨some gc,103,cvs X.2⟩,⟨some gl,61,ln4⟩,⟨some g4,29,[nS,nS]⟩,⟨some g3,25,[.slice (some ⟨bb,ob,none⟩) ss.length c,.int .u16 key]⟩,⟨some g2,38,[.slice cA code.length cc,.slice (some ⟨b2,o2,none⟩) ss.length sc,.slice (some ⟨b3,o3,none⟩) ws.length dc]⟩] w') (fun X=>ws.length-X.1) (0,List.replicate 512 ⟨0,0⟩) ⟨Nat.zero_le _,List.length_replicate,(fun z hz=>by rw[List.eq_of_mem_replicate hz];exact⟨.inl rfl,by dsimp only;omega,by dsimp only;omega⟩),(sb_ hs),hm⟩ ?_
 clear hs hm a
 rintro⟨r,xs⟩ a w' ⟨hr,hxl,hxv,hs,hm⟩
 dsimp only at hr hxl hxv hs hm
 by_cases hlt:r<ws.length
 ·have hcell:(ws.map WV.v)[r]?=some (.slice (ws[r]).A (ws[r]).xs.length (ws[r]).c):=by rw[List.getElem?_map,List.getElem?_eq_getElem hlt];rfl
  have hfit:=v3 r hlt (by omega)
  have hq1:=h4 _ (List.getElem_mem hlt)
  have hq2:=v4 _ (List.getElem_mem hlt)
  have e2:=ints_some (xs:=ss) (k:=r) (by omega)
  have e1:=ints_some (xs:=bs) (k:=r) (by omega)
  have hgb:=hg.b r (by omega)
  rw[getI (l:=bs) (k:=r) (by omega),getI (l:=ss) (k:=r) (by omega)]at hgb
  generalize ws[r]=q at hcell hfit hq1 hq2
  generalize ss[r]'_=sk at*
  generalize bs[r]'_=bk at*
  refine gsdfd4_ ?_;clear hs hm a;intros;rename_i a hm hs
  refine cLoop (X:=Nat × List CV) (fun X a w'=>X.1≤q.xs.length∧X.2.length=512∧(∀z∈X.2,z.val)∧Sl Tryz.f100.ntmps [(2,pt g2),(3,pt g3),(4,pt g4),(6,pt g6),(7,.int .i64 (r:Int)),(30,.slice (some ⟨b3,o3,none⟩) ws.length dc),(31,.int .i64 (ws.length:Int)),(32,.int .i64 (r:Int)),(46,.slice q.A q.xs.length q.c),(47,.int .i64 (q.xs.length:Int)),(48,.int .i64 (X.1:Int))] a∧Mm (fun _=>False) wB [⟨some g6,29,[.slice (some ⟨gc,0,none⟩) 512 512,.slice (some ⟨gl,0,none⟩) 4 4]⟩,⟨some gc,103,cvs X.2⟩,⟨some gl,61,ln4⟩,⟨some g4,29,[nS,nS]⟩,⟨some g3,25,[.slice (some ⟨bb,ob,none⟩) ss.length c,.int .u16 key]⟩,⟨some g2,38,[.slice cA code.length cc,.slice (some ⟨b2,o2,none⟩) ss.length sc,.slice (some ⟨b3,o3,none⟩) ws.length dc]⟩] w') (fun X=>q.xs.length-X.1) (0,xs) ⟨Nat.zero_le _,hxl,hxv,(sb_ hs),hm⟩ ?_
  clear hs hm a
  rintro⟨i,ys⟩ a w' ⟨hi,hyl,hyv,hs,hm⟩
  dsimp only at hi hyl hyv hs hm
  by_cases hlt2:i<q.xs.length
  ·obtain⟨b4,o4,hqA,hb4,rQ⟩:=hq1.ro (by unfold wds;rw[List.length_map];omega)
   have e3:(wds q.xs)[i]?=some (.int .u16 (q.xs[i])):=by unfold wds;rw[List.getElem?_map,List.getElem?_eq_getElem hlt2];rfl
   have hvb:=hq2 _ (List.getElem_mem hlt2)
   generalize q.xs[i]'_=v at e3 hvb
   obtain⟨m,hm1⟩:∃m:Nat,bk+(i:Int)=(m:Int):=⟨(bk+(i:Int)).toNat,by omega⟩
   have hm2:m<512:=by omega
   have hm3:m*2+1<(cvs ys).length:=by rw[cvs_len];omega
   rw[hqA]at hs
   refine gsdfd4_ ?_;clear hs hm a;intros;rename_i a hm hs
   refine cMid (fun a w=>Sl Tryz.f100.ntmps [(2,pt g2),(3,pt g3),(4,pt g4),(6,pt g6),(7,.int .i64 (r:Int)),(30,.slice (some ⟨b3,o3,none⟩) ws.length dc),(31,.int .i64 (ws.length:Int)),(32,.int .i64 (r:Int)),(46,.slice q.A q.xs.length q.c),(47,.int .i64 (q.xs.length:Int)),(48,.int .i64 (i:Int))] a∧Mm (fun _=>False) wB [⟨some g6,29,[.slice (some ⟨gc,0,none⟩) 512 512,.slice (some ⟨gl,0,none⟩) 4 4]⟩,⟨some gc,103,(cvs ys).set (m*2+1) (.int .u16 v)⟩,⟨some gl,61,ln4⟩,⟨some g4,29,[nS,nS]⟩,⟨some g3,25,[.slice (some ⟨bb,ob,none⟩) ss.length c,.int .u16 key]⟩,⟨some g2,38,[.slice cA code.length cc,.slice (some ⟨b2,o2,none⟩) ss.length sc,.slice (some ⟨b3,o3,none⟩) ws.length dc]⟩] w) ?_ ?_
   ·with_reducible repeat(first|apply gThen|apply wp_seq)
    refine cDrawT (n:=13) (.s [0,1,2,3,4,5,6,7,8,9,10,11]<| .o 12<| .d) [⟨some g6,29,[.slice (some ⟨gc,0,none⟩) 512 512,.slice (some ⟨gl,0,none⟩) 4 4]⟩,⟨some g3,25,[.slice (some ⟨bb,ob,none⟩) ss.length c,.int .u16 key]⟩] hm rfl rfl ?_
    clear hm;intro t_ w1_ hm
    repeat' (first|(refine dg9546_ ?_;clear t_ hs hm a;intros;rename_i a hm hs t_)|refine tE t_ ?_|refine tC ?_ ?_|exact tN|intro t_|(refine tD t_ ?_;(rw[←hqA]at hs);(exact And.intro rfl ⟨(sb_ hs),hm⟩))|fail)
   clear hs hm a
   rintro a w ⟨hs,hm⟩
   rw[cvs_set (by omega)]at hm
   refine gsdfd4_ ?_;clear hs hm a;intros;rename_i a hm hs
   refine⟨(i+1,ys.set m ⟨(ys[m]'(by omega)).t,v⟩),by dsimp only;omega,by dsimp only;omega,by dsimp only;rw[List.length_set];exact hyl,fun z hz=>?_,(sb_ hs),hm⟩
   dsimp only at hz
   rcases List.mem_or_eq_of_mem_set hz with hz|rfl
   ·exact hyv z hz
   ·exact⟨(hyv _ (List.getElem_mem (by omega))).1,hvb.1,hvb.2⟩
  ·obtain rfl:i=q.xs.length:=by omega
   refine gsdfd4_ ?_;clear hs hm a;intros;rename_i a hm hs
   exact⟨(r+1,ys),by dsimp only;omega,by dsimp only;omega,hyl,hyv,(sb_ hs),hm⟩
 ·obtain rfl:r=ws.length:=by omega
  refine gsdfd4_ ?_;clear hs hm a;intros;rename_i a hm hs
  have hz:=(((hm.zero 103).zero 103).zero 103).zero 103
  refine gRetN tab hs rfl (.cons (.cells rfl rfl rfl rfl (hm.ro (k:=0) (n:=2) (g:=g4) mem_ (cutF_ok rfl))) (.cons (.tmp rfl) .nil)) ⟨⟨some gc,512,cvs xs,xs,some gl,4,ln4,List.replicate 4 le0⟩,?_,⟨?_,ln4_row gl,le0_ok⟩,⟨hxl,rfl,hxv,fun i hi=>?_⟩,?_,hm.fr⟩
  ·unfold MeO.v slv
   dsimp only
   rw[hxl]
   rfl
  ·dsimp only
   rw[hxl]
   exact row_full (fun e=>by cases e) (by rw[cvs_len,hxl]) (by unfold maxLen;omega)
  ·dsimp only
   rw[List.getElem_replicate]
   exact le0_val i
  ·exact(hz.sel [5,6,0,1,2,3] (by decide) rfl).new (List.Sublist.refl _)
theorem gpSie0_{G H:Prop}(k:H)(s:Bx H→G:=by intro k_;(repeat(first|(refine ov701a_ ?_;(try clear hs a);intro a hs)|((with_reducible apply lCons);first|(refine dv hs gw_ rfl rfl (by first|exact da_|exact d_makeSlice hs rfl rfl rfl tab rfl rfl rfl rfl rfl (by omega) rfl hm) ?_;(try clear hs hm a);rintro _ w_ ⟨g_,rfl,-,hm⟩ a hs)|(refine stn hs rfl rfl ds_ ?_;(try clear hs hm a);rintro-w_ hm a hs))|refine sc_ ?_));have m_:=hm;have s_:=hs;clear hs;(try clear hm);revert m_ s_ a;(try revert w_);(repeat revert g_);exact k_.h):G:=s ⟨k⟩
theorem thn_val [HB](st:Int)(h:0≤st∧st≤4):({thd0 with st:=st}:ThD).val 0:=⟨h,rfl,by unfold thd0;dsimp only;omega,by unfold thd0;dsimp only;omega,by have:=HB.ge;unfold thd0;dsimp only;omega,by unfold thd0;dsimp only;omega,by unfold thd0;dsimp only;omega,by unfold thd0;dsimp only;omega,fun c hc=>by
 rw[List.eq_of_mem_replicate hc]
 exact⟨.inl rfl,by dsimp only;omega,by dsimp only;omega⟩⟩
theorem start_c [HB](p:PV)(A:Option Addr)(c:Nat)(bs:List Int)(key:Int)(wB:World)(hp:p.ok wB)(hpv:p.val)(hA:Rd wB wB.heap.size A (ints bs))(hnc:p.ss.length≤c)(hg:LGap bs p.ss)(hkey:0≤key∧key≤65535):Ret Tryz.prog 82 [p.v,.agg #[.slice A p.ss.length c,.int .u16 key]] wB (fun u w'=>∃y:MO,u= .tuple #[y.v,.int .i64 0]∧y.ok∧y.d.val p.ss 0∧New wB w' y.hps∧Pu wB w'):=by
 have kck:=fun w'' (hf:Pu wB w'')=>chk_c p w'' (hp.pu hf) hpv
 have kld:=fun w'' (hf:Pu wB w'')=>ldm_c p A c bs key w'' (hp.pu hf) hpv (hf.rd' hA) hnc hg
 have h4:=hpv.sz.four
 have kv:=fun w'' (hf:Pu wB w'')=>lv_c A p.ss.length c bs key p.sA p.sc p.ss w'' rfl hnc (hf.rd' hA) (hf.rd' hp.s) hpv.sz hg
 have hbl:=hg.len
 obtain⟨cA,cc,code,sA,sc,ss,dA,dc,ws⟩:=p
 unfold PV.v at*
 dsimp only at*
 refine enterR Tryz.func82 rfl rfl rfl fun a hs hm=>?_
 repeat(first|(refine gpSie0_ ?_;clear hs hm a;intros;rename_i a hm hs)|refine sc_ ?_|((with_reducible apply lCons);first|(refine dvc hs hm gw_ rfl rfl rfl rfl rfl (pl 38 rfl) (kck _ hm.fr) ?_;clear hs hm a;intro w hm a hs)|(refine dvc hs hm gw_ rfl rfl rfl rfl rfl (pl 39 rfl) (kv _ hm.fr) ?_;clear hs hm a;intro w hm a hs)))
 refine st hs rfl rfl rfl (d_call hs rfl rfl rfl (pl 100 rfl) ((kld _ hm.fr))) ?_;clear hs a;rintro _ w1 ⟨y,rfl,hyo,hyv,hN,hf⟩ a hs
 replace hm:=gainE hm hf hN
 clear hN hf
 unfold MeO.v at hs
 simp only[List.cons_append,List.nil_append]at hm
 refine gs088d_ ?_;clear hs hm a;intros;rename_i a hm hs
 obtain⟨g2,rfl⟩:=hs.pp 2
 obtain⟨g3,rfl⟩:=hs.pp 3
 obtain⟨g4,rfl⟩:=hs.pp 4
 obtain⟨g7,rfl⟩:=hs.pp 7
 replace hm:=hm.zero 3
 refine cMid (fun a w=>∃(g9:Nat)(bA:Option Nat)(bc:Nat)(bcs:List Value),Row bA ss.length bc 1 (ints bs) bcs∧Sl Tryz.f82.ntmps [(4,pt g4),(9,pt g9)] a∧Mm (fun _=>False) wB ([⟨some g9,32,[slv bA ss.length bc,.int .u16 key,slv y.cA y.xs.length y.cc,slv y.lA y.ls.length y.lc,nS]⟩,⟨bA,3,bcs⟩,⟨some g4,32,[nS,.int .u16 0,nS,nS,nS]⟩]++y.hps) w) ?_ ?_
 ·with_reducible repeat(first|apply gThen|apply wp_seq)
  refine cDrawT (n:=10) (.s [0,1,3,4,6]<| .e [(2,.x<| .s [5,7]<| .o 8<| .o 9<| .d),(8,.o 2<| .x<| .s [5,7]<| .o 9<| .d)]) [⟨some g7,29,[slv y.cA y.xs.length y.cc,slv y.lA y.ls.length y.lc]⟩,⟨some g3,25,[.slice A ss.length c,.int .u16 key]⟩] hm rfl rfl ?_
  clear hm;intro t_ w1_ hm
  repeat' (first|(refine dg149e_ ?_;clear t_ hs hm a;intros;rename_i a hm hs t_)|refine tE t_ ?_|refine tC ?_ ?_|exact tN|intro t_|(refine oDo (i:=2) hs rfl (Wnt.none rfl) rfl rfl (by exact d_appendS (A:=none) (n:=0) (c:=0) (xs:=[]) (news:=ints bs) hs rfl rfl rfl rfl tab rfl rfl rfl rfl rfl hm mem_ (Row.empty 1) (by rw[ints_len,hbl];exact(Nat.mul_one _).symm) (hm.fr.rd' hA) (ints_one _) (by show(0+ss.length)*8≤_;omega) (by omega)) ?_;clear hs;rintro _ w1 ⟨bA,bc,bcs,rfl,hbr,hM⟩ a hs;(replace hm:=hM _ rep_);(clear hM);(rw[Nat.zero_add,List.nil_append]at hbr);(rw[Nat.zero_add]at hs);replace t_:=tX t_;refine⟨(hm.sub sub_),?_⟩)|(refine tD t_ ?_;(obtain⟨g9,rfl⟩:=hs.pp 9);(exact And.intro rfl ⟨g9,bA,bc,bcs,hbr,(sb_ hs),hm.sub (List.Sublist.cons_cons _ (List.Sublist.cons_cons _ (List.Sublist.cons _ (List.Sublist.cons_cons _ (List.Sublist.cons _ (List.Sublist.cons _ (List.Sublist.refl _)))))))⟩))|fail)
 clear hs hm a
 rintro a w ⟨g9,bA,bc,bcs,hbr,hs,hm⟩
 refine gs088d_ ?_;clear hs hm a;intros;rename_i a hm hs
 replace hm:=((hm.zero 52).perm (List.Perm.swap _ _ _))
 refine cLoop (X:=MtX) (fun X a w'=>X.rs.length≤4∧Sl Tryz.f82.ntmps [(4,pt g4),(9,pt g9),(38,.int .i64 (X.rs.length:Int))] a∧Mm (fun _=>False) wB (([⟨some g9,32,[slv bA ss.length bc,.int .u16 key,slv y.cA y.xs.length y.cc,slv y.lA y.ls.length y.lc,slv X.tA X.rs.length X.tc]⟩,⟨X.tA,52,X.tcs⟩,⟨bA,3,bcs⟩,⟨some g4,32,[nS,.int .u16 0,nS,nS,nS]⟩]++y.hps)++X.rs.map ThO.hp) w'∧Row X.tA X.rs.length X.tc 8 (X.rs.flatMap ThO.v) X.tcs∧(∀r∈X.rs,r.ok)∧(∀r∈X.rs,r.d.val 0)) (fun X=>4-X.rs.length) ⟨[],none,0,[]⟩ ⟨Nat.zero_le _,(sb_ hs),by rw[List.map_nil,List.append_nil];exact hm,Row.empty 8,(fun r hr=>by cases hr),(fun r hr=>by cases hr)⟩ ?_
 clear hs hm a
 rintro⟨rs,tA,tc,tcs⟩ a w' ⟨hlen,hs,hm,hlr,hok,hov⟩
 dsimp only at hlen hs hm hlr hok hov
 by_cases hlt:rs.length<4
 ·refine gs088d_ ?_;clear hs hm a;intros;rename_i a hm hs
  refine dv hs (Wnt.none rfl) rfl rfl (d_makeSlice (n:=8) hs rfl rfl rfl tab rfl rfl rfl rfl rfl (by omega) rfl hm) ?_
  clear hs hm
  rintro _ w2 ⟨g41,rfl,-,hm⟩ a hs
  rw[zrep_cvs]at hm
  obtain⟨rcs,hrcs⟩:∃rcs,rcs=cvs (List.replicate 8 ⟨0,0⟩):=⟨_,rfl⟩
  rw[←hrcs]at hm
  have hro:Row (some g41) 8 8 2 (cvs (List.replicate 8 ⟨0,0⟩)) rcs:=by
   rw[hrcs]
   exact row_full (fun e=>by cases e) (by rw[cvs_len,List.length_replicate]) (by unfold maxLen;omega)
  refine gs088d_ ?_;clear hs hm a;intros;rename_i a hm hs
  obtain⟨g11,rfl⟩:=hs.pp 11
  refine cMid (fun a w=>∃st:Int,(0≤st∧st≤4)∧Sl Tryz.f82.ntmps [(4,pt g4),(9,pt g9),(11,pt g11),(38,.int .i64 (rs.length:Int))] a∧Mm (fun _=>False) wB (⟨some g11,52,[.int .i64 st,.slice (some ⟨g41,0,none⟩) 8 8,.int .i64 0,.int .i64 0,.int .i64 (-1),.int .i64 (-1),.int .i64 0,.int .u16 0]⟩::⟨some g41,103,rcs⟩::(([⟨some g9,32,[slv bA ss.length bc,.int .u16 key,slv y.cA y.xs.length y.cc,slv y.lA y.ls.length y.lc,slv tA rs.length tc]⟩,⟨tA,52,tcs⟩,⟨bA,3,bcs⟩,⟨some g4,32,[nS,.int .u16 0,nS,nS,nS]⟩]++y.hps)++rs.map ThO.hp)) w) ?_ ?_
  ·by_cases h0:rs.length=0
   ·with_reducible repeat(first|apply gThen|apply wp_seq)
    refine gs088d_ ?_;clear hs hm a;intros;rename_i a hm hs
    exact And.intro rfl ⟨1,by omega,(sb_ hs),hm⟩
   ·with_reducible repeat(first|apply gThen|apply wp_seq)
    refine gs088d_ ?_;clear hs hm a;intros;rename_i a hm hs
    exact And.intro rfl ⟨0,by omega,(sb_ hs),hm⟩
  clear hs hm a
  rintro a w ⟨st,hst,hs,hm⟩
  obtain⟨r,hr⟩:∃r:ThO,r=⟨some g41,8,rcs,{thd0 with st:=st}⟩:=⟨_,rfl⟩
  have hrv:r.v=[.int .i64 st,.slice (some ⟨g41,0,none⟩) 8 8,.int .i64 0,.int .i64 0,.int .i64 (-1),.int .i64 (-1),.int .i64 0,.int .u16 0]:=by rw[hr];rfl
  have hrok:r.ok:=by rw[hr];exact hro
  have hrd:r.d.val 0:=by rw[hr];exact thn_val st hst
  have hrh:r.hp=⟨some g41,103,rcs⟩:=by rw[hr];rfl
  refine gs088d_ ?_;clear hs hm a;intros;rename_i a hm hs
  refine dv hs (Wnt.none rfl) rfl rfl (d_append (A:=tA) (n:=rs.length) (c:=tc) (news:=[.int .i64 st,.slice (some ⟨g41,0,none⟩) 8 8,.int .i64 0,.int .i64 0,.int .i64 (-1),.int .i64 (-1),.int .i64 0,.int .u16 0]) hs rfl rfl rfl rfl rfl tab rfl rfl rfl rfl rfl hm mem_ hlr rfl (hm.ro (n:=8) mem_ (cutF_ok rfl)) rfl (by show(rs.length+1)*80≤_;omega) (by omega)) ?_
  clear hs
  rintro _ w4 ⟨tA2,tc2,tcs2,rfl,hlr2,hM⟩ a hs
  replace hm:=hM _ rep_
  clear hM
  rw[←hrv,th_snoc]at hlr2
  refine gs088d_ ?_;clear hs hm a;intros;rename_i a hm hs
  rw[←hrh]at hm
  replace hm:=hm.sub (List.Sublist.cons _ (List.Sublist.cons _ (List.Sublist.refl _)))
  refine⟨⟨rs++[r],tA2,tc2,tcs2⟩,by dsimp only;rw[List.length_append,List.length_singleton];omega,by dsimp only;rw[List.length_append,List.length_singleton];omega,?_,?_,?_,?_,?_⟩
  ·dsimp only
   rw[List.length_append,List.length_singleton]
   exact(sb_ hs)
  ·dsimp only
   rw[List.length_append,List.length_singleton]
   exact th_perm hm
  ·dsimp only
   rw[List.length_append,List.length_singleton]
   exact hlr2
  ·intro z hz
   rcases List.mem_append.1 hz with hz|hz
   ·exact hok z hz
   ·rcases List.mem_singleton.1 hz with rfl;exact hrok
  ·intro z hz
   rcases List.mem_append.1 hz with hz|hz
   ·exact hov z hz
   ·rcases List.mem_singleton.1 hz with rfl;exact hrd
 ·have hln:rs.length=4:=by omega
  refine gs088d_ ?_;clear hs hm a;intros;rename_i a hm hs
  refine gRetN tab hs rfl (.cons (.cells rfl rfl rfl rfl (hm.ro (k:=0) (n:=5) (g:=g4) mem_ (cutF_ok rfl))) (.cons (.tmp rfl) .nil)) ⟨⟨bA,bc,bcs,bs,key,y,tA,tc,tcs,rs⟩,?_,⟨by dsimp only;rw[hbl];exact hbr,hyo,hlr,hok⟩,⟨hg,hkey,hyv.n,?_,?_,hyv.cv,?_,?_⟩,hm.new ?_,hm.fr⟩
  ·unfold MO.v
   dsimp only
   rw[hbl]
   rfl
  ·unfold MO.d
   dsimp only
   rw[List.length_map]
   exact hyv.l
  ·show(rs.map ThO.d).length=4
   rw[List.length_map]
   exact hln
  ·intro i hi
   unfold MO.d at hi ⊢
   dsimp only at hi ⊢
   rw[List.getElem_map]
   exact hyv.ll i (by rwa[List.length_map]at hi)
  ·intro z hz
   unfold MO.d at hz
   dsimp only at hz
   obtain⟨r,hr,rfl⟩:=List.mem_map.1 hz
   exact hov r hr
  ·unfold MO.hps
   dsimp only
   exact zbd11_
theorem pcp_c(x:MV)(wB:World)(hx:x.ok wB)(hsm:x.d.sm):Ret Tryz.prog 23 [x.v] wB (fun u w'=>∃y:MO,u=y.v∧y.ok∧y.d=x.d∧New wB w' y.hps∧Pu wB w'):=by
 have hb1:x.bs.length≤1000:=hsm.b
 have ht1:x.ts.length≤1000:=by have:=hsm.t;unfold MV.d at this;dsimp only at this;rwa[List.length_map]at this
 unfold MV.v
 refine enterR Tryz.func23 rfl rfl rfl fun a hs hm=>?_
 refine gsce98_ ?_;clear hs hm a;intros;rename_i a hm hs
 obtain⟨g1,rfl⟩:=hs.pp 1
 obtain⟨g2,rfl⟩:=hs.pp 2
 refine cMid (fun a w=>∃(g3:Nat)(bA:Option Nat)(bc:Nat)(bcs:List Value)(y:MeO),Row bA x.bs.length bc 1 (ints x.bs) bcs∧y.ok∧y.d=(x.xs,x.ls.map LnV.d)∧Sl Tryz.f23.ntmps [(1,pt g1),(2,pt g2),(3,pt g3)] a∧Mm (fun _=>False) wB ([⟨some g3,32,[slv bA x.bs.length bc,.int .u16 x.key,slv y.cA y.xs.length y.cc,slv y.lA y.ls.length y.lc,nS]⟩,⟨bA,3,bcs⟩,⟨some g2,32,[nS,.int .u16 0,nS,nS,nS]⟩,⟨some g1,32,(x.cl [.slice x.tA x.ts.length x.tc])⟩]++y.hps) w) ?_ ?_
 ·skip
  refine cDrawT (n:=9) (.s [0,1,3,4]<| .e [(2,.x<| .e [(5,.x<| .t 6<| .o 7<| .o 8<| .d),(7,.o 5<| .x<| .t 6<| .o 8<| .d)]),(7,.o 2<| .x<| .o 5<| .x<| .t 6<| .o 8<| .d)]) [⟨some g1,32,(x.cl [.slice x.tA x.ts.length x.tc])⟩] hm rfl rfl ?_
  clear hm;intro t_ w1_ hm
  repeat' (first|(refine dg9546_ ?_;clear t_ hs hm a;intros;rename_i a hm hs t_)|refine tE t_ ?_|refine tC ?_ ?_|exact tN|intro t_|(refine oDo (i:=2) hs rfl (Wnt.none rfl) rfl rfl (by exact d_call hs rfl rfl rfl (pl 34 rfl) ((lyc_c x.bA x.bs.length x.bc x.bs x.key _ rfl (hm.fr.rd' hx.b) (by omega)))) ?_;clear hs;rintro _ w1 ⟨bA,bc,bcs,rfl,hbr,hN,hf⟩ a hs;(replace hm:=hm.gain hf hN);(clear hN hf);replace t_:=tX t_;refine⟨(hm.sub sub_),?_⟩)|(refine oDo (i:=5) hs rfl (Wnt.none rfl) rfl rfl (by exact d_call hs rfl rfl rfl (pl 35 rfl) ((mmc_c x _ (hx.pu hm.fr) hsm))) ?_;clear hs;rintro _ w1 ⟨y,rfl,hyo,hyd,hN,hf⟩ a hs;(replace hm:=gainE hm hf hN);(clear hN hf);(unfold MeO.v at hs);replace t_:=tX t_;refine⟨(hm.sub sub_),?_⟩)|(refine tD t_ ?_;(obtain⟨g3,rfl⟩:=hs.pp 3);(first|exact And.intro rfl ⟨g3,bA,bc,bcs,y,hbr,hyo,hyd,(sb_ hs),hm⟩|exact And.intro rfl ⟨g3,bA,bc,bcs,y,hbr,hyo,hyd,(sb_ hs),hm.perm (List.Perm.swap _ _ _)⟩))|fail)
 clear hs hm a
 rintro a w ⟨g3,bA,bc,bcs,y,hbr,hyo,hyd,hs,hm⟩
 refine gsce98_ ?_;clear hs hm a;intros;rename_i a hm hs
 replace hm:=((hm.zero 52).perm (List.Perm.swap _ _ _)).sub (List.Sublist.cons_cons _ (List.Sublist.cons_cons _ (List.Sublist.cons_cons _ (List.Sublist.cons_cons _ (List.Sublist.cons _ (List.Sublist.refl _))))))
 refine cLoop (X:=MtX) (fun X a w'=>X.rs.length≤x.ts.length∧Sl Tryz.f23.ntmps [(2,pt g2),(3,pt g3),(14,.slice x.tA x.ts.length x.tc),(15,.int .i64 (x.ts.length:Int)),(16,.int .i64 (X.rs.length:Int))] a∧Mm (fun _=>False) wB (([⟨some g3,32,[slv bA x.bs.length bc,.int .u16 x.key,slv y.cA y.xs.length y.cc,slv y.lA y.ls.length y.lc,slv X.tA X.rs.length X.tc]⟩,⟨X.tA,52,X.tcs⟩,⟨bA,3,bcs⟩,⟨some g2,32,[nS,.int .u16 0,nS,nS,nS]⟩]++y.hps)++X.rs.map ThO.hp) w'∧Row X.tA X.rs.length X.tc 8 (X.rs.flatMap ThO.v) X.tcs∧X.rs.map ThO.d=(x.ts.take X.rs.length).map ThV.d∧∀r∈X.rs,r.ok) (fun X=>x.ts.length-X.rs.length) ⟨[],none,0,[]⟩ ⟨Nat.zero_le _,(sb_ hs),by rw[List.map_nil,List.append_nil];exact hm,Row.empty 8,rfl,fun r hr=>by cases hr⟩ ?_
 clear hs hm a
 rintro⟨rs,tA,tc,tcs⟩ a w' ⟨hlen,hs,hm,hlr,hab,hok⟩
 dsimp only at hlen hs hm hlr hab hok
 by_cases hlt:rs.length<x.ts.length
 ·obtain⟨b1,o1,hA,hb1,r1⟩:=hx.t.ro (by rw[flat_len ThV.v 8 ThV.len];omega)
  obtain⟨q,hq⟩:∃q,x.ts[rs.length]=q:=⟨_,rfl⟩
  have hqm:q∈x.ts:=by rw[←hq];exact List.getElem_mem hlt
  have r2:=r1.flat ThV.len hlt
  rw[hq]at r2
  unfold ThV.v at r2
  have hqr:=hx.tt q hqm
  have hqn:q.d.xs.length≤1000:=hsm.tt q.d (List.mem_map.2 ⟨q,hqm,rfl⟩)
  rw[hA]at hs
  refine gsce98_ ?_;clear hs hm a;intros;rename_i a hm hs
  obtain⟨g5,rfl⟩:=hs.pp 5
  refine st hs rfl rfl rfl (d_call hs rfl rfl rfl (pl 36 rfl) ((clc_c q.A q.d.xs.length q.c (cvs q.d.xs) _ (cvs_len _) (hm.fr.rd' hqr) (cvs_one _) (by omega)))) ?_;clear hs a;rintro _ w3 ⟨rA,rc,rcs,rfl,hrr,hN,hf⟩ a hs
  replace hm:=hm.gain hf hN
  clear hN hf
  obtain⟨r,hr⟩:∃r:ThO,r=⟨rA,rc,rcs,q.d⟩:=⟨_,rfl⟩
  have hrv:r.v=[.int .i64 q.d.st,slv rA q.d.xs.length rc,.int .i64 q.d.pc,.int .i64 q.d.cnt,.int .i64 q.d.han,.int .i64 q.d.sav,.int .i64 q.d.trp,.int .u16 q.d.cod]:=by rw[hr];rfl
  have hro:r.ok:=by rw[hr];exact hrr
  have hrd:r.d=q.d:=by rw[hr]
  have hrh:r.hp=⟨rA,103,rcs⟩:=by rw[hr];rfl
  refine gsce98_ ?_;clear hs hm a;intros;rename_i a hm hs
  refine dv hs (Wnt.none rfl) rfl rfl (d_append (A:=tA) (n:=rs.length) (c:=tc) (news:=[.int .i64 q.d.st,slv rA q.d.xs.length rc,.int .i64 q.d.pc,.int .i64 q.d.cnt,.int .i64 q.d.han,.int .i64 q.d.sav,.int .i64 q.d.trp,.int .u16 q.d.cod]) hs rfl rfl rfl rfl rfl tab rfl rfl rfl rfl rfl hm mem_ hlr rfl (hm.ro (n:=8) mem_ (cutF_ok rfl)) rfl (by show(rs.length+1)*80≤_;omega) (by omega)) ?_
  clear hs
  rintro _ w4 ⟨tA2,tc2,tcs2,rfl,hlr2,hM⟩ a hs
  replace hm:=hM _ rep_
  clear hM
  rw[←hrv,th_snoc]at hlr2
  refine gsce98_ ?_;clear hs hm a;intros;rename_i a hm hs
  rw[←hrh]at hm
  rw[←hA]at hs
  replace hm:=hm.sub (List.Sublist.cons _ (List.Sublist.cons_cons _ (List.Sublist.cons _ (List.Sublist.refl _))))
  refine⟨⟨rs++[r],tA2,tc2,tcs2⟩,by dsimp only;rw[List.length_append,List.length_singleton];omega,by dsimp only;rw[List.length_append,List.length_singleton];omega,?_,?_,?_,th_take hab hlt (by rw[hrd,hq]),?_⟩
  ·dsimp only
   rw[List.length_append,List.length_singleton]
   exact(sb_ hs)
  ·dsimp only
   rw[List.length_append,List.length_singleton]
   exact th_perm hm
  ·dsimp only
   rw[List.length_append,List.length_singleton]
   exact hlr2
  ·intro z hz
   rcases List.mem_append.1 hz with hz|hz
   ·exact hok z hz
   ·rcases List.mem_singleton.1 hz with rfl;exact hro
 ·have hln:rs.length=x.ts.length:=by omega
  refine gsce98_ ?_;clear hs hm a;intros;rename_i a hm hs
  rw[hln,List.take_length]at hab
  refine gRetN tab hs rfl (.cons (.cells rfl rfl rfl rfl (hm.ro (k:=0) (n:=5) (g:=g2) mem_ (cutF_ok rfl))) .nil) ⟨⟨bA,bc,bcs,x.bs,x.key,y,tA,tc,tcs,rs⟩,rfl,⟨hbr,hyo,hlr,hok⟩,?_,hm.new ?_,hm.fr⟩
  ·unfold MO.d MV.d
   dsimp only
   rw[hab]
   have h1:=congrArg Prod.fst hyd
   have h2:=congrArg Prod.snd hyd
   unfold MeO.d at h1 h2
   dsimp only at h1 h2
   rw[h1,h2]
  ·unfold MO.hps
   dsimp only
   exact zbd11_
theorem gpSgf0_{G H:Prop}(k:H)(s:Bx H→G:=by intro k_;(repeat(first|(refine oqc4ee_ ?_;(try clear hs a);intro a hs)|((with_reducible apply lCons);first|(refine dv hs gw_ rfl rfl da_ ?_;(try clear hs hm a);rintro _ w_ ⟨g_,rfl,-,hm⟩ a hs)|(refine stn hs rfl rfl ds_ ?_;(try clear hs hm a);rintro-w_ hm a hs))|((with_reducible apply qNil);(try clear hm);intro w_ hm)|refine cQ_ ?_|refine sc_ ?_));have m_:=hm;have s_:=hs;clear hs;(try clear hm);revert m_ s_ a;(try revert w_);(repeat revert g_);exact k_.h):G:=s ⟨k⟩
theorem gcSgf1_{G H:Prop}(k:H)(s:Bx H→G:=by intro k_;(repeat(first|(refine oqc4ee_ ?_;(try clear hs a);intro a hs)|((with_reducible apply lCons);first|(refine dv hs gw_ rfl rfl da_ ?_;(try clear hs hm a);rintro _ w_ ⟨g_,rfl,-,hm⟩ a hs)|(refine stn hs rfl rfl ds_ ?_;(try clear hs hm a);rintro-w_ hm a hs))|((with_reducible apply qNil);(try clear hm);intro w_ hm)|refine cQ_ ?_|refine sc_ ?_|((with_reducible apply lCons);first|(refine dvc hs hm gw_ rfl rfl rfl rfl rfl (pl 37 rfl) (k2 _ hm.fr) ?_;(try clear hs hm a);intro w_ hm a hs))|((with_reducible apply qCons);first|(refine qwc hs gw_ rfl rfl rfl rfl rfl (pl 37 rfl) (fun w hm=>k2 _ hm.fr) ?_;(try clear hs a);intro a hs))));(first|(have m_:=hm;have s_:=hs;clear hs;(try clear hm);revert m_ s_ a)|((first|refine rexc_ hs hm ?_|refine rexl_ hs hm ?_|refine rexg_ hs hm ?_|refine rexq_ hs hm ?_);intro a hm hs;revert hm hs a));(try revert w_);(repeat revert g_);exact k_.h):G:=s ⟨k⟩
theorem gcSgf2_{G H:Prop}(k:H)(s:Bx H→G:=by intro k_;(repeat(first|(refine oqR_ ?_;(try clear hs a);intro a hs)|((with_reducible apply lCons);first|(refine dv hs gw_ rfl rfl da_ ?_;(try clear hs hm a);rintro _ w_ ⟨g_,rfl,-,hm⟩ a hs)|(refine stn hs rfl rfl ds_ ?_;(try clear hs hm a);rintro-w_ hm a hs))|((with_reducible apply qNil);(try clear hm);intro w_ hm)|refine cQ_ ?_|refine sc_ ?_|((with_reducible apply lCons);first|(refine dvc hs hm gw_ rfl rfl rfl rfl rfl (pl 37 rfl) (k1 _ hm.fr) ?_;(try clear hs hm a);intro w_ hm a hs))|((with_reducible apply qCons);first|(refine qwc hs gw_ rfl rfl rfl rfl rfl (pl 37 rfl) (fun w hm=>k1 _ hm.fr) ?_;(try clear hs a);intro a hs))));(first|(have m_:=hm;have s_:=hs;clear hs;(try clear hm);revert m_ s_ a)|((first|refine rexc_ hs hm ?_|refine rexl_ hs hm ?_|refine rexg_ hs hm ?_|refine rexq_ hs hm ?_);intro a hm hs;revert hm hs a));(try revert w_);(repeat revert g_);exact k_.h):G:=s ⟨k⟩
theorem wsm_c(A:Option Addr)(c:Nat)(B:Option Addr)(d:Nat)(l:List CV)(wB:World)(hA:Rd wB wB.heap.size A (cvs l))(hB:Rd wB wB.heap.size B (cvs l))(hn:l.length≤1000000):Ret Tryz.prog 37 [.slice A l.length c,.slice B l.length d] wB (fun u w'=>u= .bool true∧Pu wB w'):=by
 refine enterR Tryz.func37 rfl rfl rfl fun a hs hm=>?_
 refine gqb114_ ?_;clear hs hm a;intros;rename_i a hm hs
 obtain⟨wS,hwS⟩:∃u:World,u=wB:=⟨wB,rfl⟩
 have hF0:=hm.fr
 refine cLoop (X:=Nat) (fun k a w'=>Sl Tryz.f37.ntmps [(0,.slice A l.length c),(1,.slice B l.length d),(12,.int .i64 (l.length:Int)),(13,.int .i64 (k:Int))] a∧Pu wB w'∧k≤l.length) (fun k=>l.length-k) 0 ⟨(sb_ hs),hF0,Nat.zero_le _⟩ ?_
 clear hs hm a hF0
 rintro k a w' ⟨hs,hF,hk⟩
 have hm:=Mm.nil (fun _=>False) w'
 by_cases hlt:k<l.length
 ·obtain⟨b1,o1,rfl,hb1,r1⟩:=(hF.rd' hA).ro (by rw[cvs_len];omega)
  obtain⟨b2,o2,rfl,hb2,r2⟩:=(hF.rd' hB).ro (by rw[cvs_len];omega)
  unfold cvs at r1 r2
  have k1:=r1.flat CV.cs_len hlt
  have k2:=r2.flat CV.cs_len hlt
  obtain⟨x,hx⟩:∃z,l[k]=z:=⟨_,rfl⟩
  rw[hx]at k1 k2
  unfold CV.cs at k1 k2
  refine gqb114_ ?_;clear hs hm a;intros;rename_i a hm hs
  have hbq:(x.t==x.t&&(x.v==x.v&&true))=true:=by simp
  rw[hbq]at hs
  refine gqb114_ ?_;clear hs hm a;intros;rename_i a hm hs
  exact⟨k+1,by omega,(sb_ hs),hF.pu hm.fr,by omega⟩
 refine gqb114_ ?_;clear hs hm a;intros;rename_i a hm hs
 exact gRet1 hs rfl rfl ⟨rfl,hF.pu hm.fr⟩
theorem lysm_c(A:Option Addr)(c:Nat)(B:Option Addr)(d:Nat)(l:List Int)(key:Int)(wB:World)(hA:Rd wB wB.heap.size A (ints l))(hB:Rd wB wB.heap.size B (ints l))(hn:l.length≤1000000):Ret Tryz.prog 24 [.agg #[.slice A l.length c,.int .u16 key],.agg #[.slice B l.length d,.int .u16 key]] wB (fun u w'=>u= .bool true∧Pu wB w'):=by
 refine enterR Tryz.func24 rfl rfl rfl fun a hs hm=>?_
 refine gqb114_ ?_;clear hs hm a;intros;rename_i a hm hs
 obtain⟨g2,rfl⟩:=hs.pp 2
 obtain⟨g3,rfl⟩:=hs.pp 3
 refine cLoop (X:=Nat) (fun k a w'=>Sl Tryz.f24.ntmps [(2,pt g2),(3,pt g3),(22,.int .i64 (l.length:Int)),(23,.int .i64 (k:Int))] a∧Mm (fun _=>False) wB [⟨some g3,25,[.slice B l.length d,.int .u16 key]⟩,⟨some g2,25,[.slice A l.length c,.int .u16 key]⟩] w'∧k≤l.length) (fun k=>l.length-k) 0 ⟨(sb_ hs),hm,Nat.zero_le _⟩ ?_
 clear hs hm a
 rintro k a w' ⟨hs,hm,hk⟩
 by_cases hlt:k<l.length
 ·obtain⟨b1,o1,rfl,hb1,r1⟩:=hA.ro (by rw[ints_len];omega)
  obtain⟨b2,o2,rfl,hb2,r2⟩:=hB.ro (by rw[ints_len];omega)
  have e1:=ints_some (xs:=l) (k:=k) hlt
  generalize l[k]=z at e1
  refine gqb114_ ?_;clear hs hm a;intros;rename_i a hm hs
  exact z0359_
 refine gqb114_ ?_;clear hs hm a;intros;rename_i a hm hs
 exact gRet1 hs rfl rfl ⟨rfl,hm.fr⟩
theorem msm_c(x y:MV)(wB:World)(hx:x.ok wB)(hy:y.ok wB)(he:x.d=y.d)(hsm:x.d.sm):Ret Tryz.prog 25 [x.me,y.me] wB (fun u w'=>u= .bool true∧Pu wB w'):=by
 have hc1:x.xs.length≤1000:=hsm.c
 have hec:y.xs=x.xs:=(congrArg MD.xs he).symm
 have hel:y.ls.map LnV.d=x.ls.map LnV.d:=(congrArg MD.ls he).symm
 have hll:y.ls.length=x.ls.length:=by have:=congrArg List.length hel;rwa[List.length_map,List.length_map]at this
 have hl1:x.ls.length≤1000:=by have:=hsm.l;unfold MV.d at this;dsimp only at this;rwa[List.length_map]at this
 have hyc:=hy.c
 rw[hec]at hyc
 have k1:=fun w'' (hf:Pu wB w'')=>wsm_c x.cA x.cc y.cA y.cc x.xs w'' (hf.rd' hx.c) (hf.rd' hyc) (by omega)
 unfold MV.me
 rw[hec,hll]
 refine enterR Tryz.func25 rfl rfl rfl fun a hs hm=>?_
 repeat(first|(refine gpSgf0_ ?_;clear hs hm a;intros;rename_i a hm hs)|refine sc_ ?_|((with_reducible apply lCons);first|(refine dvc hs hm gw_ rfl rfl rfl rfl rfl (pl 37 rfl) (k1 _ hm.fr) ?_;clear hs hm a;intro w hm a hs))|((with_reducible apply qCons);first|(refine qwc hs gw_ rfl rfl rfl rfl rfl (pl 37 rfl) (fun w hm=>k1 _ hm.fr) ?_;clear hs a;intro a hs)))
 obtain⟨g2,rfl⟩:=hs.pp 2
 obtain⟨g3,rfl⟩:=hs.pp 3
 refine cLoop (X:=Nat) (fun k a w'=>Sl Tryz.f25.ntmps [(2,pt g2),(3,pt g3),(25,.int .i64 (x.ls.length:Int)),(26,.int .i64 (k:Int))] a∧Mm (fun _=>False) wB [⟨some g3,29,[.slice y.cA x.xs.length y.cc,.slice y.lA x.ls.length y.lc]⟩,⟨some g2,29,[.slice x.cA x.xs.length x.cc,.slice x.lA x.ls.length x.lc]⟩] w'∧k≤x.ls.length) (fun k=>x.ls.length-k) 0 ⟨(sb_ hs),hm,Nat.zero_le _⟩ ?_
 clear hs hm a
 rintro k a w' ⟨hs,hm,hk⟩
 by_cases hlt:k<x.ls.length
 ·obtain⟨b1,o1,hA1,hb1,r1⟩:=hx.l.ro (by rw[flat_len LnV.v 3 LnV.len];omega)
  obtain⟨b2,o2,hA2,hb2,r2⟩:=hy.l.ro (by rw[flat_len LnV.v 3 LnV.len];omega)
  rw[hA1,hA2]at hm
  have q1:=r1.flat LnV.len hlt
  have q2:=r2.flat LnV.len (show k<y.ls.length by omega)
  have hd:(y.ls[k]'(by omega)).d=(x.ls[k]).d:=by
   have:=congrArg (fun l=>l[k]?) hel
   simpa[List.getElem?_map,List.getElem?_eq_getElem hlt,List.getElem?_eq_getElem (show k<y.ls.length by omega)]using this
  have hxl:=hx.ll _ (List.getElem_mem hlt)
  have hyl:=hy.ll _ (List.getElem_mem (show k<y.ls.length by omega))
  have hxn:(x.ls[k]).d.xs.length≤1000:=hsm.ll _ (List.mem_map.2 ⟨_,List.getElem_mem hlt,rfl⟩)
  generalize x.ls[k]=p at*
  generalize y.ls[k]'(_)=p2 at*
  obtain⟨A1,c1,d1⟩:=p
  obtain⟨A2,c2,d2⟩:=p2
  dsimp only at hd hxl hyl hxn
  subst hd
  have k2:=fun w'' (hf:Pu wB w'')=>wsm_c A1 c1 A2 c2 d2.xs w'' (hf.rd' hxl) (hf.rd' hyl) (by omega)
  unfold LnV.v at q1 q2
  dsimp only at q1 q2
  refine gsd389_ ?_;clear hs hm a;intros;rename_i a hm hs
  refine cMid (fun a w=>∃g6 g7:Nat,Sl Tryz.f25.ntmps [(2,pt g2),(3,pt g3),(25,.int .i64 (x.ls.length:Int)),(26,.int .i64 (k:Int)),(6,pt g6),(7,pt g7)] a∧Mm (fun _=>False) wB [⟨some g7,61,[.int .i64 d2.tag,.bool d2.d,.slice A2 d2.xs.length c2]⟩,⟨some g6,61,[.int .i64 d2.tag,.bool d2.d,.slice A1 d2.xs.length c1]⟩,⟨some g3,29,[.slice y.cA x.xs.length y.cc,.slice (some ⟨b2,o2,none⟩) x.ls.length y.lc]⟩,⟨some g2,29,[.slice x.cA x.xs.length x.cc,.slice (some ⟨b1,o1,none⟩) x.ls.length x.lc]⟩] w) ?_ ?_
  ·skip
   refine cDrawT (n:=14) (.s [0,1,2,3,4,5,6,7,8,9]<| .e [(10,.o 11<| .o 12<| .o 13<| .d),(11,.o 10<| .o 12<| .o 13<| .d)]) [⟨some g3,29,[.slice y.cA x.xs.length y.cc,.slice (some ⟨b2,o2,none⟩) x.ls.length y.lc]⟩,⟨some g2,29,[.slice x.cA x.xs.length x.cc,.slice (some ⟨b1,o1,none⟩) x.ls.length x.lc]⟩] hm rfl rfl ?_
   clear hm;intro t_ w1_ hm
   repeat' (first|(refine dg81ac_ ?_;clear t_ hs hm a;intros;rename_i a hm hs t_)|refine tE t_ ?_|refine tC ?_ ?_|exact tN|intro t_|(refine tD t_ ?_;(obtain⟨g6,rfl⟩:=hs.pp 6);(obtain⟨g7,rfl⟩:=hs.pp 7);(first|exact And.intro rfl ⟨g6,g7,(sb_ hs),hm⟩|exact And.intro rfl ⟨g6,g7,(sb_ hs),hm.perm (List.Perm.swap _ _ _)⟩))|fail)
  clear hs hm a
  rintro a w ⟨g6,g7,hs,hm⟩
  refine gcSgf1_ ?_;clear hs hm a;intros;rename_i a hm hs
  rw[show(d2.d==d2.d)=true by simp]at hs
  refine gcSgf1_ ?_;clear hs hm a;intros;rename_i a hm hs
  rw[hA1,hA2]
  exact zd36a_
 refine gqb114_ ?_;clear hs hm a;intros;rename_i a hm hs
 exact gRet1 hs rfl rfl ⟨rfl,hm.fr⟩
theorem tsm_c(A:Option Addr)(c:Nat)(B:Option Addr)(d:Nat)(t:ThD)(wB:World)(hA:Rd wB wB.heap.size A (cvs t.xs))(hB:Rd wB wB.heap.size B (cvs t.xs))(hn:t.xs.length≤1000000):Ret Tryz.prog 26 [.agg (ThV.v ⟨A,c,t⟩).toArray,.agg (ThV.v ⟨B,d,t⟩).toArray] wB (fun u w'=>u= .bool true∧Pu wB w'):=by
 have k1:=fun w'' (hf:Pu wB w'')=>wsm_c A c B d t.xs w'' (hf.rd' hA) (hf.rd' hB) hn
 unfold ThV.v
 obtain⟨st,xs,pc,cnt,han,sav,trp,cod⟩:=t
 dsimp only at k1 ⊢
 refine enterR Tryz.func26 rfl rfl rfl fun a hs hm=>?_
 refine gcSgf2_ ?_;clear hs hm a;intros;rename_i a hm hs
 try rw[ddT]at hs
 refine gcSgf2_ ?_;clear hs hm a;intros;rename_i a hm hs
 try rw[ddT]at hs
 refine gcSgf2_ ?_;clear hs hm a;intros;rename_i a hm hs
 try rw[ddT]at hs
 refine gcSgf2_ ?_;clear hs hm a;intros;rename_i a hm hs
 try rw[ddT]at hs
 refine gcSgf2_ ?_;clear hs hm a;intros;rename_i a hm hs
 try rw[ddT]at hs
 refine gcSgf2_ ?_;clear hs hm a;intros;rename_i a hm hs
 try rw[ddT]at hs
 refine gcSgf2_ ?_;clear hs hm a;intros;rename_i a hm hs
 try rw[ddT]at hs
 refine gcSgf2_ ?_;clear hs hm a;intros;rename_i a hm hs
 exact gRet1 hs rfl rfl ⟨rfl,hm.fr⟩
theorem rsm_c(x y:MV)(wB:World)(hx:x.ok wB)(hy:y.ok wB)(he:x.d=y.d)(hsm:x.d.sm):Ret Tryz.prog 15 [x.v,y.v] wB (fun u w'=>u= .bool true∧Pu wB w'):=by
 have heb:y.bs=x.bs:=(congrArg MD.bs he).symm
 have hek:y.key=x.key:=(congrArg MD.key he).symm
 have hec:y.xs=x.xs:=(congrArg MD.xs he).symm
 have hel:y.ls.map LnV.d=x.ls.map LnV.d:=(congrArg MD.ls he).symm
 have hll:y.ls.length=x.ls.length:=by have:=congrArg List.length hel;rwa[List.length_map,List.length_map]at this
 have het:y.ts.map ThV.d=x.ts.map ThV.d:=(congrArg MD.ts he).symm
 have htl:y.ts.length=x.ts.length:=by have:=congrArg List.length het;rwa[List.length_map,List.length_map]at this
 have ht1:x.ts.length≤1000:=by have:=hsm.t;unfold MV.d at this;dsimp only at this;rwa[List.length_map]at this
 have hb1:x.bs.length≤1000:=hsm.b
 have hyb:=hy.b
 rw[heb]at hyb
 have k1:=fun w'' (hf:Pu wB w'')=>lysm_c x.bA x.bc y.bA y.bc x.bs x.key w'' (hf.rd' hx.b) (hf.rd' hyb) (by omega)
 have k2:=fun w'' (hf:Pu wB w'')=>msm_c x y w'' (hx.pu hf) (hy.pu hf) he hsm
 unfold MV.v
 unfold MV.me at k2
 rw[hec,hll]at k2
 rw[heb,hek,hec,hll,htl]
 refine enterR Tryz.func15 rfl rfl rfl fun a hs hm=>?_
 repeat(first|(refine gpSgf0_ ?_;clear hs hm a;intros;rename_i a hm hs)|refine sc_ ?_|((with_reducible apply lCons);first|(refine dvc hs hm gw_ rfl rfl rfl rfl rfl (pl 24 rfl) (k1 _ hm.fr) ?_;clear hs hm a;intro w hm a hs)|(refine dvc hs hm gw_ rfl rfl rfl rfl rfl (pl 25 rfl) (k2 _ hm.fr) ?_;clear hs hm a;intro w hm a hs))|((with_reducible apply qCons);first|(refine qwc hs gw_ rfl rfl rfl rfl rfl (pl 24 rfl) (fun w hm=>k1 _ hm.fr) ?_;clear hs a;intro a hs)|(refine qwc hs gw_ rfl rfl rfl rfl rfl (pl 25 rfl) (fun w hm=>k2 _ hm.fr) ?_;clear hs a;intro a hs)))
 obtain⟨g2,rfl⟩:=hs.pp 2
 obtain⟨g3,rfl⟩:=hs.pp 3
 refine cLoop (X:=Nat) (fun k a w'=>Sl Tryz.f15.ntmps [(2,pt g2),(3,pt g3),(31,.int .i64 (x.ts.length:Int)),(32,.int .i64 (k:Int))] a∧Mm (fun _=>False) wB [⟨some g3,32,[.slice y.bA x.bs.length y.bc,.int .u16 x.key,.slice y.cA x.xs.length y.cc,.slice y.lA x.ls.length y.lc,.slice y.tA x.ts.length y.tc]⟩,⟨some g2,32,(x.cl [.slice x.tA x.ts.length x.tc])⟩] w'∧k≤x.ts.length) (fun k=>x.ts.length-k) 0 ⟨(sb_ hs),hm,Nat.zero_le _⟩ ?_
 clear hs hm a k1 k2
 rintro k a w' ⟨hs,hm,hk⟩
 by_cases hlt:k<x.ts.length
 ·obtain⟨b1,o1,hA1,hb1,r1⟩:=hx.t.ro (by rw[flat_len ThV.v 8 ThV.len];omega)
  obtain⟨b2,o2,hA2,hb2,r2⟩:=hy.t.ro (by rw[flat_len ThV.v 8 ThV.len];omega)
  rw[hA1,hA2]at hm
  have q1:=r1.flat ThV.len hlt
  have q2:=r2.flat ThV.len (show k<y.ts.length by omega)
  have hd:(y.ts[k]'(by omega)).d=(x.ts[k]).d:=by
   have:=congrArg (fun l=>l[k]?) het
   simpa[List.getElem?_map,List.getElem?_eq_getElem hlt,List.getElem?_eq_getElem (show k<y.ts.length by omega)]using this
  have hxl:=hx.tt _ (List.getElem_mem hlt)
  have hyl:=hy.tt _ (List.getElem_mem (show k<y.ts.length by omega))
  have hxn:(x.ts[k]).d.xs.length≤1000:=hsm.tt _ (List.mem_map.2 ⟨_,List.getElem_mem hlt,rfl⟩)
  generalize x.ts[k]=p at*
  generalize y.ts[k]'(_)=p2 at*
  obtain⟨A1,c1,d1⟩:=p
  obtain⟨A2,c2,d2⟩:=p2
  dsimp only at hd hxl hyl hxn
  subst hd
  have k3:=fun w'' (hf:Pu wB w'')=>tsm_c A1 c1 A2 c2 d2 w'' (hf.rd' hxl) (hf.rd' hyl) (by omega)
  unfold ThV.v at q1 q2 k3
  dsimp only at q1 q2 k3
  repeat(first|(refine gpSgf0_ ?_;clear hs hm a;intros;rename_i a hm hs)|refine sc_ ?_|((with_reducible apply lCons);first|(refine dvc hs hm gw_ rfl rfl rfl rfl rfl (pl 26 rfl) (k3 _ hm.fr) ?_;clear hs hm a;intro w hm a hs))|((with_reducible apply qCons);first|(refine qwc hs gw_ rfl rfl rfl rfl rfl (pl 26 rfl) (fun w hm=>k3 _ hm.fr) ?_;clear hs a;intro a hs)))
  rw[hA1,hA2]
  exact z0359_
 refine gqb114_ ?_;clear hs hm a;intros;rename_i a hm hs
 exact gRet1 hs rfl rfl ⟨rfl,hm.fr⟩
def canT(q:ThD):Bool:=decide (q.st=1)&&(!decide (q.han=-1)&&decide (q.sav=-1))
def canS(d:MD)(t:Int):Bool:=decide (0≤t)&&((d.ts[t.toNat]?).map canT).getD false
def depF(l:List ThD):Nat:=(l.filter fun q=>!decide (q.sav=-1)).length
theorem depF_snoc(l:List ThD)(q:ThD):depF (l++[q])=depF l+if q.sav=-1 then 0 else 1:=by
 unfold depF
 rw[List.filter_append,List.length_append]
 congr 1
 by_cases h:q.sav=-1
 ·rw[if_pos h,List.filter_cons,decide_eq_true h];rfl
 ·rw[if_neg h,List.filter_cons,decide_eq_false h];rfl
theorem canS_out{d:MD}{t:Int}(h:t<0∨(d.ts.length:Int)≤t):canS d t=false:=by
 unfold canS
 rcases h with h|h
 ·rw[decide_eq_false (by omega),Bool.false_and]
 ·rw[List.getElem?_eq_none (by omega),Option.map_none,Option.getD_none,Bool.and_false]
theorem canS_at{d:MD}{k:Nat}{q:ThD}(h:d.ts[k]?=some q):canS d (k:Int)=canT q:=by
 unfold canS
 rw[decide_eq_true (by omega),Int.toNat_natCast,h]
 rfl
theorem MV.d_ts(x:MV){k:Nat}(h:k<x.ts.length):x.d.ts[k]?=some (x.ts[k]).d:=by
 unfold MV.d
 dsimp only
 rw[List.getElem?_map,List.getElem?_eq_getElem h]
 rfl
theorem MV.d_len(x:MV):x.d.ts.length=x.ts.length:=by
 unfold MV.d
 dsimp only
 rw[List.length_map]
theorem rcan_c(x:MV)(t:Int)(wB:World)(hx:x.ok wB)(hsm:x.d.sm):Ret Tryz.prog 14 [x.v,.int .i64 t] wB (fun u w'=>u= .bool (canS x.d t)∧Pu wB w'):=by
 have ht1:x.ts.length≤1000:=by have:=hsm.t;rwa[MV.d_len]at this
 have hdl:=x.d_len
 unfold MV.v
 by_cases h0:t<0
 ·rw[canS_out (.inl h0)]
  refine enterR Tryz.func14 rfl rfl rfl fun a hs hm=>?_
  refine gqb0e8_ ?_;clear hs hm a;intros;rename_i a hm hs
  exact gRet1 hs rfl rfl ⟨rfl,hm.fr⟩
 by_cases h1:(x.ts.length:Int)≤t
 ·rw[canS_out (.inr (by omega))]
  refine enterR Tryz.func14 rfl rfl rfl fun a hs hm=>?_
  refine gqb0e8_ ?_;clear hs hm a;intros;rename_i a hm hs
  exact gRet1 hs rfl rfl ⟨rfl,hm.fr⟩
 obtain⟨k,rfl⟩:∃k:Nat,t=(k:Int):=⟨t.toNat,by omega⟩
 have hlt:k<x.ts.length:=by omega
 rw[canS_at (x.d_ts hlt)]
 obtain⟨b1,o1,hA1,hb1,r1⟩:=hx.t.ro (by rw[flat_len ThV.v 8 ThV.len];omega)
 have q1:=r1.flat ThV.len hlt
 generalize x.ts[k]=p at*
 obtain⟨A1,c1,st,xs,pc,cnt,han,sav,trp,cod⟩:=p
 unfold ThV.v at q1
 dsimp only at q1
 rw[hA1]
 unfold canT
 dsimp only
 refine enterR Tryz.func14 rfl rfl rfl fun a hs hm=>?_
 by_cases e1:st=1
 case neg=>
  rw[decide_eq_false e1,Bool.false_and]
  refine gqb0e8_ ?_;clear hs hm a;intros;rename_i a hm hs
  exact gRet1 hs rfl rfl ⟨rfl,hm.fr⟩
 rw[decide_eq_true e1,Bool.true_and]
 by_cases e2:han=-1
 ·rw[decide_eq_true e2,Bool.not_true,Bool.false_and]
  refine gqb0e8_ ?_;clear hs hm a;intros;rename_i a hm hs
  exact gRet1 hs rfl rfl ⟨rfl,hm.fr⟩
 rw[decide_eq_false e2,Bool.not_false,Bool.true_and]
 by_cases e3:sav=-1
 ·rw[decide_eq_true e3]
  refine gqb0e8_ ?_;clear hs hm a;intros;rename_i a hm hs
  exact gRet1 hs rfl rfl ⟨rfl,hm.fr⟩
 ·rw[decide_eq_false e3]
  refine gqb0e8_ ?_;clear hs hm a;intros;rename_i a hm hs
  exact gRet1 hs rfl rfl ⟨rfl,hm.fr⟩
theorem rdep_c(x:MV)(wB:World)(hx:x.ok wB)(hsm:x.d.sm):Ret Tryz.prog 17 [x.v] wB (fun u w'=>u= .int .i64 (depF x.d.ts:Int)∧Pu wB w'):=by
 have ht1:x.ts.length≤1000:=by have:=hsm.t;rwa[MV.d_len]at this
 have hdl:=x.d_len
 have hdb:∀l:List ThD,depF l≤l.length:=fun l=>List.length_filter_le _ _
 unfold MV.v
 refine enterR Tryz.func17 rfl rfl rfl fun a hs hm=>?_
 refine gsce98_ ?_;clear hs hm a;intros;rename_i a hm hs
 have hF:=hm.fr
 refine cLoop (X:=Nat) (fun k a w'=>Sl Tryz.f17.ntmps [(3,.int .i64 (depF (x.d.ts.take k):Int)),(7,.slice x.tA x.ts.length x.tc),(8,.int .i64 (x.ts.length:Int)),(9,.int .i64 (k:Int))] a∧Pu wB w'∧k≤x.ts.length) (fun k=>x.ts.length-k) 0 ⟨(sb_ hs),hF,Nat.zero_le _⟩ ?_
 clear hs hm a hF
 rintro k a w' ⟨hs,hF,hk⟩
 have hm:=Mm.nil (fun _=>False) w'
 by_cases hlt:k<x.ts.length
 ·obtain⟨b1,o1,hA1,hb1,r1⟩:=(hF.rd' hx.t).ro (by rw[flat_len ThV.v 8 ThV.len];omega)
  have q1:=r1.flat ThV.len hlt
  have hdk:=x.d_ts hlt
  have hsn:x.d.ts.take (k+1)=x.d.ts.take k++[(x.ts[k]).d]:=by
   rw[List.take_add_one,hdk]
   rfl
  have hds:=depF_snoc (x.d.ts.take k) (x.ts[k]).d
  rw[←hsn]at hds
  have hdb1:=hdb (x.d.ts.take k)
  rw[List.length_take]at hdb1
  generalize x.ts[k]=p at*
  obtain⟨A1,c1,st,xs,pc,cnt,han,sav,trp,cod⟩:=p
  unfold ThV.v at q1
  dsimp only at q1 hds
  rw[hA1]at hs
  by_cases e3:sav=-1
  ·rw[if_pos e3]at hds
   replace hds:depF (x.d.ts.take (k+1))=depF (x.d.ts.take k):=hds
   refine gsce98_ ?_;clear hs hm a;intros;rename_i a hm hs
   rw[←hds,←hA1]at hs
   exact⟨k+1,by omega,(sb_ hs),hF.pu hm.fr,by omega⟩
  ·rw[if_neg e3]at hds
   obtain⟨n1,hn1⟩:∃n,depF (x.d.ts.take k)=n:=⟨_,rfl⟩
   rw[hn1]at hs hds hdb1
   refine gsce98_ ?_;clear hs hm a;intros;rename_i a hm hs
   rw[←hA1]at hs
   exact⟨k+1,by omega,hs.sub (Has.all ⟨(by rw[hds];rfl),rfl,rfl,rfl,trivial⟩),hF.pu hm.fr,by omega⟩
 obtain rfl:k=x.ts.length:=by omega
 rw[List.take_of_length_le (by omega)]at hs
 refine gsce98_ ?_;clear hs hm a;intros;rename_i a hm hs
 exact gRet1 hs rfl rfl ⟨rfl,hF.pu hm.fr⟩
theorem pcan_c(x:MV)(t:Int)(wB:World)(hx:x.ok wB)(hsm:x.d.sm):Ret Tryz.prog 13 [x.v,.int .i64 t] wB (fun u w'=>u= .bool (canS x.d t)∧Pu wB w'):=by
 have ht1:x.ts.length≤1000:=by have:=hsm.t;rwa[MV.d_len]at this
 have hdl:=x.d_len
 unfold MV.v
 by_cases h0:t<0
 ·rw[canS_out (.inl h0)]
  refine enterR Tryz.func13 rfl rfl rfl fun a hs hm=>?_
  refine gqb0e8_ ?_;clear hs hm a;intros;rename_i a hm hs
  exact gRet1 hs rfl rfl ⟨rfl,hm.fr⟩
 by_cases h1:(x.ts.length:Int)≤t
 ·rw[canS_out (.inr (by omega))]
  refine enterR Tryz.func13 rfl rfl rfl fun a hs hm=>?_
  refine gqb0e8_ ?_;clear hs hm a;intros;rename_i a hm hs
  exact gRet1 hs rfl rfl ⟨rfl,hm.fr⟩
 obtain⟨k,rfl⟩:∃k:Nat,t=(k:Int):=⟨t.toNat,by omega⟩
 have hlt:k<x.ts.length:=by omega
 rw[canS_at (x.d_ts hlt)]
 obtain⟨b1,o1,hA1,hb1,r1⟩:=hx.t.ro (by rw[flat_len ThV.v 8 ThV.len];omega)
 have q1:=r1.flat ThV.len hlt
 generalize x.ts[k]=p at*
 obtain⟨A1,c1,st,xs,pc,cnt,han,sav,trp,cod⟩:=p
 unfold ThV.v at q1
 dsimp only at q1
 rw[hA1]
 unfold canT
 dsimp only
 refine enterR Tryz.func13 rfl rfl rfl fun a hs hm=>?_
 by_cases e1:st=1
 case neg=>
  rw[decide_eq_false e1,Bool.false_and]
  refine gqb0e8_ ?_;clear hs hm a;intros;rename_i a hm hs
  exact gRet1 hs rfl rfl ⟨rfl,hm.fr⟩
 rw[decide_eq_true e1,Bool.true_and]
 by_cases e2:han=-1
 ·rw[decide_eq_true e2,Bool.not_true,Bool.false_and]
  refine gqb0e8_ ?_;clear hs hm a;intros;rename_i a hm hs
  exact gRet1 hs rfl rfl ⟨rfl,hm.fr⟩
 rw[decide_eq_false e2,Bool.not_false,Bool.true_and]
 by_cases e3:sav=-1
 ·rw[decide_eq_true e3]
  refine gqb0e8_ ?_;clear hs hm a;intros;rename_i a hm hs
  exact gRet1 hs rfl rfl ⟨rfl,hm.fr⟩
 ·rw[decide_eq_false e3]
  refine gqb0e8_ ?_;clear hs hm a;intros;rename_i a hm hs
  exact gRet1 hs rfl rfl ⟨rfl,hm.fr⟩
theorem pdep_c(x:MV)(wB:World)(hx:x.ok wB)(hsm:x.d.sm):Ret Tryz.prog 16 [x.v] wB (fun u w'=>u= .int .i64 (depF x.d.ts:Int)∧Pu wB w'):=by
 have ht1:x.ts.length≤1000:=by have:=hsm.t;rwa[MV.d_len]at this
 have hdl:=x.d_len
 have hdb:∀l:List ThD,depF l≤l.length:=fun l=>List.length_filter_le _ _
 unfold MV.v
 refine enterR Tryz.func16 rfl rfl rfl fun a hs hm=>?_
 refine gsce98_ ?_;clear hs hm a;intros;rename_i a hm hs
 have hF:=hm.fr
 refine cLoop (X:=Nat) (fun k a w'=>Sl Tryz.f16.ntmps [(3,.int .i64 (depF (x.d.ts.take k):Int)),(7,.slice x.tA x.ts.length x.tc),(8,.int .i64 (x.ts.length:Int)),(9,.int .i64 (k:Int))] a∧Pu wB w'∧k≤x.ts.length) (fun k=>x.ts.length-k) 0 ⟨(sb_ hs),hF,Nat.zero_le _⟩ ?_
 clear hs hm a hF
 rintro k a w' ⟨hs,hF,hk⟩
 have hm:=Mm.nil (fun _=>False) w'
 by_cases hlt:k<x.ts.length
 ·obtain⟨b1,o1,hA1,hb1,r1⟩:=(hF.rd' hx.t).ro (by rw[flat_len ThV.v 8 ThV.len];omega)
  have q1:=r1.flat ThV.len hlt
  have hdk:=x.d_ts hlt
  have hsn:x.d.ts.take (k+1)=x.d.ts.take k++[(x.ts[k]).d]:=by
   rw[List.take_add_one,hdk]
   rfl
  have hds:=depF_snoc (x.d.ts.take k) (x.ts[k]).d
  rw[←hsn]at hds
  have hdb1:=hdb (x.d.ts.take k)
  rw[List.length_take]at hdb1
  generalize x.ts[k]=p at*
  obtain⟨A1,c1,st,xs,pc,cnt,han,sav,trp,cod⟩:=p
  unfold ThV.v at q1
  dsimp only at q1 hds
  rw[hA1]at hs
  by_cases e3:sav=-1
  ·rw[if_pos e3]at hds
   replace hds:depF (x.d.ts.take (k+1))=depF (x.d.ts.take k):=hds
   refine gsce98_ ?_;clear hs hm a;intros;rename_i a hm hs
   rw[←hds,←hA1]at hs
   exact⟨k+1,by omega,(sb_ hs),hF.pu hm.fr,by omega⟩
  ·rw[if_neg e3]at hds
   obtain⟨n1,hn1⟩:∃n,depF (x.d.ts.take k)=n:=⟨_,rfl⟩
   rw[hn1]at hs hds hdb1
   refine gsce98_ ?_;clear hs hm a;intros;rename_i a hm hs
   rw[←hA1]at hs
   exact⟨k+1,by omega,hs.sub (Has.all ⟨(by rw[hds];rfl),rfl,rfl,rfl,trivial⟩),hF.pu hm.fr,by omega⟩
 obtain rfl:k=x.ts.length:=by omega
 rw[List.take_of_length_le (by omega)]at hs
 refine gsce98_ ?_;clear hs hm a;intros;rename_i a hm hs
 exact gRet1 hs rfl rfl ⟨rfl,hF.pu hm.fr⟩
theorem gcSgh0_{G H:Prop}(k:H)(s:Bx H→G:=by intro k_;(repeat(first|(refine ov_ ?_;(try clear hs a);intro a hs)|((with_reducible apply lCons);first|(refine dv hs gw_ rfl rfl da_ ?_;(try clear hs hm a);rintro _ w_ ⟨g_,rfl,-,hm⟩ a hs)|(refine stn hs rfl rfl ds_ ?_;(try clear hs hm a);rintro-w_ hm a hs))|refine sc_ ?_|((with_reducible apply lCons);first|(refine dvc hs hm gw_ rfl rfl rfl rfl rfl (pl 14 rfl) (kc _ hm.fr) ?_;(try clear hs hm a);intro w_ hm a hs))));(first|(have m_:=hm;have s_:=hs;clear hs;(try clear hm);revert m_ s_ a)|((first|refine rexc_ hs hm ?_|refine rexl_ hs hm ?_|refine rexg_ hs hm ?_|refine rexq_ hs hm ?_);intro a hm hs;revert hm hs a));(try revert w_);(repeat revert g_);exact k_.h):G:=s ⟨k⟩
theorem gcSgh1_{G H:Prop}(k:H)(s:Bx H→G:=by intro k_;(repeat(first|(refine ov_ ?_;(try clear hs a);intro a hs)|((with_reducible apply lCons);first|(refine dv hs gw_ rfl rfl da_ ?_;(try clear hs hm a);rintro _ w_ ⟨g_,rfl,-,hm⟩ a hs)|(refine stn hs rfl rfl ds_ ?_;(try clear hs hm a);rintro-w_ hm a hs))|refine sc_ ?_|((with_reducible apply lCons);first|(refine dvc hs hm gw_ rfl rfl rfl rfl rfl (pl 13 rfl) (kc _ hm.fr) ?_;(try clear hs hm a);intro w_ hm a hs))));(first|(have m_:=hm;have s_:=hs;clear hs;(try clear hm);revert m_ s_ a)|((first|refine rexc_ hs hm ?_|refine rexl_ hs hm ?_|refine rexg_ hs hm ?_|refine rexq_ hs hm ?_);intro a hm hs;revert hm hs a));(try revert w_);(repeat revert g_);exact k_.h):G:=s ⟨k⟩
def delT(q:ThD):ThD:={q with sav:=q.pc,pc:=q.han}
def delF(d:MD)(t:Int):MD:=if canS d t=true then{d with ts:=match d.ts[t.toNat]? with
  |some q=>d.ts.set t.toNat (delT q)
  |none=>d.ts}else d
theorem MO.d_ts(y:MO){k:Nat}(h:k<y.ts.length):y.d.ts[k]?=some (y.ts[k]).d:=by
 unfold MO.d
 dsimp only
 rw[List.getElem?_map,List.getElem?_eq_getElem h]
 rfl
theorem MO.d_len(y:MO):y.d.ts.length=y.ts.length:=by
 unfold MO.d
 dsimp only
 rw[List.length_map]
theorem rdel_c(x:MV)(t:Int)(wB:World)(hx:x.ok wB)(hsm:x.d.sm):Ret Tryz.prog 12 [x.v,.int .i64 t] wB (fun u w'=>∃y:MO,u= .tuple #[y.v,.bool (canS x.d t)]∧y.ok∧y.d=delF x.d t∧New wB w' y.hps∧Pu wB w'):=by
 have ht1:x.ts.length≤1000:=by have:=hsm.t;rwa[MV.d_len]at this
 have hdl:=x.d_len
 have kc:=fun w'' (hf:Pu wB w'')=>rcan_c x t w'' (hx.pu hf) hsm
 have kp:=fun w'' (hf:Pu wB w'')=>rcp_c x w'' (hx.pu hf) hsm
 unfold MV.v at*
 refine enterR Tryz.func12 rfl rfl rfl fun a hs hm=>?_
 refine gs87a7_ ?_;clear hs hm a;intros;rename_i a hm hs
 obtain⟨g2,rfl⟩:=hs.pp 2
 obtain⟨g4,rfl⟩:=hs.pp 4
 refine st hs rfl rfl rfl (d_call hs rfl rfl rfl (pl 19 rfl) ((kp _ hm.fr))) ?_;clear hs a;rintro _ w1 ⟨y,rfl,hyo,hyd,hN,hf⟩ a hs
 replace hm:=gainE hm hf hN
 clear hN hf
 unfold MO.v at hs
 cases hcf:canS x.d t
 ·rw[hcf]at kc
  refine gcSgh0_ ?_;clear hs hm a;intros;rename_i a hm hs
  refine gRetN tab hs rfl (.cons (.cells rfl rfl rfl rfl (hm.ro (k:=0) (n:=5) (g:=g4) mem_ (cutF_ok rfl))) (.cons (.tmp rfl) .nil)) ⟨y,rfl,hyo,by rw[hyd];unfold delF;rw[hcf,if_neg (by decide)],hm.new ?_,hm.fr⟩
  exact z12cd_
 ·rw[hcf]at kc
  have h0:0≤t∧t<(x.ts.length:Int):=by
   refine Classical.byContradiction fun e=>?_
   rw[canS_out (d:=x.d) (by omega)]at hcf
   cases hcf
  obtain⟨k,rfl⟩:∃k:Nat,t=(k:Int):=⟨t.toNat,by omega⟩
  have hyl:y.ts.length=x.ts.length:=by rw[←MO.d_len,hyd,hdl]
  have hlt:k<y.ts.length:=by omega
  have hxk:=MO.d_ts y hlt
  rw[hyd]at hxk
  obtain⟨q,hq⟩:∃q,y.ts[k]=q:=⟨_,rfl⟩
  have hqk:y.ts[k]?=some q:=by rw[List.getElem?_eq_getElem hlt,hq]
  rw[hq]at hxk
  obtain⟨bA,bc,bcs,bs,key,m,tA,tc,tcs,ts⟩:=y
  dsimp only at hs hm hyl hlt hq hqk
  have hot:=hyo.t
  dsimp only at hot
  obtain⟨gt,rfl⟩:=hot.some_ (by omega)
  have hcl:tcs.length=tc*8:=hot.len
  have hle:=hot.le
  have hget:∀j,j<8→(ts.flatMap ThO.v)[k*8+j]?=(ThO.v q)[j]?:=fun j hj=>by rw[flat_get ThO.v 8 ThO.len ts k j hlt hj,hq]
  have e2:tcs[k*8+2]?=some (.int .i64 q.d.pc):=hot.get (by rw[hget 2 (by omega)];rfl)
  have e4:tcs[k*8+4]?=some (.int .i64 q.d.han):=hot.get (by rw[hget 4 (by omega)];rfl)
  have l5:k*8+5<tcs.length:=by omega
  have l2:k*8+2<(tcs.set (k*8+5) (.int .i64 q.d.pc)).length:=by rw[List.length_set];omega
  refine gcSgh0_ ?_;clear hs hm a;intros;rename_i a hm hs
  obtain⟨g6,rfl⟩:=hs.pp 6
  unfold MO.hps at hm
  dsimp only at hm
  simp only[List.cons_append,List.nil_append]at hm
  obtain⟨tcs2,htc2⟩:∃z,(tcs.set (k*8+5) (.int .i64 q.d.pc)).set (k*8+2) (.int .i64 q.d.han)=z:=⟨_,rfl⟩
  refine cMid (fun a w=>Sl Tryz.f12.ntmps [(4,pt g4),(6,pt g6)] a∧Mm (fun _=>False) wB (⟨some g6,32,[slv bA bs.length bc,.int .u16 key,slv m.cA m.xs.length m.cc,slv m.lA m.ls.length m.lc,slv (some gt) ts.length tc]⟩::⟨some g4,32,[nS,.int .u16 0,nS,nS,nS]⟩::⟨some gt,52,tcs2⟩::⟨bA,3,bcs⟩::(m.hps++ts.map ThO.hp)) w) ?_ ?_
  ·with_reducible repeat(first|apply gThen|apply wp_seq)
   refine cDrawTB (n:=16) (.s [0,1,2,3,4,5,6,7,8,9,10,11]<| .o 12<| .s [13,14]<| .o 15<| .d) 12 [⟨some gt,52,tcs⟩] hm rfl rfl ?_
   clear hm;intro t_ w1_ hm
   repeat' (first|(refine dg2657_ ?_;clear t_ hs hm a;intros;rename_i a hm hs t_)|refine tEB t_ ?_|refine tCB ?_ ?_|exact tNB|intro t_|(refine tDB t_ ?_;(subst htc2);(exact And.intro rfl ⟨(sb_ hs),hm.sub (List.Sublist.cons_cons _ (List.Sublist.cons_cons _ (List.Sublist.cons _ (List.Sublist.refl _))))⟩))|fail)
  ·rintro a w ⟨hs,hm⟩
   refine gs87a7_ ?_;clear hs hm a;intros;rename_i a hm hs
   obtain⟨q',hq'⟩:∃q':ThO,q'={q with d:=delT q.d}:=⟨_,rfl⟩
   have hl':(ts.set k q').length=ts.length:=List.length_set
   have hps':(ts.set k q').map ThO.hp=ts.map ThO.hp:=by
    rw[List.map_set]
    refine List.ext_getElem? fun i=>?_
    rw[List.getElem?_set]
    split
    ·next e=>
     subst e
     rw[List.length_map,if_pos hlt,List.getElem?_map,hqk,hq']
     rfl
    ·rfl
   have hq5:ts.flatMap ThO.v=ts.flatMap ThO.v:=rfl
   have hr5:((ts.flatMap ThO.v).set (k*8+5) (.int .i64 q.d.pc)).set (k*8+2) (.int .i64 q.d.han)=(ts.set k q').flatMap ThO.v:=by
    rw[flat_set ThO.v 8 ThO.len ts k 5 q (.int .i64 q.d.pc) hqk (by omega) {q with d:={q.d with sav:=q.d.pc}} rfl]
    rw[flat_set ThO.v 8 ThO.len _ k 2 {q with d:={q.d with sav:=q.d.pc}} (.int .i64 q.d.han) (by rw[List.getElem?_set_self hlt]) (by omega) q' (by rw[hq'];rfl),List.set_set]
   refine gRetN tab hs rfl (.cons (.cells rfl rfl rfl rfl (hm.ro (k:=0) (n:=5) (g:=g4) mem_ (cutF_ok rfl))) (.cons (.tmp rfl) .nil)) ⟨⟨bA,bc,bcs,bs,key,m,some gt,tc,tcs2,ts.set k q'⟩,?_,⟨hyo.b,hyo.m,?_,?_⟩,?_,?_,hm.fr⟩
   ·unfold MO.v
    dsimp only
    rw[hl']
    rfl
   ·dsimp only
    rw[hl',←hr5,←htc2]
    exact(hot.set _ _).set _ _
   ·intro z hz
    dsimp only at hz
    rcases List.mem_or_eq_of_mem_set hz with h|h
    ·exact hyo.tt z h
    ·subst h
     rw[hq']
     exact hyo.tt q (List.mem_of_getElem? hqk)
   ·unfold delF
    rw[hcf,if_pos rfl,←hyd]
    unfold MO.d
    dsimp only
    rw[Int.toNat_natCast,List.getElem?_map,hqk,Option.map_some,List.map_set,hq']
   ·unfold MO.hps
    dsimp only
    rw[hps']
    exact hm.new (List.Sublist.cons _ (List.Sublist.cons _ (List.Sublist.refl _)))
theorem pdel_c(x:MV)(t:Int)(wB:World)(hx:x.ok wB)(hsm:x.d.sm):Ret Tryz.prog 11 [x.v,.int .i64 t] wB (fun u w'=>∃y:MO,u= .tuple #[y.v,.bool (canS x.d t)]∧y.ok∧y.d=delF x.d t∧New wB w' y.hps∧Pu wB w'):=by
 have ht1:x.ts.length≤1000:=by have:=hsm.t;rwa[MV.d_len]at this
 have hdl:=x.d_len
 have kc:=fun w'' (hf:Pu wB w'')=>pcan_c x t w'' (hx.pu hf) hsm
 have kp:=fun w'' (hf:Pu wB w'')=>pcp_c x w'' (hx.pu hf) hsm
 unfold MV.v at*
 refine enterR Tryz.func11 rfl rfl rfl fun a hs hm=>?_
 refine gs87a7_ ?_;clear hs hm a;intros;rename_i a hm hs
 obtain⟨g2,rfl⟩:=hs.pp 2
 obtain⟨g4,rfl⟩:=hs.pp 4
 refine st hs rfl rfl rfl (d_call hs rfl rfl rfl (pl 23 rfl) ((kp _ hm.fr))) ?_;clear hs a;rintro _ w1 ⟨y,rfl,hyo,hyd,hN,hf⟩ a hs
 replace hm:=gainE hm hf hN
 clear hN hf
 unfold MO.v at hs
 cases hcf:canS x.d t
 ·rw[hcf]at kc
  refine gcSgh1_ ?_;clear hs hm a;intros;rename_i a hm hs
  refine gRetN tab hs rfl (.cons (.cells rfl rfl rfl rfl (hm.ro (k:=0) (n:=5) (g:=g4) mem_ (cutF_ok rfl))) (.cons (.tmp rfl) .nil)) ⟨y,rfl,hyo,by rw[hyd];unfold delF;rw[hcf,if_neg (by decide)],hm.new ?_,hm.fr⟩
  exact z12cd_
 ·rw[hcf]at kc
  have h0:0≤t∧t<(x.ts.length:Int):=by
   refine Classical.byContradiction fun e=>?_
   rw[canS_out (d:=x.d) (by omega)]at hcf
   cases hcf
  obtain⟨k,rfl⟩:∃k:Nat,t=(k:Int):=⟨t.toNat,by omega⟩
  have hyl:y.ts.length=x.ts.length:=by rw[←MO.d_len,hyd,hdl]
  have hlt:k<y.ts.length:=by omega
  have hxk:=MO.d_ts y hlt
  rw[hyd]at hxk
  obtain⟨q,hq⟩:∃q,y.ts[k]=q:=⟨_,rfl⟩
  have hqk:y.ts[k]?=some q:=by rw[List.getElem?_eq_getElem hlt,hq]
  rw[hq]at hxk
  obtain⟨bA,bc,bcs,bs,key,m,tA,tc,tcs,ts⟩:=y
  dsimp only at hs hm hyl hlt hq hqk
  have hot:=hyo.t
  dsimp only at hot
  obtain⟨gt,rfl⟩:=hot.some_ (by omega)
  have hcl:tcs.length=tc*8:=hot.len
  have hle:=hot.le
  have hget:∀j,j<8→(ts.flatMap ThO.v)[k*8+j]?=(ThO.v q)[j]?:=fun j hj=>by rw[flat_get ThO.v 8 ThO.len ts k j hlt hj,hq]
  have e2:tcs[k*8+2]?=some (.int .i64 q.d.pc):=hot.get (by rw[hget 2 (by omega)];rfl)
  have e4:tcs[k*8+4]?=some (.int .i64 q.d.han):=hot.get (by rw[hget 4 (by omega)];rfl)
  have l5:k*8+5<tcs.length:=by omega
  have l2:k*8+2<(tcs.set (k*8+5) (.int .i64 q.d.pc)).length:=by rw[List.length_set];omega
  refine gcSgh1_ ?_;clear hs hm a;intros;rename_i a hm hs
  obtain⟨g6,rfl⟩:=hs.pp 6
  unfold MO.hps at hm
  dsimp only at hm
  simp only[List.cons_append,List.nil_append]at hm
  obtain⟨tcs2,htc2⟩:∃z,(tcs.set (k*8+5) (.int .i64 q.d.pc)).set (k*8+2) (.int .i64 q.d.han)=z:=⟨_,rfl⟩
  refine cMid (fun a w=>Sl Tryz.f11.ntmps [(4,pt g4),(6,pt g6)] a∧Mm (fun _=>False) wB (⟨some g6,32,[slv bA bs.length bc,.int .u16 key,slv m.cA m.xs.length m.cc,slv m.lA m.ls.length m.lc,slv (some gt) ts.length tc]⟩::⟨some g4,32,[nS,.int .u16 0,nS,nS,nS]⟩::⟨some gt,52,tcs2⟩::⟨bA,3,bcs⟩::(m.hps++ts.map ThO.hp)) w) ?_ ?_
  ·with_reducible repeat(first|apply gThen|apply wp_seq)
   refine cDrawTB (n:=16) (.s [0,1,2,3,4,5,6,7,8,9,10,11]<| .o 12<| .s [13,14]<| .o 15<| .d) 12 [⟨some gt,52,tcs⟩] hm rfl rfl ?_
   clear hm;intro t_ w1_ hm
   repeat' (first|(refine dg2657_ ?_;clear t_ hs hm a;intros;rename_i a hm hs t_)|refine tEB t_ ?_|refine tCB ?_ ?_|exact tNB|intro t_|(refine tDB t_ ?_;(subst htc2);(exact And.intro rfl ⟨(sb_ hs),hm.sub (List.Sublist.cons_cons _ (List.Sublist.cons_cons _ (List.Sublist.cons _ (List.Sublist.refl _))))⟩))|fail)
  ·rintro a w ⟨hs,hm⟩
   refine gs87a7_ ?_;clear hs hm a;intros;rename_i a hm hs
   obtain⟨q',hq'⟩:∃q':ThO,q'={q with d:=delT q.d}:=⟨_,rfl⟩
   have hl':(ts.set k q').length=ts.length:=List.length_set
   have hps':(ts.set k q').map ThO.hp=ts.map ThO.hp:=by
    rw[List.map_set]
    refine List.ext_getElem? fun i=>?_
    rw[List.getElem?_set]
    split
    ·next e=>
     subst e
     rw[List.length_map,if_pos hlt,List.getElem?_map,hqk,hq']
     rfl
    ·rfl
   have hq5:ts.flatMap ThO.v=ts.flatMap ThO.v:=rfl
   have hr5:((ts.flatMap ThO.v).set (k*8+5) (.int .i64 q.d.pc)).set (k*8+2) (.int .i64 q.d.han)=(ts.set k q').flatMap ThO.v:=by
    rw[flat_set ThO.v 8 ThO.len ts k 5 q (.int .i64 q.d.pc) hqk (by omega) {q with d:={q.d with sav:=q.d.pc}} rfl]
    rw[flat_set ThO.v 8 ThO.len _ k 2 {q with d:={q.d with sav:=q.d.pc}} (.int .i64 q.d.han) (by rw[List.getElem?_set_self hlt]) (by omega) q' (by rw[hq'];rfl),List.set_set]
   refine gRetN tab hs rfl (.cons (.cells rfl rfl rfl rfl (hm.ro (k:=0) (n:=5) (g:=g4) mem_ (cutF_ok rfl))) (.cons (.tmp rfl) .nil)) ⟨⟨bA,bc,bcs,bs,key,m,some gt,tc,tcs2,ts.set k q'⟩,?_,⟨hyo.b,hyo.m,?_,?_⟩,?_,?_,hm.fr⟩
   ·unfold MO.v
    dsimp only
    rw[hl']
    rfl
   ·dsimp only
    rw[hl',←hr5,←htc2]
    exact(hot.set _ _).set _ _
   ·intro z hz
    dsimp only at hz
    rcases List.mem_or_eq_of_mem_set hz with h|h
    ·exact hyo.tt z h
    ·subst h
     rw[hq']
     exact hyo.tt q (List.mem_of_getElem? hqk)
   ·unfold delF
    rw[hcf,if_pos rfl,←hyd]
    unfold MO.d
    dsimp only
    rw[Int.toNat_natCast,List.getElem?_map,hqk,Option.map_some,List.map_set,hq']
   ·unfold MO.hps
    dsimp only
    rw[hps']
    exact hm.new (List.Sublist.cons _ (List.Sublist.cons _ (List.Sublist.refl _)))
theorem gpSgp0_{G H:Prop}(k:H)(s:Bx H→G:=by intro k_;(repeat(first|(refine ovR_ ?_;(try clear hs a);intro a hs)|((with_reducible apply lCons);first|(refine dv hs gw_ rfl rfl da_ ?_;(try clear hs hm a);rintro _ w_ ⟨g_,rfl,-,hm⟩ a hs)|(refine stn hs rfl rfl ds_ ?_;(try clear hs hm a);rintro-w_ hm a hs))|refine sc_ ?_));have m_:=hm;have s_:=hs;clear hs;(try clear hm);revert m_ s_ a;(try revert w_);(repeat revert g_);exact k_.h):G:=s ⟨k⟩
theorem Mm.old{w0 w:World}{A B:List Hp}(hm:Mm (fun _=>False) w0 (A++B) w){b:Nat}(hb:b<w0.heap.size):¬own B b:=fun⟨x,hx,e⟩=>by
 rcases hm.ow x (List.mem_append_right _ hx) b e with h|h
 ·omega
 ·exact h
theorem MO.d_th{y:MO}{t:Nat}{q:ThD}(h:y.d.ts[t]?=some q):∃x,y.ts[t]?=some x∧x.d=q:=by
 unfold MO.d at h
 dsimp only at h
 rw[List.getElem?_map]at h
 cases hx:y.ts[t]? with
 |none=>rw[hx]at h;cases h
 |some x=>rw[hx]at h;exact⟨x,rfl,Option.some.inj h⟩
theorem MV.d_th{y:MV}{t:Nat}{q:ThD}(h:y.d.ts[t]?=some q):∃x,y.ts[t]?=some x∧x.d=q:=by
 unfold MV.d at h
 dsimp only at h
 rw[List.getElem?_map]at h
 cases hx:y.ts[t]? with
 |none=>rw[hx]at h;cases h
 |some x=>rw[hx]at h;exact⟨x,rfl,Option.some.inj h⟩
theorem slv_inj{A:Option Nat}{n c g m d:Nat}(h:slv A n c=slv (some g) m d):A=some g∧n=m∧c=d:=by
 cases A with
 |none=>cases h
 |some k=>
  unfold slv at h
  simp only[Option.map_some,Value.slice.injEq,Option.some.injEq,Addr.mk.injEq]at h
  obtain⟨⟨rfl,-⟩,rfl,rfl⟩:=h
  exact⟨rfl,rfl,rfl⟩
theorem MO.v_vs(x:MO):x.v= .agg x.vs.toArray:=rfl
theorem MO.vs_t{x y:MO}{g:Nat}(h:x.vs=y.vs)(hy:y.tA=some g):x.tA=some g∧x.ts.length=y.ts.length∧x.tc=y.tc:=by
 have:=congrArg (fun l=>l[4]?) h
 unfold MO.vs at this
 simp only[List.getElem?_cons_succ,List.getElem?_cons_zero,Option.some.injEq]at this
 rw[hy]at this
 exact slv_inj this
theorem MD.val.up [HB]{d:MD}{ss:List Int}{B C:Int}(h:d.val ss B)(hBC:B≤C):d.val ss C:=⟨h.gap,h.key,h.n,h.l,h.t,h.cv,h.ll,fun q hq=>(h.tt q hq).up hBC⟩
theorem Mm.swapE{S:Nat→Prop}{w0 w w':World}(L:List Hp){A A':List Hp}(hm:Mm S w0 (L++A) w)(hk:Mm (own A) w A' w'):Mm S w0 (L++A') w':=by
 have:=Mm.swapL L (A:=A) (B:=[]) (by rwa[List.append_nil]) hk
 rwa[List.append_nil]at this
theorem Mm.notinR{S:Nat→Prop}{w0 w:World}{A B:List Hp}(hm:Mm S w0 (A++B) w){x:Hp}(hx:x∈A){g:Nat}(hg:x.g=some g):¬own B g:=fun⟨z,hz,e⟩=>hm.dj.cross2 x hx z hz g hg e
structure SlX where
 Y:MO
 k:Nat
 q:ThD
theorem slc_c [HB](p:PV)(x:MV)(B:Int)(t:Nat)(n:Int)(q0:ThD)(wB:World)(hp:p.ok wB)(hpv:p.val)(hx:x.ok wB)(h:x.d.val p.ss B)(hcap:x.bs.length≤x.bc)(hB:B≤1000000000)(ht:t<4)(hn:1≤n∧n≤64)(hq0:x.d.ts[t]?=some q0) (hst:q0.st=1):
  Ret Tryz.prog 107 [p.v,x.v,.int .i64 (t:Int),.int .i64 n] wB (fun u w'=>∃(z:MO)(s:Int)(q:ThD),u= .tuple #[z.v,.int .i64 s,.int .i64 0]∧z.ok∧z.d.val p.ss (B+20000)∧z.d.ts[t]?=some q∧(s=0∨s=1∨s=2)∧(s=1→1≤q.pc∧q.pc≤(p.code.length:Int)∧∃i,p.code[(q.pc-1).toNat]?=some i∧i.op=23)∧New wB w' z.hps∧Pu wB w'):=by
 have hsm:=h.sm hpv.sz
 have k1:=fun w'' (hf:Pu wB w'')=>xval_c p x B w'' (hp.pu hf) hpv (hx.pu hf) h hcap (by omega)
 have k2:=fun w'' (hf:Pu wB w'')=>rcp_c x w'' (hx.pu hf) hsm
 have htl:x.ts.length=4:=by have:=h.t;rwa[MV.d_len]at this
 obtain⟨xt,hxt,hxd⟩:=MV.d_th hq0
 have htx:t<x.ts.length:=by omega
 obtain⟨bt,ot,hbt,hbt2,rt⟩:=hx.t.ro (by rw[flat_len ThV.v 8 ThV.len];omega)
 have q1:=rt.flat ThV.len htx
 rw[(List.getElem?_eq_some_iff.1 hxt).2]at q1
 unfold ThV.v at q1
 rw[hxd,hst]at q1
 have hpe:p.v= .agg #[.slice p.cA p.code.length p.cc,.slice p.sA p.ss.length p.sc,.slice p.dA p.ws.length p.dc]:=rfl
 have hxe:x.v= .agg #[.slice x.bA x.bs.length x.bc,.int .u16 x.key,.slice x.cA x.xs.length x.cc,.slice x.lA x.ls.length x.lc,.slice (some ⟨bt,ot,none⟩) x.ts.length x.tc]:=by unfold MV.v;rw[hbt]
 rw[hpe,hxe]at k1 ⊢
 rw[hxe]at k2
 refine enterR Tryz.func107 rfl rfl rfl fun a hs hm=>?_
 repeat(first|(refine gpSgp0_ ?_;clear hs hm a;intros;rename_i a hm hs)|refine sc_ ?_|((with_reducible apply lCons);first|(refine dvc hs hm gw_ rfl rfl rfl rfl rfl (pl 27 rfl) (k1 _ hm.fr) ?_;clear hs hm a;intro w hm a hs)))
 obtain⟨g4,rfl⟩:=hs.pp 4
 obtain⟨g5,rfl⟩:=hs.pp 5
 obtain⟨g8,rfl⟩:=hs.pp 8
 refine st hs rfl rfl rfl (d_call hs rfl rfl rfl (pl 19 rfl) ((k2 _ hm.fr))) ?_;clear hs a;rintro _ w1 ⟨y,rfl,hyo,hyd,hN,hf⟩ a hs
 replace hm:=gainE hm hf hN
 clear hN hf
 unfold MO.v at hs
 have hyl:y.ts.length=4:=by have:=congrArg (fun d=>d.ts.length) hyd;rwa[MO.d_len,MV.d_len,htl]at this
 obtain⟨qy,hqy,hqyd⟩:=MO.d_th (hyd▸hq0)
 have hty:t<y.ts.length:=by omega
 have hot:=hyo.t
 obtain⟨gt,hgt⟩:=hot.some_ (by omega)
 have hyv:y.d.val p.ss B:=hyd▸h
 have hcnt:=(h.tt q0 (List.mem_of_getElem? hq0)).cnt
 have hpc0:=(h.tt q0 (List.mem_of_getElem? hq0)).pc
 have e3:y.tcs[t*8+3]?=some (.int .i64 q0.cnt):=hot.get (by rw[flat_get ThO.v 8 ThO.len y.ts t 3 hty (by omega),(List.getElem?_eq_some_iff.1 hqy).2,←hqyd];rfl)
 rw[hgt,hyl]at hs
 have hps:∀Z:MO,Z.hps=⟨Z.tA,52,Z.tcs⟩::(⟨Z.bA,3,Z.bcs⟩::(Z.m.hps++Z.ts.map ThO.hp)):=fun Z=>rfl
 rw[hps,hgt]at hm
 generalize hRe:(⟨y.bA,3,y.bcs⟩:Hp)::(y.m.hps++y.ts.map ThO.hp)=R at hm
 have hR:(⟨some gt,52,y.tcs⟩:Hp)::R=y.hps:=by rw[←hRe,hps,hgt]
 refine gsce98_ ?_;clear hs hm a;intros;rename_i a hm hs
 obtain⟨g11,rfl⟩:=hs.pp 11
 rw[hR]at hm
 have hN:p.at wB wB.heap.size:=hp.at
 have hvse:y.vs=(y.cl [slv (some gt) 4 y.tc]):=by unfold MO.vs;rw[hgt,hyl]
 refine cLoop (X:=SlX) (fun X a w'=>X.Y.ok∧X.Y.d.val p.ss (B+X.k)∧X.Y.vs=y.vs∧X.Y.d.ts[t]?=some X.q∧X.q.cnt<q0.cnt+n∧(q0.cnt+n-X.q.cnt)*300+(256-X.q.pc)+X.k≤19999∧Sl Tryz.f107.ntmps [(2,.int .i64 (t:Int)),(4,pt g4),(8,pt g8),(11,pt g11),(12,.int .i64 (q0.cnt+n))] a∧Mm (fun _=>False) wB ([⟨some g11,32,(y.cl [slv (some gt) 4 y.tc])⟩,⟨some g8,32,[nS,.int .u16 0,nS,nS,nS]⟩,⟨some g4,38,(p.cl [])⟩]++X.Y.hps) w') (fun X=>((q0.cnt+n-X.q.cnt)*300+(256-X.q.pc)).toNat) ⟨y,0,q0⟩ ⟨hyo,by dsimp only;rw[show B+((0:Nat):Int)=B by omega];exact hyv,rfl,hyd▸hq0,by dsimp only;omega,by dsimp only;omega,(sb_ hs),hm.sub (List.Sublist.cons_cons _ (List.Sublist.cons_cons _ (List.Sublist.cons _ (List.Sublist.refl _))))⟩ ?_
 clear hs hm a
 rintro⟨Y,k,q⟩ a w' ⟨h1,h2,h3,h4,h5,h6,hs,hm⟩
 dsimp only at*
 have hqb:=(h2.tt q (List.mem_of_getElem? h4)).pc
 have hqc:=(h2.tt q (List.mem_of_getElem? h4)).cnt
 refine gsce98_ ?_;clear hs hm a;intros;rename_i a hm hs
 refine st hs rfl rfl rfl (d_call hs rfl rfl rfl (pl 28 rfl) ((one_c p wB.heap.size g11 Y (B+k) t _ (hN.fr hm.fr (Nat.le_refl _) (fun b _ e=>e)) hpv hm.fr.size (hm.sub (List.sublist_append_right _ _)).rebase (fun b hb=>hm.old hb) h1 h2 (by omega) (by rw[h3,hvse];exact hm.ro (k:=0) (n:=5) mem_ (cutF_ok rfl)) (hm.notinR (x:=⟨some g11,32,(y.cl [slv (some gt) 4 y.tc])⟩) mem_ rfl) ht))) ?_;clear hs a;rintro _ w1 ⟨Z,s,qa,qb,rfl,z1,z2,z3,z4,z5,z6,hk⟩ a hs
 replace hm:=hm.swapE _ hk
 clear hk
 rw[h4]at z4
 rcases z4
 have hb2:=(z2.tt qb (List.mem_of_getElem? z5)).pc
 have hb3:=(z2.tt qb (List.mem_of_getElem? z5)).cnt
 obtain⟨zA,zl,zc⟩:=MO.vs_t (z3.trans h3) hgt
 obtain⟨qz,hqz,hqzd⟩:=MO.d_th z5
 have e3':Z.tcs[t*8+3]?=some (.int .i64 qb.cnt):=z1.t.get (by rw[flat_get ThO.v 8 ThO.len Z.ts t 3 (by omega) (by omega),(List.getElem?_eq_some_iff.1 hqz).2,←hqzd];rfl)
 have hZv:Z.v= .agg #[slv y.bA y.bs.length y.bc,.int .u16 y.key,slv y.m.cA y.m.xs.length y.m.cc,slv y.m.lA y.m.ls.length y.m.lc,slv (some gt) 4 y.tc]:=by rw[MO.v_vs,z3,h3,hvse]
 have hfin:∀(s':Int)(w':World),(s'=0∨s'=1∨s'=2)→(s'=1→1≤qb.pc∧qb.pc≤(p.code.length:Int)∧∃i,p.code[(qb.pc-1).toNat]?=some i∧i.op=23)→New wB w' Z.hps→Pu wB w'→∃(z:MO)(s:Int)(q:ThD),Value.tuple #[.agg #[slv y.bA y.bs.length y.bc,.int .u16 y.key,slv y.m.cA y.m.xs.length y.m.cc,slv y.m.lA y.m.ls.length y.m.lc,slv (some gt) 4 y.tc],.int .i64 s',.int .i64 0]= .tuple #[z.v,.int .i64 s,.int .i64 0]∧z.ok∧z.d.val p.ss (B+20000)∧z.d.ts[t]?=some q∧(s=0∨s=1∨s=2)∧(s=1→1≤q.pc∧q.pc≤(p.code.length:Int)∧∃i,p.code[(q.pc-1).toNat]?=some i∧i.op=23)∧New wB w' z.hps∧Pu wB w':=
  fun s' w' i1 i2 i3 i4=>⟨Z,s',qb,by rw[hZv],z1,z2.up (by omega),z5,i1,i2,i3,i4⟩
 by_cases hs1:s=-1
 ·subst hs1
  rw[hps,zA]at hm
  generalize hRe2:(⟨Z.bA,3,Z.bcs⟩:Hp)::(Z.m.hps++Z.ts.map ThO.hp)=R2 at hm
  have hR2:(⟨some gt,52,Z.tcs⟩:Hp)::R2=Z.hps:=by rw[←hRe2,hps,zA]
  rcases z6 with⟨-,a1,a2,a3,a4⟩|⟨e,_⟩|e
  ·by_cases hu:qb.cnt=q0.cnt+n
   ·rw[hu]at e3'
    refine gsce98_ ?_;clear hs hm a;intros;rename_i a hm hs
    rw[hR2]at hm
    refine gRetN tab hs rfl (.cons (.cells rfl rfl rfl rfl (hm.ro (k:=0) (n:=5) (g:=g8) mem_ (cutF_ok rfl))) (.cons (.tmp rfl) (.cons (.tmp rfl) .nil))) (hfin 0 _ (.inl rfl) (fun e=>by cases e) (hm.new ?_) hm.fr)
    exact z12cd_
   ·refine gsce98_ ?_;clear hs hm a;intros;rename_i a hm hs
    rw[hR2]at hm
    exact⟨⟨Z,k+1,qb⟩,by dsimp only;omega,⟨z1,by dsimp only;rw[show B+((k+1:Nat):Int)=B+k+1 by omega];exact z2,z3.trans h3,z5,by dsimp only;omega,by dsimp only;omega,(sb_ hs),hm⟩⟩
  ·omega
  ·omega
 ·rcases z6 with⟨e,_⟩|⟨rfl,a1,a2,a3,i,a4,a5⟩|rfl
  ·exact absurd e hs1
  ·refine gsce98_ ?_;clear hs hm a;intros;rename_i a hm hs
   refine gRetN tab hs rfl (.cons (.cells rfl rfl rfl rfl (hm.ro (k:=0) (n:=5) (g:=g8) mem_ (cutF_ok rfl))) (.cons (.tmp rfl) (.cons (.tmp rfl) .nil))) (hfin 1 _ (.inr (.inl rfl)) (fun e=>⟨by omega,by omega,i,by rw[show qb.pc-1=q.pc by omega];exact a4,a5⟩) (hm.new ?_) hm.fr)
   exact z12cd_
  ·refine gsce98_ ?_;clear hs hm a;intros;rename_i a hm hs
   refine gRetN tab hs rfl (.cons (.cells rfl rfl rfl rfl (hm.ro (k:=0) (n:=5) (g:=g8) mem_ (cutF_ok rfl))) (.cons (.tmp rfl) (.cons (.tmp rfl) .nil))) (hfin 2 _ (.inr (.inr rfl)) (fun e=>by cases e) (hm.new ?_) hm.fr)
   exact z12cd_
theorem gpSgr0_{G H:Prop}(k:H)(s:Bx H→G:=by intro k_;(repeat(first|(refine ov1817_ ?_;(try clear hs a);intro a hs)|((with_reducible apply lCons);first|(refine dv hs gw_ rfl rfl da_ ?_;(try clear hs hm a);rintro _ w_ ⟨g_,rfl,-,hm⟩ a hs)|(refine stn hs rfl rfl ds_ ?_;(try clear hs hm a);rintro-w_ hm a hs))|refine sc_ ?_));have m_:=hm;have s_:=hs;clear hs;(try clear hm);revert m_ s_ a;(try revert w_);(repeat revert g_);exact k_.h):G:=s ⟨k⟩
theorem gcSgr1_{G H:Prop}(k:H)(s:Bx H→G:=by intro k_;(repeat(first|(refine oq2d6d_ ?_;(try clear hs a);intro a hs)|((with_reducible apply lCons);first|(refine dv hs gw_ rfl rfl da_ ?_;(try clear hs hm a);rintro _ w_ ⟨g_,rfl,-,hm⟩ a hs)|(refine stn hs rfl rfl ds_ ?_;(try clear hs hm a);rintro-w_ hm a hs))|((with_reducible apply qNil);(try clear hm);intro w_ hm)|refine cQ_ ?_|refine sc_ ?_|((with_reducible apply lCons);first|(refine dvc hs hm gw_ rfl rfl rfl rfl rfl (pl 119 rfl) (hkf _) ?_;(try clear hs hm a);intro w_ hm a hs))|((with_reducible apply qCons);first|(refine qwc hs gw_ rfl rfl rfl rfl rfl (pl 119 rfl) (fun w hm=>hkf _) ?_;(try clear hs a);intro a hs))));(first|(have m_:=hm;have s_:=hs;clear hs;(try clear hm);revert m_ s_ a)|((first|refine rexc_ hs hm ?_|refine rexl_ hs hm ?_|refine rexg_ hs hm ?_|refine rexq_ hs hm ?_);intro a hm hs;revert hm hs a));(try revert w_);(repeat revert g_);exact k_.h):G:=s ⟨k⟩
theorem gcSgr2_{G H:Prop}(k:H)(s:Bx H→G:=by intro k_;(repeat(first|(refine oq2d6d_ ?_;(try clear hs a);intro a hs)|((with_reducible apply lCons);first|(refine dv hs gw_ rfl rfl da_ ?_;(try clear hs hm a);rintro _ w_ ⟨g_,rfl,-,hm⟩ a hs)|(refine stn hs rfl rfl ds_ ?_;(try clear hs hm a);rintro-w_ hm a hs))|((with_reducible apply qNil);(try clear hm);intro w_ hm)|refine cQ_ ?_|refine sc_ ?_|((with_reducible apply lCons);first|(refine dvc hs hm gw_ rfl rfl rfl rfl rfl (pl 111 rfl) (kb _) ?_;(try clear hs hm a);intro w_ hm a hs)|(refine dvc hs hm gw_ rfl rfl rfl rfl rfl (pl 120 rfl) (kw _ hm.fr) ?_;(try clear hs hm a);intro w_ hm a hs))|((with_reducible apply qCons);first|(refine qwc hs gw_ rfl rfl rfl rfl rfl (pl 111 rfl) (fun w hm=>kb _) ?_;(try clear hs a);intro a hs)|(refine qwc hs gw_ rfl rfl rfl rfl rfl (pl 120 rfl) (fun w hm=>kw _ hm.fr) ?_;(try clear hs a);intro a hs))));(first|(have m_:=hm;have s_:=hs;clear hs;(try clear hm);revert m_ s_ a)|((first|refine rexc_ hs hm ?_|refine rexl_ hs hm ?_|refine rexg_ hs hm ?_|refine rexq_ hs hm ?_);intro a hm hs;revert hm hs a));(try revert w_);(repeat revert g_);exact k_.h):G:=s ⟨k⟩
def lsX(p:PV)(x:MV):LS:=⟨x.bA,p.ss.length,x.bc,x.bs,x.key,p.sA,p.sc,p.ss⟩
theorem lsX_ok [HB]{p:PV}{x:MV}{B:Int}{w:World}(hp:p.ok w)(hpv:p.val)(hx:x.ok w)(h:x.d.val p.ss B):(lsX p x).ok w:=by
 have hg:LGap x.bs p.ss:=h.gap
 refine⟨hg.len,rfl,hx.b,hp.s,fun z hz=>?_,hpv.sz.bd,hpv.sz.four⟩
 replace hz:z∈x.bs:=hz
 obtain⟨k,hk,rfl⟩:=List.mem_iff_getElem.1 hz
 have h1:=hg.len
 have h2:=hg.b k hk
 have h3:=hpv.sz.bd _ (List.getElem_mem (show k<p.ss.length by omega))
 rw[getI hk,getI (l:=p.ss) (k:=k) (by omega)]at h2
 omega
theorem lsX_l [HB]{p:PV}{x:MV}{B:Int}(h:x.d.val p.ss B):(lsX p x).l= .agg #[.slice x.bA x.bs.length x.bc,.int .u16 x.key]:=by
 have hg:LGap x.bs p.ss:=h.gap
 unfold lsX LS.l
 dsimp only
 rw[hg.len]
theorem lsX_s(p:PV)(x:MV):(lsX p x).s= .slice p.sA p.ss.length p.sc:=rfl
theorem wi_ok{X:LS}(hg:LGap X.bs X.ss)(hn:X.n=X.ss.length){t v n:Int}(h:(wiF X t v n).2=0):t=1∧v+n≤512∧0≤v:=by
 unfold wiF at h
 split at h
 ·next ht=>
  refine⟨ht,?_⟩
  cases hr:resF X.bs X.ss v X.n with
  |none=>rw[hr]at h;exact absurd (show(4:Int)=0 from h) (by decide)
  |some p=>
   obtain⟨r,o⟩:=p
   rw[hr]at h
   dsimp only at h
   obtain⟨h1,h2,h3,h4⟩:=resF_at hr
   have hb:=hg.b r (by have:=hg.len;omega)
   split at h
   ·exact absurd h (by decide)
   ·omega
 ·exact absurd h (by decide)
structure ChkOk [HB](q:ThD)(call:Int):Prop where
 k:∀j (h:j<(kndF call).length) (h':j<q.xs.length),fitB (kndF call)[j] q.xs[j].t=true
 b:0<bufF call→∀c1 c2,q.xs[1]?=some c1→q.xs[2]?=some c2→c2.v≤16∧c1.v+c2.v≤512
 h:call=12→∀c,q.xs[0]?=some c→c.v≤HB.h
theorem rchk_c [HB](p:PV)(x:MV)(B:Int)(t:Nat)(q:ThD)(i:In)(wB:World)(hp:p.ok wB)(hpv:p.val)(hx:x.ok wB)(h:x.d.val p.ss B)(ht:t<4)(hq:x.d.ts[t]?=some q) (hq1:1≤q.pc) (hi:p.code[(q.pc-1).toNat]?=some i) (hop:i.op=23):
  Ret Tryz.prog 108 [p.v,x.v,.int .i64 (t:Int)] wB (fun u w'=>∃why,u= .int .i64 why∧(why=0∨why=6)∧(why=0→ChkOk q i.m)∧Pu wB w'):=by
 have hsm:=h.sm hpv.sz
 have hg:LGap x.bs p.ss:=h.gap
 have htl:x.ts.length=4:=by have:=h.t;rwa[MV.d_len]at this
 obtain⟨xt,hxt,hxd⟩:=MV.d_th hq
 have htx:t<x.ts.length:=by omega
 have hqv:=h.tt q (List.mem_of_getElem? hq)
 obtain⟨bt,ot,hbt,hbt2,rt⟩:=hx.t.ro (by rw[flat_len ThV.v 8 ThV.len];omega)
 have q1:=rt.flat ThV.len htx
 rw[(List.getElem?_eq_some_iff.1 hxt).2]at q1
 have hxr:=hx.tt xt (List.mem_of_getElem? hxt)
 obtain⟨A,c,d⟩:=xt
 dsimp only at hxd
 subst hxd
 have hqn:=hqv.n
 obtain⟨br,obr,hA,hbr,rr⟩:=hxr.ro (by rw[cvs_len];dsimp only;omega)
 dsimp only at hA hxr rr
 subst hA
 unfold ThV.v at q1
 dsimp only at q1
 rw[hqn]at q1
 obtain⟨pc,hpc⟩:∃pc:Nat,(d.pc-1).toNat=pc:=⟨_,rfl⟩
 rw[hpc]at hi
 have hpc2:d.pc=((pc+1:Nat):Int):=by omega
 rw[hpc2]at q1
 obtain⟨hpl,hci⟩:=List.getElem?_eq_some_iff.1 hi
 have hc2:=hpv.c2
 obtain⟨bc,oc,hcA,hbc,rc⟩:=hp.c.ro (by rw[flat_len inV 5 inV_len];omega)
 have q2:=rc.flat inV_len hpl
 rw[hci]at q2
 unfold inV at q2
 have hiv:=hpv.inv i (by rw[←hci];exact List.getElem_mem hpl)
 have hm1:=hiv.m
 have hm2:=hiv.sys hop
 generalize hcall:i.m=call at*
 have hr0:=rr.flat CV.cs_len (k:=0) (by omega)
 have hr1:=rr.flat CV.cs_len (k:=1) (by omega)
 have hr2:=rr.flat CV.cs_len (k:=2) (by omega)
 have hv1:=hqv.cv _ (List.getElem_mem (show 1<d.xs.length by omega))
 have hv2:=hqv.cv _ (List.getElem_mem (show 2<d.xs.length by omega))
 have hv0:=hqv.cv _ (List.getElem_mem (show 0<d.xs.length by omega))
 obtain⟨c0,hc0⟩:∃c,d.xs[0]'(by omega)=c:=⟨_,rfl⟩
 obtain⟨c1,hc1⟩:∃c,d.xs[1]'(by omega)=c:=⟨_,rfl⟩
 obtain⟨c2,hcc2⟩:∃c,d.xs[2]'(by omega)=c:=⟨_,rfl⟩
 rw[hc0]at hr0 hv0
 rw[hc1]at hr1 hv1
 rw[hcc2]at hr2 hv2
 unfold CV.cs at hr0 hr1 hr2
 have hw2:IntKind.i64.wrap c2.v=c2.v:=wrap_idP (by have:=hv2.2;omega)
 have hw0:IntKind.i64.wrap c0.v=c0.v:=wrap_idP (by have:=hv0.2;omega)
 have kk:=fun w=>knd_c call w
 have kb:=fun w=>buf_c call w ⟨hm1.1,hm2⟩
 have kw:=fun w'' (hf:Pu wB w'')=>rwi_c (lsX p x) c1.t c1.v (IntKind.i64.wrap c2.v) w'' ((lsX_ok hp hpv hx h).pu hf) hv1.2
 rw[lsX_l h,lsX_s]at kw
 obtain⟨l,hl⟩:∃l,kndF call=l:=⟨_,rfl⟩
 have hll:=kndF_len call
 rw[hl]at kk hll
 have hres:∀(w':World),(∀j (h:j<l.length) (h':j<d.xs.length),fitB l[j] d.xs[j].t=true)→(0<bufF call→c2.v≤16∧c1.v+c2.v≤512)→(call=12→c0.v≤HB.h)→Pu wB w'→∃why,Value.int .i64 0= .int .i64 why∧(why=0∨why=6)∧(why=0→ChkOk d call)∧Pu wB w':=fun w' i1 i2 i0 i3=>⟨0,rfl,.inl rfl,fun _=>⟨by rw[hl];exact i1,fun hb c1' c2' e1 e2=>by
  rw[List.getElem?_eq_getElem (show 1<d.xs.length by omega),hc1]at e1
  rw[List.getElem?_eq_getElem (show 2<d.xs.length by omega),hcc2]at e2
  rw[←Option.some.inj e1,←Option.some.inj e2]
  exact i2 hb,fun h12 c e=>by
  rw[List.getElem?_eq_getElem (show 0<d.xs.length by omega),hc0]at e
  rw[←Option.some.inj e]
  exact i0 h12⟩,i3⟩
 have hbad:∀(w':World),Pu wB w'→∃why,Value.int .i64 6= .int .i64 why∧(why=0∨why=6)∧(why=0→ChkOk d call)∧Pu wB w':=fun w' i3=>⟨6,rfl,.inr rfl,fun e=>absurd e (by decide),i3⟩
 have hpe:p.v= .agg #[.slice (some ⟨bc,oc,none⟩) p.code.length p.cc,.slice p.sA p.ss.length p.sc,.slice p.dA p.ws.length p.dc]:=by unfold PV.v;rw[hcA]
 have hxe:x.v= .agg #[.slice x.bA x.bs.length x.bc,.int .u16 x.key,.slice x.cA x.xs.length x.cc,.slice x.lA x.ls.length x.lc,.slice (some ⟨bt,ot,none⟩) x.ts.length x.tc]:=by unfold MV.v;rw[hbt]
 rw[hpe,hxe]
 refine enterR Tryz.func108 rfl rfl rfl fun a hs hm=>?_
 repeat(first|(refine gpSgr0_ ?_;clear hs hm a;intros;rename_i a hm hs)|refine sc_ ?_|((with_reducible apply lCons);first|(refine dvc hs hm gw_ rfl rfl rfl rfl rfl (pl 118 rfl) (kk _) ?_;clear hs hm a;intro w hm a hs)))
 obtain⟨g3,rfl⟩:=hs.pp 3
 obtain⟨g4,rfl⟩:=hs.pp 4
 obtain⟨g7,rfl⟩:=hs.pp 7
 refine cLoop (X:=Nat) (fun k a w'=>k≤l.length∧(∀j (h:j<l.length) (h':j<d.xs.length),j<k→fitB l[j] d.xs[j].t=true)∧Sl Tryz.f108.ntmps [(3,pt g3),(4,pt g4),(7,pt g7),(8,.int .i64 call),(9,txv l),(29,.int .i64 (l.length:Int)),(30,.int .i64 (k:Int))] a∧Mm (fun _=>False) wB [⟨some g7,52,[.int .i64 d.st,.slice (some ⟨br,obr,none⟩) 8 c,.int .i64 ((pc+1:Nat):Int),.int .i64 d.cnt,.int .i64 d.han,.int .i64 d.sav,.int .i64 d.trp,.int .u16 d.cod]⟩,⟨some g4,32,(x.cl [.slice (some ⟨bt,ot,none⟩) x.ts.length x.tc])⟩,⟨some g3,38,[.slice (some ⟨bc,oc,none⟩) p.code.length p.cc,.slice p.sA p.ss.length p.sc,.slice p.dA p.ws.length p.dc]⟩] w') (fun k=>l.length-k) 0 ⟨Nat.zero_le _,fun j _ _ e=>absurd e (by omega),(sb_ hs),hm⟩ ?_
 clear hs hm a
 rintro k a w' ⟨hk,hfit,hs,hm⟩
 by_cases hlt:k<l.length
 ·have hlk:l[k]?=some l[k]:=List.getElem?_eq_getElem hlt
  have hdk:k<d.xs.length:=by omega
  have hrk:=rr.flat CV.cs_len (k:=k) hdk
  have hkf:=fun w=>fit_c l[k] (d.xs[k]).t w
  unfold CV.cs at hrk
  cases hf:fitB l[k] (d.xs[k]).t
  ·rw[hf]at hkf
   refine gcSgr1_ ?_;clear hs hm a;intros;rename_i a hm hs
   refine gRet1 hs rfl rfl ?_
   exact hbad _ hm.fr
  ·rw[hf]at hkf
   refine gcSgr1_ ?_;clear hs hm a;intros;rename_i a hm hs
   refine⟨k+1,by omega,by omega,fun j e1 e2 e3=>?_,(sb_ hs),hm.sub sub_⟩
   by_cases hjk:j=k
   ·subst hjk;exact hf
   ·exact hfit j e1 e2 (by omega)
 ·replace hfit:∀j (h:j<l.length) (h':j<d.xs.length),fitB l[j] d.xs[j].t=true:=fun j e1 e2=>hfit j e1 e2 (by omega)
  have hke:k=l.length:=by omega
  subst hke
  have hwo:=wi_ok (X:=lsX p x) hg rfl (t:=c1.t) (v:=c1.v) (n:=IntKind.i64.wrap c2.v)
  generalize wiF (lsX p x) c1.t c1.v (IntKind.i64.wrap c2.v)=wr at*
  obtain⟨wa,we⟩:=wr
  dsimp only at hwo kw
  rw[hw2]at hwo
  by_cases hb:0<bufF call
  ·by_cases he:we=0
   ·obtain⟨o1,o2,o3⟩:=hwo he
    subst he
    by_cases h16:c2.v≤16
    ·have hb2:0<bufF call→c2.v≤16∧c1.v+c2.v≤512:=fun _=>⟨h16,o2⟩
     by_cases hv:c0.v<(p.code.length:Int)
     ·by_cases h10:call=10
      ·subst h10
       refine gcSgr2_ ?_;clear hs hm a;intros;rename_i a hm hs
       refine gRet1 hs rfl rfl ?_
       exact hres _ hfit hb2 (fun _=>by have:=hpv.hb;omega) hm.fr
      ·by_cases h12:call=12
       ·subst h12
        refine gcSgr2_ ?_;clear hs hm a;intros;rename_i a hm hs
        refine gRet1 hs rfl rfl ?_
        exact hres _ hfit hb2 (fun _=>by have:=hpv.hb;omega) hm.fr
       ·refine gcSgr2_ ?_;clear hs hm a;intros;rename_i a hm hs
        refine gRet1 hs rfl rfl ?_
        exact hres _ hfit hb2 (fun _=>by have:=hpv.hb;omega) hm.fr
     ·by_cases h10:call=10
      ·subst h10
       refine gcSgr2_ ?_;clear hs hm a;intros;rename_i a hm hs
       refine gRet1 hs rfl rfl ?_
       exact hbad _ hm.fr
      ·by_cases h12:call=12
       ·subst h12
        refine gcSgr2_ ?_;clear hs hm a;intros;rename_i a hm hs
        refine gRet1 hs rfl rfl ?_
        exact hbad _ hm.fr
       ·refine gcSgr2_ ?_;clear hs hm a;intros;rename_i a hm hs
        refine gRet1 hs rfl rfl ?_
        exact hres _ hfit hb2 (fun e=>absurd e h12) hm.fr
    ·refine gcSgr2_ ?_;clear hs hm a;intros;rename_i a hm hs
     refine gRet1 hs rfl rfl ?_
     exact hbad _ hm.fr
   ·refine gcSgr2_ ?_;clear hs hm a;intros;rename_i a hm hs
    refine gRet1 hs rfl rfl ?_
    exact hbad _ hm.fr
  ·have hb2:0<bufF call→c2.v≤16∧c1.v+c2.v≤512:=fun e=>absurd e hb
   by_cases hv:c0.v<(p.code.length:Int)
   ·by_cases h10:call=10
    ·subst h10
     refine gcSgr2_ ?_;clear hs hm a;intros;rename_i a hm hs
     refine gRet1 hs rfl rfl ?_
     exact hres _ hfit hb2 (fun _=>by have:=hpv.hb;omega) hm.fr
    ·by_cases h12:call=12
     ·subst h12
      refine gcSgr2_ ?_;clear hs hm a;intros;rename_i a hm hs
      refine gRet1 hs rfl rfl ?_
      exact hres _ hfit hb2 (fun _=>by have:=hpv.hb;omega) hm.fr
     ·refine gcSgr2_ ?_;clear hs hm a;intros;rename_i a hm hs
      refine gRet1 hs rfl rfl ?_
      exact hres _ hfit hb2 (fun _=>by have:=hpv.hb;omega) hm.fr
   ·by_cases h10:call=10
    ·subst h10
     refine gcSgr2_ ?_;clear hs hm a;intros;rename_i a hm hs
     refine gRet1 hs rfl rfl ?_
     exact hbad _ hm.fr
    ·by_cases h12:call=12
     ·subst h12
      refine gcSgr2_ ?_;clear hs hm a;intros;rename_i a hm hs
      refine gRet1 hs rfl rfl ?_
      exact hbad _ hm.fr
     ·refine gcSgr2_ ?_;clear hs hm a;intros;rename_i a hm hs
      refine gRet1 hs rfl rfl ?_
      exact hres _ hfit hb2 (fun e=>absurd e h12) hm.fr
theorem gpSgs0_{G H:Prop}(k:H)(s:Bx H→G:=by intro k_;(repeat(first|(refine ov2663_ ?_;(try clear hs a);intro a hs)|((with_reducible apply lCons);first|(refine dv hs gw_ rfl rfl da_ ?_;(try clear hs hm a);rintro _ w_ ⟨g_,rfl,-,hm⟩ a hs)|(refine stn hs rfl rfl ds_ ?_;(try clear hs hm a);rintro-w_ hm a hs))|refine sc_ ?_));have m_:=hm;have s_:=hs;clear hs;(try clear hm);revert m_ s_ a;(try revert w_);(repeat revert g_);exact k_.h):G:=s ⟨k⟩
theorem gcSgs1_{G H:Prop}(k:H)(s:Bx H→G:=by intro k_;(repeat(first|(refine ov2663_ ?_;(try clear hs a);intro a hs)|((with_reducible apply lCons);first|(refine dv hs gw_ rfl rfl da_ ?_;(try clear hs hm a);rintro _ w_ ⟨g_,rfl,-,hm⟩ a hs)|(refine stn hs rfl rfl ds_ ?_;(try clear hs hm a);rintro-w_ hm a hs))|refine sc_ ?_|((with_reducible apply lCons);first|(refine dvc hs hm gw_ rfl rfl rfl rfl rfl (pl 111 rfl) (kbuf _) ?_;(try clear hs hm a);intro w_ hm a hs))));(first|(have m_:=hm;have s_:=hs;clear hs;(try clear hm);revert m_ s_ a)|((first|refine rexc_ hs hm ?_|refine rexl_ hs hm ?_|refine rexg_ hs hm ?_|refine rexq_ hs hm ?_);intro a hm hs;revert hm hs a));(try revert w_);(repeat revert g_);exact k_.h):G:=s ⟨k⟩
theorem MO.open_{S:Nat→Prop}{w0 w:World}{L:List Hp}{z:MO}{q:ThO}{t:Nat}(hm:Mm S w0 (L++z.hps) w)(hq:z.ts[t]?=some q):Mm S w0 (L++(q.hp::⟨z.tA,52,z.tcs⟩::⟨z.bA,3,z.bcs⟩::(z.m.hps++(z.ts.eraseIdx t).map ThO.hp))) w:=by
 refine hm.perm (List.Perm.append_left L ?_)
 have h1:(z.ts.map ThO.hp).Perm (q.hp::(z.ts.eraseIdx t).map ThO.hp):=(er_permG hq).map ThO.hp
 exact((List.Perm.append_left (⟨z.tA,52,z.tcs⟩::⟨z.bA,3,z.bcs⟩::z.m.hps) h1).trans List.perm_middle).symm
theorem MO.close_{S:Nat→Prop}{w0 w:World}{L:List Hp}{z:MO}{q:ThO}{t:Nat}{tcs:List Value}{m:MeO}(ht:t<z.ts.length)(hm:Mm S w0 (L++(q.hp::⟨z.tA,52,tcs⟩::⟨z.bA,3,z.bcs⟩::(m.hps++(z.ts.eraseIdx t).map ThO.hp))) w):Mm S w0 (L++(z.upd t q tcs m).hps) w:=by
 refine hm.perm (List.Perm.append_left L ?_)
 have h1:((z.ts.set t q).map ThO.hp).Perm (q.hp::(z.ts.eraseIdx t).map ThO.hp):=by
  have:=er_permG (l:=z.ts.set t q) (k:=t) (r:=q) (List.getElem?_set_self ht)
  rw[List.eraseIdx_set_eq]at this
  exact this.map ThO.hp
 exact((List.Perm.append_left (⟨z.tA,52,tcs⟩::⟨z.bA,3,z.bcs⟩::m.hps) h1).trans List.perm_middle)
theorem MO.upd_self{z:MO}{q:ThO}{t:Nat}(hq:z.ts[t]?=some q):z.upd t q z.tcs z.m=z:=by
 unfold MO.upd
 rw[set_self hq]
def canN(X:LS)(c:CV):CN:=⟨(canF X c.t c.v).1,(canF X c.t c.v).2.1,(canF X c.t c.v).2.2.1,(canF X c.t c.v).2.2.2⟩
theorem canN_val{X:LS}{w:World}(hx:X.ok w){c:CV}(hc:c.val):(canN X c).val∧(canN X c).t=c.t∧(c.t=0→(canN X c).v=c.v):=by
 obtain⟨t,v⟩:=c
 obtain⟨ht,hv⟩:=hc
 dsimp only at ht hv
 unfold canN canF
 dsimp only
 rcases ht with rfl|rfl|rfl
 ·rw[if_pos rfl]
  exact⟨⟨.inl rfl,hv,fun _=>⟨rfl,rfl⟩,fun e=>by cases e⟩,rfl,fun _=>rfl⟩
 ·rw[if_neg (by decide),if_neg (by decide)]
  cases hr:resF X.bs X.ss v X.n with
  |none=>exact⟨⟨.inr (.inr rfl),by dsimp only;omega,fun e=>absurd rfl e,fun _=>⟨rfl,by dsimp only;omega,by dsimp only;omega,by dsimp only;omega,by dsimp only;omega,fun e=>absurd rfl e⟩⟩,rfl,fun e=>by cases e⟩
  |some p=>
   obtain⟨r,o⟩:=p
   obtain⟨h1,h2,h3,h4⟩:=resF_at hr
   have hn:=hx.n
   have hsl:=hx.sl
   have hs:=hx.s _ (List.getElem_mem (show r<X.ss.length by omega))
   rw[getI (l:=X.ss) (k:=r) (by omega)]at h4
   dsimp only
   exact⟨⟨.inr (.inr rfl),by dsimp only;omega,fun e=>absurd rfl e,fun _=>⟨rfl,by dsimp only;omega,by dsimp only;omega,by dsimp only;omega,by dsimp only;omega,fun _=>by dsimp only;omega⟩⟩,rfl,fun e=>by cases e⟩
 ·rw[if_neg (by decide),if_pos rfl]
  have:=u16_bd (v-X.key)
  exact⟨⟨.inr (.inl rfl),this,fun _=>⟨rfl,rfl⟩,fun e=>by cases e⟩,rfl,fun e=>by cases e⟩
theorem cann_c(X:LS)(c:CV)(w:World)(hx:X.ok w)(hc:c.val):Ret Tryz.prog 55 [X.l,X.s,.agg #[.int .u8 c.t,.int .u16 c.v]] w (fun u w'=>u= .agg #[.int .u8 (canN X c).t,.int .u16 (canN X c).v,.int .i64 (canN X c).r,.int .i64 (canN X c).o]∧Pu w w'):=can_c X c.t c.v w hx hc.1 (fun _=>hc.2)
theorem MO.m_val [HB]{y:MO}{ss:List Int}{B:Int}(hv:y.d.val ss B):y.m.val:=⟨hv.n,by have:=hv.l;unfold MO.d at this;dsimp only at this;rwa[List.length_map]at this,hv.cv,fun i hi=>by
 have:=hv.ll i (by unfold MO.d;dsimp only;rw[List.length_map];exact hi)
 unfold MO.d at this
 dsimp only at this
 rwa[List.getElem_map]at this⟩
theorem lookz_c [HB](z:MO)(ss:List Int)(B:Int)(a:Nat)(w:World)(ho:z.mv.ok w)(hv:z.d.val ss B)(had:a<512):Ret Tryz.prog 94 [.agg #[slv z.m.cA z.m.xs.length z.m.cc,slv z.m.lA z.m.ls.length z.m.lc],.int .i64 (a:Int)] w (fun u w'=>∃c:CV,u= .agg #[.int .u8 c.t,.int .u16 c.v]∧c.val∧Pu w w'):=by
 have hmv:=MO.m_val hv
 have h:=look_c (ad z.m.cA) z.m.cc z.m.xs (ad z.m.lA) z.m.lc (z.m.ls.map LnO.lv) a w ho.c ho.l ho.ll hmv.n (by rw[List.length_map];exact hmv.l) hmv.cv (fun i hi=>by rw[List.getElem_map];exact hmv.ll i (by rwa[List.length_map]at hi)) had
 rw[List.length_map]at h
 exact h
structure TkX where
 al:List CN
 A:Option Nat
 c:Nat
 cs:List Value
theorem take_c [HB](p:PV)(x:MV)(B:Int)(t:Nat)(n:Int)(q0:ThD)(wB:World)(hp:p.ok wB)(hpv:p.val)(hx:x.ok wB)(h:x.d.val p.ss B)(hcap:x.bs.length≤x.bc)(hB:B≤1000000000)(ht:t<4)(hn:1≤n∧n≤64)(hq0:x.d.ts[t]?=some q0) (hst:q0.st=1):
  Ret Tryz.prog 91 [p.v,x.v,.int .i64 (t:Int),.int .i64 n] wB (fun u w'=>∃(z:MO)(r:RqV)(R:List Hp),u= .tuple #[z.v,r.v,.int .i64 0]∧z.ok∧z.d.val p.ss (B+20000)∧(∀(S:Nat→Prop)(w0 w:World)(M:List Hp),Mm S w0 M w→(∀h∈R,h∈M)→r.ok w)∧r.val∧(r.stop=1→r.kin)∧r.th=(t:Int)∧(∀b o n,r.a.A=some ⟨b,o,n⟩∨r.d.A=some ⟨b,o,n⟩→own R b)∧New wB w' (R++z.hps)∧Pu wB w'):=by
 have k1:=fun w'' (hf:Pu wB w'')=>slc_c p x B t n q0 w'' (hp.pu hf) hpv (hx.pu hf) h hcap hB ht hn hq0 hst
 have hpe:p.v= .agg #[.slice p.cA p.code.length p.cc,.slice p.sA p.ss.length p.sc,.slice p.dA p.ws.length p.dc]:=rfl
 have hxe:x.v= .agg #[.slice x.bA x.bs.length x.bc,.int .u16 x.key,.slice x.cA x.xs.length x.cc,.slice x.lA x.ls.length x.lc,.slice x.tA x.ts.length x.tc]:=rfl
 rw[hpe,hxe]at*
 refine enterR Tryz.func91 rfl rfl rfl fun a hs hm=>?_
 refine gs3375_ ?_;clear hs hm a;intros;rename_i a hm hs
 obtain⟨g4,rfl⟩:=hs.pp 4
 obtain⟨g5,rfl⟩:=hs.pp 5
 obtain⟨g8,rfl⟩:=hs.pp 8
 obtain⟨g9,rfl⟩:=hs.pp 9
 refine st hs rfl rfl rfl (d_call hs rfl rfl rfl (pl 107 rfl) ((k1 _ hm.fr))) ?_;clear hs a;rintro _ w1 ⟨z,s,q,rfl,zo,zv,hq,hs3,hs1,hN,hf⟩ a hs
 replace hm:=gainE hm hf hN
 clear hN hf k1
 obtain⟨qz,hqz,hqzd⟩:=MO.d_th hq
 have hzl:z.ts.length=4:=by have:=zv.t;rwa[MO.d_len]at this
 have htz:t<z.ts.length:=by omega
 have hzt:=zo.t
 rw[hzl]at hzt
 obtain⟨gt,hgt⟩:=hzt.some_ (by omega)
 have hqv:=zv.tt q (List.mem_of_getElem? hq)
 have hqo:Row qz.A qz.d.xs.length qz.c 2 (cvs qz.d.xs) qz.cs:=zo.tt qz (List.mem_of_getElem? hqz)
 rw[hqzd]at hqo
 have hqn:=hqv.n
 have hqo':=hqo
 rw[hqn]at hqo
 obtain⟨gq,hgq⟩:=hqo.some_ (by omega)
 have hget:∀j,j<8→(z.ts.flatMap ThO.v)[t*8+j]?=(ThO.v qz)[j]?:=fun j hj=>by rw[flat_get ThO.v 8 ThO.len z.ts t j htz hj,(List.getElem?_eq_some_iff.1 hqz).2]
 have hqzv:qz.v=[.int .i64 q.st,slv (some gq) 8 qz.c,.int .i64 q.pc,.int .i64 q.cnt,.int .i64 q.han,.int .i64 q.sav,.int .i64 q.trp,.int .u16 q.cod]:=by unfold ThO.v;rw[hqzd,hgq,hqn]
 have hcut:cutF z.tcs (t*8) 8=some [.int .i64 q.st,slv (some gq) 8 qz.c,.int .i64 q.pc,.int .i64 q.cnt,.int .i64 q.han,.int .i64 q.sav,.int .i64 q.trp,.int .u16 q.cod]:=by
  have hl:=hzt.len
  have hle:=hzt.le
  refine cutF_of z.tcs (t*8) [.int .i64 q.st,slv (some gq) 8 qz.c,.int .i64 q.pc,.int .i64 q.cnt,.int .i64 q.han,.int .i64 q.sav,.int .i64 q.trp,.int .u16 q.cod] (by show t*8+8≤_;omega) (fun j v hj=>?_)
  have hj8:j<8:=(List.getElem?_eq_some_iff.1 hj).1
  exact hzt.get (by rw[hget j hj8,hqzv];exact hj)
 replace hm:=MO.open_ hm hqz
 have hmv:∀{S:Nat→Prop}{w:World},Mm S wB (qz.hp::⟨z.tA,52,z.tcs⟩::⟨z.bA,3,z.bcs⟩::(z.m.hps++(z.ts.eraseIdx t).map ThO.hp)) w→z.mv.ok w:=fun hm=>by
  have:=MO.close_ (L:=[]) (m:=z.m) htz hm
  rw[MO.upd_self hqz]at this
  exact MO.mv_ok this (fun x hx=>hx) zo
 have hqzh:qz.hp=⟨some gq,103,qz.cs⟩:=by unfold ThO.hp;rw[hgq]
 have hmc:∀{S:Nat→Prop}{w:World}{L:List Hp},Mm S wB (L++(⟨some gq,103,qz.cs⟩::⟨some gt,52,z.tcs⟩::⟨z.bA,3,z.bcs⟩::(z.m.hps++(z.ts.eraseIdx t).map ThO.hp))) w→Mm S wB (L++z.hps) w:=fun{S w L} hm=>by
  rw[←hqzh,←hgt]at hm
  have:=MO.close_ (m:=z.m) htz hm
  rwa[MO.upd_self hqz]at this
 rw[hqzh,hgt]at hm hmv
 have hmu:∀{S:Nat→Prop}{w:World}{L:List Hp}{q':ThO}{tcs':List Value},Mm S wB (L++(q'.hp::⟨some gt,52,tcs'⟩::⟨z.bA,3,z.bcs⟩::(z.m.hps++(z.ts.eraseIdx t).map ThO.hp))) w→Mm S wB (L++(z.upd t q' tcs' z.m).hps) w:=fun{S w L q' tcs'} hm=>by
  rw[←hgt]at hm
  exact MO.close_ htz hm
 generalize hR:(⟨z.bA,3,z.bcs⟩:Hp)::(z.m.hps++(z.ts.eraseIdx t).map ThO.hp)=R at hm hmv hmc hmu
 unfold MO.v at hs
 rw[hgt,hzl]at hs
 have zv':z.mv.d.val p.ss (B+20000):=by rw[MO.mv_d];exact zv
 have hzvs:z.vs=(z.cl [slv (some gt) 4 z.tc]):=by unfold MO.vs;rw[hgt,hzl]
 have hpc:=hqv.pc
 have hcnt:=hqv.cnt
 have htrp:=hqv.trp
 simp only[List.cons_append,List.nil_append]at hm
 have hend0:∀(s tr:Int)(w':World),s=0∨s=2→0≤tr∧tr≤6→New wB w' z.hps→Pu wB w'→∃(z':MO)(r:RqV)(R:List Hp),Value.tuple #[.agg #[slv z.bA z.bs.length z.bc,.int .u16 z.key,slv z.m.cA z.m.xs.length z.m.cc,slv z.m.lA z.m.ls.length z.m.lc,slv (some gt) 4 z.tc],.agg #[.int .i64 (t:Int),.int .i64 s,.int .i64 tr,.int .i64 q.cnt,.int .i64 q.pc,.int .i64 0,nS,nS],.int .i64 0]= .tuple #[z'.v,r.v,.int .i64 0]∧z'.ok∧z'.d.val p.ss (B+20000)∧(∀(S:Nat→Prop)(w0 w:World)(M:List Hp),Mm S w0 M w→(∀h∈R,h∈M)→r.ok w)∧r.val∧(r.stop=1→r.kin)∧r.th=(t:Int)∧(∀b o n,r.a.A=some ⟨b,o,n⟩∨r.d.A=some ⟨b,o,n⟩→own R b)∧New wB w' (R++z'.hps)∧Pu wB w':=
  fun s tr w' hs htr h1 h2=>⟨z,⟨t,s,tr,q.cnt,q.pc,0,⟨none,0,[]⟩,⟨none,0,[]⟩⟩,[],by rw[MO.v_vs,hzvs];rfl,zo,zv,fun _ _ _ _ _ _=>⟨fun h=>(by cases h),fun h=>(by cases h)⟩,⟨by dsimp only;omega,by dsimp only;omega,htr,by dsimp only;omega,hpc,by dsimp only;omega,by dsimp only;exact Nat.zero_le _,by dsimp only;exact Nat.zero_le _,fun c hc=>(by cases hc),fun c hc=>(by cases hc)⟩,fun e=>absurd (show s=1 from e) (by omega),rfl,(fun b o n h=>by rcases h with h|h<;>cases h),h1,h2⟩
 rcases hs3 with rfl|rfl|rfl
 ·refine gs3375_ ?_;clear hs hm a;intros;rename_i a hm hs
  obtain⟨g11,rfl⟩:=hs.pp 11
  obtain⟨g15,rfl⟩:=hs.pp 15
  refine cDrawT (n:=5) (.s [0,1]<| .o 2<| .o 3<| .t 4<| .d) [⟨some g15,173,[.int .i64 (t:Int),.int .i64 0,.int .i64 0,.int .i64 q.cnt,.int .i64 q.pc,.int .i64 0,nS,nS]⟩,⟨some g11,32,(z.cl [slv (some gt) 4 z.tc])⟩] hm rfl rfl ?_
  clear hm;intro t_ w1_ hm
  repeat' (first|(refine dgd799_ ?_;clear t_ hs hm a;intros;rename_i a hm hs t_)|refine tE t_ ?_|refine tC ?_ ?_|exact tN|intro t_|(refine tD t_ ?_;(refine gs3375_ ?_;clear hs hm a;intros;rename_i a hm hs);(refine gRetN tab hs rfl (.cons (.cells rfl rfl rfl rfl (hm.ro (k:=0) (n:=5) (g:=g8) mem_ (cutF_ok rfl))) (.cons (.cells rfl rfl rfl rfl (hm.ro (k:=0) (n:=8) (g:=g9) mem_ (cutF_ok rfl))) (.cons (.tmp rfl) .nil))) ?_);(exact hend0 0 0 _ (.inl rfl) (by omega) ((hmc (L:=[]) (hm.sub sub_)).new (List.Sublist.refl _)) hm.fr))|fail)
 ·obtain⟨s1,s2,i,s3,s4⟩:=hs1 rfl
  have kchk:=fun(w'':World) (hf:Pu wB w'') (ho:z.mv.ok w'')=>rchk_c p z.mv (B+20000) t q i w'' (hp.pu hf) hpv ho zv' ht (by rw[MO.mv_d];exact hq) s1 s3 s4
  rw[MO.mv_v,MO.v_vs,hzvs]at kchk
  refine gs3375_ ?_;clear hs hm a;intros;rename_i a hm hs
  refine st hs rfl rfl rfl (d_call hs rfl rfl rfl (pl 108 rfl) ((kchk _ hm.fr (hmv (hm.sub sub_))))) ?_;clear hs a;rintro _ w1 ⟨why,rfl,hw,hok,hf⟩ a hs
  replace hm:=hm.pu hf
  clear hf kchk
  by_cases he:why=0
  ·subst he
   replace hok:=hok rfl
   obtain⟨pk,hpk⟩:∃k:Nat,q.pc-1=(k:Int):=⟨(q.pc-1).toNat,by omega⟩
   rw[hpk,Int.toNat_natCast]at s3
   have hpl:=(List.getElem?_eq_some_iff.1 s3).1
   obtain⟨bc,oc,hbc,hbc2,rc⟩:=hp.c.ro (by rw[flat_len inV 5 inV_len];omega)
   have rc1:=rc.flat inV_len hpl
   rw[(List.getElem?_eq_some_iff.1 s3).2]at rc1
   unfold inV at rc1
   rw[hbc]at hs hm
   have hiv:=hpv.inv i (List.mem_of_getElem? s3)
   have hsy:=hiv.sys s4
   have hm0:=hiv.m
   have karg:=fun w''=>arg_c i.m w'' ⟨by omega,by omega⟩
   have kbuf:=fun w''=>buf_c i.m w'' ⟨by omega,by omega⟩
   have hkl:=kndF_len i.m
   have hX0:=fun(w'':World) (hf:Pu wB w'') (ho:z.mv.ok w'')=>lsX_ok (p:=p) (B:=B+20000) (hp.pu hf) hpv ho zv'
   have hcv:=fun(c:CV) (hc:c.val)=>canN_val (hX0 _ hm.fr (hmv (hm.sub sub_))) hc
   have kcan:∀(w'':World)(c:CV),Pu wB w''→z.mv.ok w''→c.val→Ret Tryz.prog 55 [.agg #[slv z.bA z.bs.length z.bc,.int .u16 z.key],.slice p.sA p.ss.length p.sc,.agg #[.int .u8 c.t,.int .u16 c.v]] w'' (fun u w'=>u= .agg #[.int .u8 (canN (lsX p z.mv) c).t,.int .u16 (canN (lsX p z.mv) c).v,.int .i64 (canN (lsX p z.mv) c).r,.int .i64 (canN (lsX p z.mv) c).o]∧Pu w'' w'):=fun w'' c hf ho hc=>by
    have h:=cann_c (lsX p z.mv) c w'' (hX0 w'' hf ho) hc
    rw[lsX_l zv']at h
    exact h
   have klok:=fun(w'':World) (hf:Pu wB w'') (ho:z.mv.ok w'') (ad:Nat) (had:ad<512)=>lookz_c z p.ss (B+20000) ad w'' ho zv had
   generalize hXg:lsX p z.mv=X0 at*
   have hend1:∀(A:Option Nat)(c:Nat)(acs:List Value)(al:List CN)(D:Option Nat)(d:Nat)(dcs:List Value)(dl:List CN)(w':World),al=(q.xs.take (kndF i.m).length).map (canN X0)→dl.length≤16→(∀c∈dl,c.val)→Row A al.length c 4 (cns al) acs→Row D dl.length d 4 (cns dl) dcs→New wB w' (⟨D,95,dcs⟩::⟨A,95,acs⟩::z.hps)→Pu wB w'→∃(z':MO)(r:RqV)(R:List Hp),Value.tuple #[.agg #[slv z.bA z.bs.length z.bc,.int .u16 z.key,slv z.m.cA z.m.xs.length z.m.cc,slv z.m.lA z.m.ls.length z.m.lc,slv (some gt) 4 z.tc],.agg #[.int .i64 (t:Int),.int .i64 1,.int .i64 0,.int .i64 q.cnt,.int .i64 q.pc,.int .i64 i.m,slv A al.length c,slv D dl.length d],.int .i64 0]= .tuple #[z'.v,r.v,.int .i64 0]∧z'.ok∧z'.d.val p.ss (B+20000)∧(∀(S:Nat→Prop)(w0 w:World)(M:List Hp),Mm S w0 M w→(∀h∈R,h∈M)→r.ok w)∧r.val∧(r.stop=1→r.kin)∧r.th=(t:Int)∧(∀b o n,r.a.A=some ⟨b,o,n⟩∨r.d.A=some ⟨b,o,n⟩→own R b)∧New wB w' (R++z'.hps)∧Pu wB w':=by
    intro A c acs al D d dcs dl w' h1 h2 h3 h4 h5 h6 h7
    have hal:al.length=(kndF i.m).length:=by rw[h1,List.length_map,List.length_take];omega
    have hat:∀j (h:j<al.length),∃(h':j<q.xs.length),al[j]=canN X0 q.xs[j]:=fun j h=>⟨by omega,by subst h1;rw[List.getElem_map,List.getElem_take]⟩
    refine⟨z,⟨t,1,0,q.cnt,q.pc,i.m,⟨ad A,c,al⟩,⟨ad D,d,dl⟩⟩,[⟨D,95,dcs⟩,⟨A,95,acs⟩],by rw[MO.v_vs,hzvs];rfl,zo,zv,fun S w0 w M hm hM=>⟨hm.rd_row (hM _ (List.mem_cons_of_mem _ (List.mem_cons_self ..))) h4,hm.rd_row (hM _ (List.mem_cons_self ..)) h5⟩,⟨by dsimp only;omega,by dsimp only;omega,by dsimp only;omega,by dsimp only;omega,hpc,by dsimp only;omega,by dsimp only;omega,h2,fun x hx=>?_,h3⟩,fun _=>⟨hal,fun j hj hj'=>?_,fun hb x hx=>?_,fun hb x hx=>?_⟩,rfl,(fun b o n h=>by
     rcases h with h|h
     ·cases A with
      |none=>cases h
      |some g=>
       obtain rfl:g=b:=by unfold ad at h;simp at h;exact h.1
       exact⟨_,List.mem_cons_of_mem _ (List.mem_cons_self ..),rfl⟩
     ·cases D with
      |none=>cases h
      |some g=>
       obtain rfl:g=b:=by unfold ad at h;simp at h;exact h.1
       exact⟨_,List.mem_cons_self ..,rfl⟩),h6,h7⟩
    ·dsimp only at hx
     rw[h1]at hx
     obtain⟨y,hy,rfl⟩:=List.mem_map.1 hx
     exact(hcv y (hqv.cv y (List.mem_of_mem_take hy))).1
    ·obtain⟨h',e⟩:=hat j hj
     dsimp only
     rw[e,(hcv _ (hqv.cv _ (List.getElem_mem h'))).2.1]
     exact hok.k j hj' h'
    ·dsimp only at hb hx
     obtain⟨hl2,hx⟩:=List.getElem?_eq_some_iff.1 hx
     obtain⟨h',e⟩:=hat 2 hl2
     have hk2:=hok.k 2 (by omega) h'
     have h78:(kndF i.m)[2]'(by omega)=78:=by
      have:i.m=2∨i.m=14:=by unfold bufF at hb;split at hb;(· omega);split at hb;(· omega);split at hb;(· exact .inl (by assumption));split at hb;(· exact .inr (by assumption));omega
      rcases this with e|e<;>(simp only[e];rfl)
     rw[h78]at hk2
     have ht0:(q.xs[2]).t=0:=by simpa[fitB]using hk2
     rw[←hx,e,(hcv _ (hqv.cv _ (List.getElem_mem h'))).2.2 ht0]
     exact(hok.b (by omega) (q.xs[1]'(by omega)) q.xs[2] (List.getElem?_eq_getElem _) (List.getElem?_eq_getElem _)).1
    ·dsimp only at hb hx
     obtain⟨hl2,hx⟩:=List.getElem?_eq_some_iff.1 hx
     obtain⟨h',e⟩:=hat 0 hl2
     have hk2:=hok.k 0 (by omega) h'
     have h78:(kndF i.m)[0]'(by omega)=78:=by simp only[hb];rfl
     rw[h78]at hk2
     have ht0:(q.xs[0]).t=0:=by simpa[fitB]using hk2
     rw[←hx,e,(hcv _ (hqv.cv _ (List.getElem_mem h'))).2.2 ht0]
     exact hok.h hb _ (List.getElem?_eq_getElem _)
   repeat(first|(refine gpSgs0_ ?_;clear hs hm a;intros;rename_i a hm hs)|refine sc_ ?_|((with_reducible apply lCons);first|(refine dvc hs hm gw_ rfl rfl rfl rfl rfl (pl 110 rfl) (karg _) ?_;clear hs hm a;intro w hm a hs)))
   obtain⟨g11,rfl⟩:=hs.pp 11
   obtain⟨g14,rfl⟩:=hs.pp 14
   obtain⟨g15,rfl⟩:=hs.pp 15
   replace hm:=((hm.zero 95).sub (List.Sublist.cons_cons _ (List.Sublist.cons_cons _ (List.Sublist.cons_cons _ (List.Sublist.cons_cons _ (List.Sublist.cons_cons _ (List.Sublist.cons_cons _ (List.Sublist.cons _ (List.Sublist.refl _)))))))))
   refine cLoop (X:=TkX) (fun X a w'=>X.al.length≤(kndF i.m).length∧X.al=(q.xs.take X.al.length).map (canN X0)∧Row X.A X.al.length X.c 4 (cns X.al) X.cs∧Sl Tryz.f91.ntmps [(2,.int .i64 (t:Int)),(4,pt g4),(8,pt g8),(9,pt g9),(11,pt g11),(14,pt g14),(15,pt g15),(80,.int .i64 ((kndF i.m).length:Int)),(81,.int .i64 (X.al.length:Int))] a∧Mm (fun _=>False) wB (⟨X.A,95,X.cs⟩::⟨some g15,173,[.int .i64 (t:Int),.int .i64 1,.int .i64 0,.int .i64 q.cnt,.int .i64 q.pc,.int .i64 i.m,slv X.A X.al.length X.c,nS]⟩::⟨some g14,52,[.int .i64 q.st,slv (some gq) 8 qz.c,.int .i64 q.pc,.int .i64 q.cnt,.int .i64 q.han,.int .i64 q.sav,.int .i64 q.trp,.int .u16 q.cod]⟩::⟨some g11,32,(z.cl [slv (some gt) 4 z.tc])⟩::⟨some g9,173,[.int .i64 0,.int .i64 0,.int .i64 0,.int .i64 0,.int .i64 0,.int .i64 0,nS,nS]⟩::⟨some g8,32,[nS,.int .u16 0,nS,nS,nS]⟩::⟨some g4,38,[.slice (some ⟨bc,oc,none⟩) p.code.length p.cc,.slice p.sA p.ss.length p.sc,.slice p.dA p.ws.length p.dc]⟩::⟨some gq,103,qz.cs⟩::⟨some gt,52,z.tcs⟩::R) w') (fun X=>(kndF i.m).length-X.al.length) ⟨[],none,0,[]⟩ ⟨Nat.zero_le _,rfl,Row.empty 4,(sb_ hs),hm⟩ ?_
   clear hs hm a
   rintro⟨al,A,c,cs⟩ a w' ⟨hl1,hl2,hlr,hs,hm⟩
   dsimp only at hl1 hl2 hlr hs hm
   by_cases hlt:al.length<(kndF i.m).length
   ·have hkx:al.length<q.xs.length:=by omega
    have hcut1:=reg_cut hqo' hkx
    have hcx:=hqv.cv _ (List.getElem_mem hkx)
    have hsn:al++[canN X0 q.xs[al.length]]=(q.xs.take (al.length+1)).map (canN X0):=by
     rw[List.take_succ_eq_append_getElem hkx,List.map_append,←hl2]
     rfl
    generalize q.xs[al.length]=cx at hcut1 hcx hsn
    refine gs3375_ ?_;clear hs hm a;intros;rename_i a hm hs
    refine cMid (fun a w=>∃(A':Option Nat)(c':Nat)(cs':List Value),Row A' (al.length+1) c' 4 (cns (al++[canN X0 cx])) cs'∧Sl Tryz.f91.ntmps [(2,.int .i64 (t:Int)),(4,pt g4),(8,pt g8),(9,pt g9),(11,pt g11),(14,pt g14),(15,pt g15),(80,.int .i64 ((kndF i.m).length:Int)),(81,.int .i64 (al.length:Int))] a∧Mm (fun _=>False) wB (⟨A',95,cs'⟩::⟨some g15,173,[.int .i64 (t:Int),.int .i64 1,.int .i64 0,.int .i64 q.cnt,.int .i64 q.pc,.int .i64 i.m,slv A' (al.length+1) c',nS]⟩::⟨some g14,52,[.int .i64 q.st,slv (some gq) 8 qz.c,.int .i64 q.pc,.int .i64 q.cnt,.int .i64 q.han,.int .i64 q.sav,.int .i64 q.trp,.int .u16 q.cod]⟩::⟨some g11,32,(z.cl [slv (some gt) 4 z.tc])⟩::⟨some g9,173,[.int .i64 0,.int .i64 0,.int .i64 0,.int .i64 0,.int .i64 0,.int .i64 0,nS,nS]⟩::⟨some g8,32,[nS,.int .u16 0,nS,nS,nS]⟩::⟨some g4,38,[.slice (some ⟨bc,oc,none⟩) p.code.length p.cc,.slice p.sA p.ss.length p.sc,.slice p.dA p.ws.length p.dc]⟩::⟨some gq,103,qz.cs⟩::⟨some gt,52,z.tcs⟩::R) w) ?_ ?_
    ·with_reducible repeat(first|apply gThen|apply wp_seq)
     refine cDrawTB (n:=16) (.s [0,1,2,3,4,5,6,7,8,9,10]<| .o 11<| .x<| .o 12<| .o 13<| .x<| .t 14<| .o 15<| .d) 15 [⟨some g15,173,[.int .i64 (t:Int),.int .i64 1,.int .i64 0,.int .i64 q.cnt,.int .i64 q.pc,.int .i64 i.m,slv A al.length c,nS]⟩,⟨some g14,52,[.int .i64 q.st,slv (some gq) 8 qz.c,.int .i64 q.pc,.int .i64 q.cnt,.int .i64 q.han,.int .i64 q.sav,.int .i64 q.trp,.int .u16 q.cod]⟩,⟨some g11,32,(z.cl [slv (some gt) 4 z.tc])⟩,⟨some g4,38,[.slice (some ⟨bc,oc,none⟩) p.code.length p.cc,.slice p.sA p.ss.length p.sc,.slice p.dA p.ws.length p.dc]⟩,⟨some gq,103,qz.cs⟩] hm rfl rfl ?_
     clear hm;intro t_ w1_ hm
     repeat' (first|(refine dg95fa_ ?_;clear t_ hs hm a;intros;rename_i a hm hs t_)|refine tEB t_ ?_|refine tCB ?_ ?_|exact tNB|intro t_|(refine oDoB (i:=11) hs rfl (Wnt.none rfl) rfl rfl (by exact d_call hs rfl rfl rfl (pl 55 rfl) ((kcan _ cx hm.fr (hmv (hm.sub sub_)) hcx))) ?_;clear hs;rintro _ w1 ⟨rfl,hf⟩ a hs;(replace hm:=hm.pu hf);(clear hf);replace t_:=tX t_;refine⟨bu_,?_⟩)|(refine oDoB (i:=13) hs rfl (Wnt.none rfl) rfl rfl (by exact d_append (A:=A) (n:=al.length) (c:=c) (news:=(canN X0 cx).cs) hs rfl rfl rfl rfl rfl tab rfl rfl rfl rfl rfl hm mem_ hlr rfl (hm.ro (n:=4) mem_ (cutF_ok rfl)) rfl (by show(al.length+1)*24≤_;omega) (by omega)) ?_;clear hs;rintro _ w1 ⟨A',c',cs',rfl,hr',hM⟩ a hs;(replace hm:=hM _ rep_);(clear hM);replace t_:=tX t_;refine⟨bu_,?_⟩)|(refine tDB t_ ?_;(rw[show cns al++(canN X0 cx).cs=cns (al++[canN X0 cx]) by unfold cns;rw[List.flatMap_append,List.flatMap_singleton]]at hr');(exact And.intro rfl ⟨A',c',cs',hr',(sb_ hs),hm.sub sub_⟩))|fail)
    clear hs hm a hlr
    rintro a w ⟨A',c',cs',hr',hs,hm⟩
    refine gs3375_ ?_;clear hs hm a;intros;rename_i a hm hs
    exact⟨⟨al++[canN X0 cx],A',c',cs'⟩,by dsimp only;rw[List.length_append,List.length_singleton];omega,by dsimp only;rw[List.length_append,List.length_singleton];exact⟨hlt,hsn,hr',(sb_ hs),hm⟩⟩
   ·have hln:al.length=(kndF i.m).length:=by omega
    rw[hln]at hl2
    by_cases hb1:bufF i.m=1
    ·rw[hb1]at kbuf
     obtain⟨cx,hcx⟩:∃c,q.xs[1]?=some c:=⟨_,List.getElem?_eq_getElem (by omega)⟩
     obtain⟨cy,hcy⟩:∃c,q.xs[2]?=some c:=⟨_,List.getElem?_eq_getElem (by omega)⟩
     obtain⟨hb2,hb3⟩:=hok.b (by omega) cx cy hcx hcy
     have hxv:=hqv.cv cx (List.mem_of_getElem? hcx)
     have hyv:=hqv.cv cy (List.mem_of_getElem? hcy)
     have ex:qz.cs[3]?=some (.int .u16 cx.v):=hqo'.get (by rw[show(3:Nat)=1*2+1 from rfl];unfold cvs;rw[flat_get CV.cs 2 CV.cs_len q.xs 1 1 (by omega) (by omega),(List.getElem?_eq_some_iff.1 hcx).2];rfl)
     have ey:qz.cs[5]?=some (.int .u16 cy.v):=hqo'.get (by rw[show(5:Nat)=2*2+1 from rfl];unfold cvs;rw[flat_get CV.cs 2 CV.cs_len q.xs 2 1 (by omega) (by omega),(List.getElem?_eq_some_iff.1 hcy).2];rfl)
     obtain⟨nv,hnv⟩:∃k:Nat,cy.v=(k:Int):=⟨cy.v.toNat,by have:=hyv.2.1;omega⟩
     obtain⟨xv,hxv2⟩:∃k:Nat,cx.v=(k:Int):=⟨cx.v.toNat,by have:=hxv.2.1;omega⟩
     rw[hnv]at hb2 hb3 ey
     rw[hxv2]at hb3 ex
     replace hm:=hm.zero 95
     refine gcSgs1_ ?_;clear hs hm a;intros;rename_i a hm hs
     rw[show IntKind.i64.wrap (nv:Int)=(nv:Int)from wrap_idP (by omega)]at hs
     replace hm:=hm.sub (List.Sublist.refl _)
     refine cLoop (X:=TkX) (fun X a w'=>X.al.length≤nv∧(∀c∈X.al,c.val)∧Row X.A X.al.length X.c 4 (cns X.al) X.cs∧Sl Tryz.f91.ntmps [(2,.int .i64 (t:Int)),(4,pt g4),(8,pt g8),(9,pt g9),(11,pt g11),(14,pt g14),(15,pt g15),(109,.int .i64 (nv:Int)),(110,.int .i64 (X.al.length:Int))] a∧Mm (fun _=>False) wB (⟨X.A,95,X.cs⟩::⟨A,95,cs⟩::⟨some g15,173,[.int .i64 (t:Int),.int .i64 1,.int .i64 0,.int .i64 q.cnt,.int .i64 q.pc,.int .i64 i.m,slv A al.length c,slv X.A X.al.length X.c]⟩::⟨some g14,52,[.int .i64 q.st,slv (some gq) 8 qz.c,.int .i64 q.pc,.int .i64 q.cnt,.int .i64 q.han,.int .i64 q.sav,.int .i64 q.trp,.int .u16 q.cod]⟩::⟨some g11,32,(z.cl [slv (some gt) 4 z.tc])⟩::⟨some g9,173,[.int .i64 0,.int .i64 0,.int .i64 0,.int .i64 0,.int .i64 0,.int .i64 0,nS,nS]⟩::⟨some g8,32,[nS,.int .u16 0,nS,nS,nS]⟩::⟨some g4,38,[.slice (some ⟨bc,oc,none⟩) p.code.length p.cc,.slice p.sA p.ss.length p.sc,.slice p.dA p.ws.length p.dc]⟩::⟨some gq,103,qz.cs⟩::⟨some gt,52,z.tcs⟩::R) w') (fun X=>nv-X.al.length) ⟨[],none,0,[]⟩ ⟨Nat.zero_le _,(fun c hc=>by cases hc),Row.empty 4,(sb_ hs),hm⟩ ?_
     clear hs hm a
     rintro⟨dl,D,d,dcs⟩ a w' ⟨hd1,hd2,hdr,hs,hm⟩
     dsimp only at hd1 hd2 hdr hs hm
     by_cases hdt:dl.length<nv
     ·have haddr:IntKind.i64.wrap (xv:Int)+(dl.length:Int)=((xv+dl.length:Nat):Int):=by rw[show IntKind.i64.wrap (xv:Int)=(xv:Int)from wrap_idP (by omega)];omega
      refine gs3375_ ?_;clear hs hm a;intros;rename_i a hm hs
      refine cMid (fun a w=>∃(cz:CN)(D':Option Nat)(d':Nat)(dcs':List Value),cz.val∧Row D' (dl.length+1) d' 4 (cns (dl++[cz])) dcs'∧Sl Tryz.f91.ntmps [(2,.int .i64 (t:Int)),(4,pt g4),(8,pt g8),(9,pt g9),(11,pt g11),(14,pt g14),(15,pt g15),(109,.int .i64 (nv:Int)),(110,.int .i64 (dl.length:Int))] a∧Mm (fun _=>False) wB (⟨D',95,dcs'⟩::⟨A,95,cs⟩::⟨some g15,173,[.int .i64 (t:Int),.int .i64 1,.int .i64 0,.int .i64 q.cnt,.int .i64 q.pc,.int .i64 i.m,slv A al.length c,slv D' (dl.length+1) d']⟩::⟨some g14,52,[.int .i64 q.st,slv (some gq) 8 qz.c,.int .i64 q.pc,.int .i64 q.cnt,.int .i64 q.han,.int .i64 q.sav,.int .i64 q.trp,.int .u16 q.cod]⟩::⟨some g11,32,(z.cl [slv (some gt) 4 z.tc])⟩::⟨some g9,173,[.int .i64 0,.int .i64 0,.int .i64 0,.int .i64 0,.int .i64 0,.int .i64 0,nS,nS]⟩::⟨some g8,32,[nS,.int .u16 0,nS,nS,nS]⟩::⟨some g4,38,[.slice (some ⟨bc,oc,none⟩) p.code.length p.cc,.slice p.sA p.ss.length p.sc,.slice p.dA p.ws.length p.dc]⟩::⟨some gq,103,qz.cs⟩::⟨some gt,52,z.tcs⟩::R) w) ?_ ?_
      ·with_reducible repeat(first|apply gThen|apply wp_seq)
       refine cDrawTB (n:=22) (.s [0,1,2,3,4,5,6,7,8,9,10,11,12,13,14,15]<| .o 16<| .x<| .o 17<| .x<| .o 18<| .o 19<| .x<| .t 20<| .o 21<| .d) 21 [⟨some g15,173,[.int .i64 (t:Int),.int .i64 1,.int .i64 0,.int .i64 q.cnt,.int .i64 q.pc,.int .i64 i.m,slv A al.length c,slv D dl.length d]⟩,⟨some g14,52,[.int .i64 q.st,slv (some gq) 8 qz.c,.int .i64 q.pc,.int .i64 q.cnt,.int .i64 q.han,.int .i64 q.sav,.int .i64 q.trp,.int .u16 q.cod]⟩,⟨some g11,32,(z.cl [slv (some gt) 4 z.tc])⟩,⟨some g4,38,[.slice (some ⟨bc,oc,none⟩) p.code.length p.cc,.slice p.sA p.ss.length p.sc,.slice p.dA p.ws.length p.dc]⟩,⟨some gq,103,qz.cs⟩] hm rfl rfl ?_
       clear hm;intro t_ w1_ hm
       repeat' (first|(refine dg95fa_ ?_;clear t_ hs hm a;intros;rename_i a hm hs t_)|refine tEB t_ ?_|refine tCB ?_ ?_|exact tNB|intro t_|(refine oDoB (i:=16) hs rfl (Wnt.none rfl) rfl rfl (by exact d_call hs rfl rfl rfl (pl 94 rfl) ((klok _ hm.fr (hmv (hm.sub sub_)) (xv+dl.length) (by omega)))) ?_;clear hs;rintro _ w1 ⟨cz,rfl,hcz,hf⟩ a hs;(replace hm:=hm.pu hf);(clear hf);replace t_:=tX t_;refine⟨bu_,?_⟩)|(refine oDoB (i:=17) hs rfl (Wnt.none rfl) rfl rfl (by exact d_call hs rfl rfl rfl (pl 55 rfl) ((kcan _ cz hm.fr (hmv (hm.sub sub_)) hcz))) ?_;clear hs;rintro _ w1 ⟨rfl,hf⟩ a hs;(replace hm:=hm.pu hf);(clear hf);replace t_:=tX t_;refine⟨bu_,?_⟩)|(refine oDoB (i:=19) hs rfl (Wnt.none rfl) rfl rfl (by exact d_append (A:=D) (n:=dl.length) (c:=d) (news:=(canN X0 cz).cs) hs rfl rfl rfl rfl rfl tab rfl rfl rfl rfl rfl hm mem_ hdr rfl (hm.ro (n:=4) mem_ (cutF_ok rfl)) rfl (by show(dl.length+1)*24≤_;omega) (by omega)) ?_;clear hs;rintro _ w1 ⟨D',d',dcs',rfl,hr',hM⟩ a hs;(replace hm:=hM _ rep_);(clear hM);replace t_:=tX t_;refine⟨bu_,?_⟩)|(refine tDB t_ ?_;(rw[show cns dl++(canN X0 cz).cs=cns (dl++[canN X0 cz]) by unfold cns;rw[List.flatMap_append,List.flatMap_singleton]]at hr');(exact And.intro rfl ⟨canN X0 cz,D',d',dcs',(hcv cz hcz).1,hr',(sb_ hs),hm.sub sub_⟩))|fail)
      clear hs hm a hdr
      rintro a w ⟨cz,D',d',dcs',hcz,hr',hs,hm⟩
      refine gs3375_ ?_;clear hs hm a;intros;rename_i a hm hs
      exact⟨⟨dl++[cz],D',d',dcs'⟩,by dsimp only;rw[List.length_append,List.length_singleton];omega,by dsimp only;rw[List.length_append,List.length_singleton];exact⟨hdt,List.forall_mem_append.2 ⟨hd2,List.forall_mem_singleton.2 hcz⟩,hr',(sb_ hs),hm⟩⟩
     ·refine gs3375_ ?_;clear hs hm a;intros;rename_i a hm hs
      refine cDrawT (n:=5) (.s [0,1]<| .o 2<| .o 3<| .t 4<| .d) [⟨some g15,173,[.int .i64 (t:Int),.int .i64 1,.int .i64 0,.int .i64 q.cnt,.int .i64 q.pc,.int .i64 i.m,slv A al.length c,slv D dl.length d]⟩,⟨some g11,32,(z.cl [slv (some gt) 4 z.tc])⟩] hm rfl rfl ?_
      clear hm;intro t_ w1_ hm
      repeat' (first|(refine dgd799_ ?_;clear t_ hs hm a;intros;rename_i a hm hs t_)|refine tE t_ ?_|refine tC ?_ ?_|exact tN|intro t_|(refine tD t_ ?_;(refine gs3375_ ?_;clear hs hm a;intros;rename_i a hm hs);(refine gRetN tab hs rfl (.cons (.cells rfl rfl rfl rfl (hm.ro (k:=0) (n:=5) (g:=g8) mem_ (cutF_ok rfl))) (.cons (.cells rfl rfl rfl rfl (hm.ro (k:=0) (n:=8) (g:=g9) mem_ (cutF_ok rfl))) (.cons (.tmp rfl) .nil))) ?_);(exact hend1 A c cs al D d dcs dl _ hl2 (by omega) hd2 hlr hdr ((hmc (L:=[⟨D,95,dcs⟩,⟨A,95,cs⟩]) (hm.sub sub_)).new (List.Sublist.refl _)) hm.fr))|fail)
    ·refine gcSgs1_ ?_;clear hs hm a;intros;rename_i a hm hs
     refine cDrawT (n:=5) (.s [0,1]<| .o 2<| .o 3<| .t 4<| .d) [⟨some g15,173,[.int .i64 (t:Int),.int .i64 1,.int .i64 0,.int .i64 q.cnt,.int .i64 q.pc,.int .i64 i.m,slv A al.length c,nS]⟩,⟨some g11,32,(z.cl [slv (some gt) 4 z.tc])⟩] hm rfl rfl ?_
     clear hm;intro t_ w1_ hm
     repeat' (first|(refine dgd799_ ?_;clear t_ hs hm a;intros;rename_i a hm hs t_)|refine tE t_ ?_|refine tC ?_ ?_|exact tN|intro t_|(refine tD t_ ?_;(refine gs3375_ ?_;clear hs hm a;intros;rename_i a hm hs);(refine gRetN tab hs rfl (.cons (.cells rfl rfl rfl rfl (hm.ro (k:=0) (n:=5) (g:=g8) mem_ (cutF_ok rfl))) (.cons (.cells rfl rfl rfl rfl (hm.ro (k:=0) (n:=8) (g:=g9) mem_ (cutF_ok rfl))) (.cons (.tmp rfl) .nil))) ?_);(exact hend1 A c cs al none 0 [] [] _ hl2 (Nat.zero_le _) (fun c hc=>by cases hc) hlr (Row.empty 4) ((hmc (L:=[⟨none,95,[]⟩,⟨A,95,cs⟩]) ((hm.zero 95).sub sub_)).new (List.Sublist.refl _)) hm.fr))|fail)
  ·obtain rfl:why=6:=by omega
   refine gs3375_ ?_;clear hs hm a;intros;rename_i a hm hs
   obtain⟨g11,rfl⟩:=hs.pp 11
   obtain⟨g14,rfl⟩:=hs.pp 14
   obtain⟨g15,rfl⟩:=hs.pp 15
   have hzl2:=hzt.len
   have hzl3:=hzt.le
   have hqs:Row (some gq) 8 qz.c 2 (cvs q.xs) qz.cs:=hgq▸hqo
   have kend:∀(w'':World),Rd w'' w''.heap.size (some ⟨gq,0,none⟩) (cvs q.xs)→Ret Tryz.prog 109 [.agg #[.int .i64 q.st,slv (some gq) 8 qz.c,.int .i64 q.pc,.int .i64 q.cnt,.int .i64 q.han,.int .i64 q.sav,.int .i64 q.trp,.int .u16 q.cod],.int .i64 6,.int .u16 0] w'' (fun u w'=>∃q':ThO,u= .agg q'.v.toArray∧q'.ok∧q'.d={q with st:=4,trp:=6,cod:=0}∧New w'' w' [q'.hp]∧Pu w'' w'):=fun w'' hr=>by
    have h:=tend_c ⟨some ⟨gq,0,none⟩,qz.c,q⟩ 6 0 w'' hr (by dsimp only;omega)
    unfold ThV.v at h
    dsimp only at h
    rw[hqn]at h
    exact h
   refine cMid (fun a w=>∃(q':ThO),q'.ok∧q'.d={q with st:=4,trp:=6,cod:=0}∧Sl Tryz.f91.ntmps [(4,pt g4),(8,pt g8),(9,pt g9),(11,pt g11),(14,pt g14),(15,pt g15),(16,.int .i64 6)] a∧Mm (fun _=>False) wB (q'.hp::⟨some g15,173,[.int .i64 (t:Int),.int .i64 1,.int .i64 0,.int .i64 q.cnt,.int .i64 q.pc,.int .i64 0,nS,nS]⟩::⟨some g11,32,(z.cl [slv (some gt) 4 z.tc])⟩::⟨some g9,173,[.int .i64 0,.int .i64 0,.int .i64 0,.int .i64 0,.int .i64 0,.int .i64 0,nS,nS]⟩::⟨some g8,32,[nS,.int .u16 0,nS,nS,nS]⟩::⟨some gt,52,z.tcs.take (t*8)++q'.v++z.tcs.drop (t*8+8)⟩::R) w) ?_ ?_
   ·with_reducible repeat(first|apply gThen|apply wp_seq)
    refine cDrawT (n:=8) (.s [0,1,2,3,4]<| .o 5<| .x<| .t 6<| .o 7<| .x<| .d) [⟨some g14,52,[.int .i64 q.st,slv (some gq) 8 qz.c,.int .i64 q.pc,.int .i64 q.cnt,.int .i64 q.han,.int .i64 q.sav,.int .i64 q.trp,.int .u16 q.cod]⟩,⟨some g11,32,(z.cl [slv (some gt) 4 z.tc])⟩] hm rfl rfl ?_
    clear hm;intro t_ w1_ hm
    repeat' (first|(refine dgd799_ ?_;clear t_ hs hm a;intros;rename_i a hm hs t_)|refine tE t_ ?_|refine tC ?_ ?_|exact tN|intro t_|(refine oDo (i:=5) hs rfl (Wnt.none rfl) rfl rfl (by exact d_call hs rfl rfl rfl (pl 109 rfl) ((kend _ (hm.rd_row mem_ hqs)))) ?_;clear hs;rintro _ w1 ⟨q',rfl,hqo',hqd',hN,hf⟩ a hs;(replace hm:=hm.gain hf hN);(clear hN hf);replace t_:=tX t_;refine⟨(hm.sub sub_),?_⟩)|(refine oDoN (i:=7) hs rfl (Wnt.none rfl) rfl (by exact d_store hs rfl rfl rfl tab rfl rfl rfl rfl hm rep_ (putG (by show t*8+8≤_;omega))) ?_;clear hs;rintro-w1 hm a hs;replace t_:=tX t_;refine⟨(hm.sub sub_),?_⟩)|(refine tD t_ ?_;(exact And.intro rfl ⟨q',hqo',hqd',(sb_ hs),hm.sub sub_⟩))|fail)
   clear hs hm a
   rintro a w ⟨q',hqo',hqd',hs,hm⟩
   have hsp:=hzt.splice (o:=t*8) (ys:=q'.v) (by rw[ThO.len];omega)
   rw[ThO.len,flat_splice ThO.v 8 ThO.len z.ts t q' htz]at hsp
   refine gs3375_ ?_;clear hs hm a;intros;rename_i a hm hs
   refine cDrawT (n:=5) (.s [0,1]<| .o 2<| .o 3<| .t 4<| .d) [⟨some g15,173,[.int .i64 (t:Int),.int .i64 2,.int .i64 6,.int .i64 q.cnt,.int .i64 q.pc,.int .i64 0,nS,nS]⟩,⟨some g11,32,(z.cl [slv (some gt) 4 z.tc])⟩] hm rfl rfl ?_
   clear hm;intro t_ w1_ hm
   repeat' (first|(refine dgd799_ ?_;clear t_ hs hm a;intros;rename_i a hm hs t_)|refine tE t_ ?_|refine tC ?_ ?_|exact tN|intro t_|(refine tD t_ ?_;(refine gs3375_ ?_;clear hs hm a;intros;rename_i a hm hs);(refine gRetN tab hs rfl (.cons (.cells rfl rfl rfl rfl (hm.ro (k:=0) (n:=5) (g:=g8) mem_ (cutF_ok rfl))) (.cons (.cells rfl rfl rfl rfl (hm.ro (k:=0) (n:=8) (g:=g9) mem_ (cutF_ok rfl))) (.cons (.tmp rfl) .nil))) ?_);(refine⟨z.upd t q' (z.tcs.take (t*8)++q'.v++z.tcs.drop (t*8+8)) z.m,⟨t,2,6,q.cnt,q.pc,0,⟨none,0,[]⟩,⟨none,0,[]⟩⟩,[],by rw[MO.v_vs,MO.upd_vs (MeO.like.refl _),hzvs];rfl,MO.upd_ok zo zo.m hqo' (by rw[hzl];exact hsp),MO.upd_val zv (Int.le_refl _) (MO.m_val zv) ?_,fun _ _ _ _ _ _=>⟨fun h=>(by cases h),fun h=>(by cases h)⟩,⟨by dsimp only;omega,by dsimp only;omega,by dsimp only;omega,by dsimp only;omega,hpc,by dsimp only;omega,by dsimp only;exact Nat.zero_le _,by dsimp only;exact Nat.zero_le _,fun c hc=>(by cases hc),fun c hc=>(by cases hc)⟩,fun e=>absurd (show(2:Int)=1 from e) (by omega),rfl,(fun b o n h=>by rcases h with h|h<;>cases h),(hmu (L:=[]) (hm.sub sub_)).new (List.Sublist.refl _),hm.fr⟩);(rw[hqd']);(exact⟨by dsimp only;omega,hqv.n,hqv.pc,hqv.cnt,hqv.han,hqv.sav,by dsimp only;omega,by dsimp only;omega,hqv.cv⟩))|fail)
 ·refine gs3375_ ?_;clear hs hm a;intros;rename_i a hm hs
  obtain⟨g11,rfl⟩:=hs.pp 11
  obtain⟨g15,rfl⟩:=hs.pp 15
  refine cDrawT (n:=5) (.s [0,1]<| .o 2<| .o 3<| .t 4<| .d) [⟨some g15,173,[.int .i64 (t:Int),.int .i64 2,.int .i64 q.trp,.int .i64 q.cnt,.int .i64 q.pc,.int .i64 0,nS,nS]⟩,⟨some g11,32,(z.cl [slv (some gt) 4 z.tc])⟩] hm rfl rfl ?_
  clear hm;intro t_ w1_ hm
  repeat' (first|(refine dgd799_ ?_;clear t_ hs hm a;intros;rename_i a hm hs t_)|refine tE t_ ?_|refine tC ?_ ?_|exact tN|intro t_|(refine tD t_ ?_;(refine gs3375_ ?_;clear hs hm a;intros;rename_i a hm hs);(refine gRetN tab hs rfl (.cons (.cells rfl rfl rfl rfl (hm.ro (k:=0) (n:=5) (g:=g8) mem_ (cutF_ok rfl))) (.cons (.cells rfl rfl rfl rfl (hm.ro (k:=0) (n:=8) (g:=g9) mem_ (cutF_ok rfl))) (.cons (.tmp rfl) .nil))) ?_);(exact hend0 2 q.trp _ (.inr rfl) htrp ((hmc (L:=[]) (hm.sub sub_)).new (List.Sublist.refl _)) hm.fr))|fail)
theorem gpShk0_{G H:Prop}(k:H)(s:Bx H→G:=by intro k_;(repeat(first|(refine ov_ ?_;(try clear hs a);intro a hs)|((with_reducible apply lCons);first|(refine dv hs gw_ rfl rfl da_ ?_;(try clear hs hm a);rintro _ w_ ⟨g_,rfl,-,hm⟩ a hs)|(refine stn hs rfl rfl ds_ ?_;(try clear hs hm a);rintro-w_ hm a hs))|refine sc_ ?_));have m_:=hm;have s_:=hs;clear hs;(try clear hm);revert m_ s_ a;(try revert w_);(repeat revert g_);exact k_.h):G:=s ⟨k⟩
theorem gpShk1_{G H:Prop}(k:H)(s:Bx H→G:=by intro k_;(repeat(first|(refine oq_ ?_;(try clear hs a);intro a hs)|((with_reducible apply lCons);first|(refine dv hs gw_ rfl rfl da_ ?_;(try clear hs hm a);rintro _ w_ ⟨g_,rfl,-,hm⟩ a hs)|(refine stn hs rfl rfl ds_ ?_;(try clear hs hm a);rintro-w_ hm a hs))|((with_reducible apply qNil);(try clear hm);intro w_ hm)|refine cQ_ ?_|refine sc_ ?_));have m_:=hm;have s_:=hs;clear hs;(try clear hm);revert m_ s_ a;(try revert w_);(repeat revert g_);exact k_.h):G:=s ⟨k⟩
def rawC(X:LS)(c:CN):CV:=⟨(rawF X c.t c.v c.r c.o).1.1,(rawF X c.t c.v c.r c.o).1.2⟩
def rawE(X:LS)(c:CN):Int:=(rawF X c.t c.v c.r c.o).2
theorem rawC_val(X:LS){c:CN}(h:c.val):(rawC X c).val:=⟨rawF_t X c.t c.v c.r c.o,rawF_v X c.t c.v c.r c.o h.v⟩
theorem CN.tag{c:CN}(h:c.val):c.t=0∨c.t=1∨c.t=2:=by have:=h.t;omega
theorem rawz_c(X:LS)(c:CN)(w:World)(hX:X.ok w)(hc:c.val):Ret Tryz.prog 63 [X.l,X.s,.agg #[.int .u8 c.t,.int .u16 c.v,.int .i64 c.r,.int .i64 c.o]] w (fun u w'=>u= .tuple #[.agg #[.int .u8 (rawC X c).t,.int .u16 (rawC X c).v],.int .i64 (rawE X c)]∧Pu w w'):=raw_c X c.t c.v c.r c.o w hX (CN.tag hc)
theorem radr_c(x:LS)(r o:Int)(w:World)(hx:x.ok w):
  Ret Tryz.prog 139 [x.l,x.s,.agg #[.int .i64 r,.int .i64 o]] w (fun v w'=>v= .tuple #[.int .i64 (adrF x r o).1,.int .i64 (adrF x r o).2]∧Pu w w'):=by
 have hin:=fun w'' (hf:Pu w w'')=>rins_c x.B x.n x.d x.ss r o w'' hx.sl (hf.rd' hx.sr)
 generalize hR:adrF x r o=R
 unfold adrF at hR
 obtain⟨A,n,c,bs,key,B,d,ss⟩:=x
 obtain⟨h1,h2,h3,h4,h5,h6,h7⟩:=hx
 unfold LS.l LS.s
 dsimp only at*
 cases hi:insF ss r o
 ·rw[hi]at hin hR
  rw[if_neg (by simp)]at hR
  subst hR
  refine enterR Tryz.func139 rfl rfl rfl fun a hs hm=>?_
  repeat(first|(refine gpShk0_ ?_;clear hs hm a;intros;rename_i a hm hs)|refine sc_ ?_|((with_reducible apply lCons);first|(refine dvc hs hm gw_ rfl rfl rfl rfl rfl (pl 72 rfl) (hin _ hm.fr) ?_;clear hs hm a;intro w hm a hs)))
  exact z4ca6_
 ·obtain⟨i1,i2,i3,i4⟩:=insF_t.1 hi
  rw[hi]at hin hR
  rw[if_pos (show true=true from rfl)]at hR
  obtain⟨k,rfl⟩:∃k:Nat,r=(k:Int):=⟨r.toNat,by omega⟩
  rw[Int.toNat_natCast]at i4 hR
  obtain⟨b1,o1,rfl,hb1,r1⟩:=h3.ro (by rw[ints_len];omega)
  have e1:=ints_some (xs:=bs) (k:=k) (by omega)
  have hg1:=getI (l:=bs) (k:=k) (by omega)
  have hg2:=getI (l:=ss) (k:=k) (by omega)
  have hbk:=h5 bs[k] (List.getElem_mem (by omega))
  have hsk:=h6 ss[k] (List.getElem_mem (by omega))
  rw[hg1]at hR
  rw[hg2]at i4
  generalize bs[k]'(_)=bk at*
  generalize ss[k]'(_)=sk at*
  subst hR
  refine enterR Tryz.func139 rfl rfl rfl fun a hs hm=>?_
  repeat(first|(refine gpShk1_ ?_;clear hs hm a;intros;rename_i a hm hs)|refine sc_ ?_|((with_reducible apply lCons);first|(refine dvc hs hm gw_ rfl rfl rfl rfl rfl (pl 72 rfl) (hin _ hm.fr) ?_;clear hs hm a;intro w hm a hs))|((with_reducible apply qCons);first|(refine qwc hs gw_ rfl rfl rfl rfl rfl (pl 72 rfl) (fun w hm=>hin _ hm.fr) ?_;clear hs a;intro a hs)))
  exact z4ca6_
theorem adr_in{X:LS}(hg:LGap X.bs X.ss){r o:Int}(h:insF X.ss r o=true):∃a:Nat,a<512∧adrF X r o=((a:Int),0):=by
 obtain⟨i1,i2,i3,i4⟩:=insF_t.1 h
 have:=hg.len
 have h2:=hg.b r.toNat (by omega)
 refine⟨(X.bs.getD r.toNat 0+o).toNat,by omega,?_⟩
 unfold adrF
 rw[if_pos h]
 congr 1
 omega
theorem MO.hps_set{z:MO}{q q':ThO}{t:Nat}{tcs:List Value}(hq:z.ts[t]?=some q) (h:q'.hp=q.hp):(z.upd t q' tcs z.m).hps=⟨z.tA,52,tcs⟩::⟨z.bA,3,z.bcs⟩::(z.m.hps++z.ts.map ThO.hp):=by
 unfold MO.upd MO.hps
 dsimp only
 rw[List.map_set,h,←List.map_set,set_self hq]
theorem gcShl0_{G H:Prop}(k:H)(s:Bx H→G:=by intro k_;(repeat(first|(refine ov701a_ ?_;(try clear hs a);intro a hs)|((with_reducible apply lCons);first|(refine dv hs gw_ rfl rfl da_ ?_;(try clear hs hm a);rintro _ w_ ⟨g_,rfl,-,hm⟩ a hs)|(refine stn hs rfl rfl ds_ ?_;(try clear hs hm a);rintro-w_ hm a hs))|refine sc_ ?_|((with_reducible apply lCons);first|(refine dvc hs hm gw_ rfl rfl rfl rfl rfl (pl 111 rfl) (kb _) ?_;(try clear hs hm a);intro w_ hm a hs))));(first|(have m_:=hm;have s_:=hs;clear hs;(try clear hm);revert m_ s_ a)|((first|refine rexc_ hs hm ?_|refine rexl_ hs hm ?_|refine rexg_ hs hm ?_|refine rexq_ hs hm ?_);intro a hm hs;revert hm hs a));(try revert w_);(repeat revert g_);exact k_.h):G:=s ⟨k⟩
theorem put_non [HB](p:PV)(N gm:Nat)(y:MO)(B:Int)(tk:Nat)(q:ThD)(r:RqV)(x:RsV)(wB:World)(hp:p.at wB N)(hpv:p.val)(hN:N≤wB.heap.size)(hM:Mm (own y.hps) wB y.hps wB)(hno:∀b,b<N→¬own y.hps b)(hy:y.ok)(hv:y.d.val p.ss B)(hh:Ro wB gm 0 y.vs)(hng:¬own y.hps gm)(ht:tk<4)(hth:r.th=(tk:Int))(hq:y.d.ts[tk]?=some q) (hq2:q.st=2) (hra:Rd wB N r.a.A (cns r.a.xs)) (hrv:r.val) (hrk:r.kin) (hst:r.stop=1) (hxd:Rd wB N x.d.A (cns x.d.xs)) (hxf:x.fit) (hcall:r.call≠10∧r.call≠12∧(bufF r.call=2→x.d.xs=[])):
  Ret Tryz.prog 128 [p.v,pt gm,r.v,x.v] wB (fun u w'=>∃(z:MO)(b:Bool),u= .bool b∧z.ok∧z.d.val p.ss B∧z.vs=y.vs∧Mm (own y.hps) wB z.hps w'):=by
 obtain⟨A0,hA0⟩:∃A0,own y.hps=A0:=⟨_,rfl⟩
 rw[hA0]
 obtain⟨th,stop,trap,cnt,pc,call,ra,rd⟩:=r
 obtain⟨xv,xd,sp,wt⟩:=x
 dsimp only at hth hst hra hxd hcall
 subst hth hst
 have htl:y.ts.length=4:=by have:=hv.t;rwa[MO.d_len]at this
 have hrt:=hy.t
 rw[htl]at hrt
 obtain⟨gt,hgt⟩:=hrt.some_ (by omega)
 rw[hgt]at hrt
 have hcl:=hrt.len
 have hle:=hrt.le
 have hm0:Mm A0 wB (⟨some gt,52,y.tcs⟩::⟨y.bA,3,y.bcs⟩::(y.m.hps++y.ts.map ThO.hp)) wB:=by
  rw[←hA0,←hgt]
  exact hM
 have hh1:Ro wB gm 0 (y.cl [slv (some gt) 4 y.tc]):=by rw[←hgt,←htl];exact hh
 have hnA:∀b,b<N→¬A0 b:=hA0▸hno
 have hngA:¬A0 gm:=hA0▸hng
 have hrav:∀c∈ra.xs,c.val:=hrv.av
 have hxv:xv.val:=hxf.v
 have hxdn:xd.xs.length≤16:=hxf.d
 have hxdv:∀c∈xd.xs,c.val:=hxf.dv
 have hsp:-1≤sp∧sp≤3:=hxf.sp
 have hLS:∀{L:List Hp}{z:MO}{w:World},Mm A0 wB L w→(∀h∈z.hps,h∈L)→z.ok→z.d.val p.ss B→(lsX p z.mv).ok w:=fun hm hM zo zv=>lsX_ok ((hp.fr hm.fr hN hnA).ok (Nat.le_trans hN hm.fr.size)) hpv (MO.mv_ok hm hM zo) (by rw[MO.mv_d];exact zv)
 have kraw:∀(z:MO)(c:CN)(w'':World),(lsX p z.mv).ok w''→z.d.val p.ss B→c.val→Ret Tryz.prog 63 [.agg #[slv z.bA z.bs.length z.bc,.int .u16 z.key],.slice p.sA p.ss.length p.sc,.agg #[.int .u8 c.t,.int .u16 c.v,.int .i64 c.r,.int .i64 c.o]] w'' (fun u w'=>u= .tuple #[.agg #[.int .u8 (rawC (lsX p z.mv) c).t,.int .u16 (rawC (lsX p z.mv) c).v],.int .i64 (rawE (lsX p z.mv) c)]∧Pu w'' w'):=fun z c w'' hX zv hc=>by
  have h:=rawz_c (lsX p z.mv) c w'' hX hc
  rw[lsX_l (B:=B) (by rw[MO.mv_d];exact zv)]at h
  exact h
 have hex:∀(z:MO)(b:Bool)(w':World),z.ok→z.d.val p.ss B→z.vs=y.vs→Mm A0 wB z.hps w'→∃(z':MO)(b':Bool),Value.bool b= .bool b'∧z'.ok∧z'.d.val p.ss B∧z'.vs=y.vs∧Mm A0 wB z'.hps w':=fun z b w' h1 h2 h3 h4=>⟨z,b,rfl,h1,h2,h3,h4⟩
 obtain⟨qy,hqy,hqyd⟩:=MO.d_th hq
 have hyh:∀h∈y.hps,h∈(⟨some gt,52,y.tcs⟩:Hp)::⟨y.bA,3,y.bcs⟩::(y.m.hps++y.ts.map ThO.hp):=fun h hh=>by rw[←hgt];exact hh
 have kb:=fun w''=>buf_c call w'' hrv.call
 obtain⟨hc10,hc12,hcb⟩:=hcall
 unfold PV.v RqV.v RsV.v
 dsimp only
 refine enterR Tryz.func128 rfl rfl rfl fun a hs hm=>?_
 clear hm
 have hm:=hm0
 refine gq20dc_ ?_;clear hs hm a;intros;rename_i a hm hs
 obtain⟨g4,rfl⟩:=hs.pp 4
 obtain⟨g6,rfl⟩:=hs.pp 6
 obtain⟨g7,rfl⟩:=hs.pp 7
 have hhU:∀_:Unit,Ro wB gm 0 (y.cl [slv (some gt) 4 y.tc]):=fun _=>hh1
 have hhL:Ro wB gm 0 [slv y.bA y.bs.length y.bc,.int .u16 y.key]:=fun j v hj=>hh1 j v (by
  have:=(List.getElem?_eq_some_iff.1 hj).1
  rcases(by simp at this;omega:j=0∨j=1)with rfl|rfl<;>exact hj)
 clear hh1 hh
 refine cMid (fun a w=>∃g10:Nat,Sl Tryz.f128.ntmps [(1,pt gm),(4,pt g4),(6,pt g6),(7,pt g7),(9,.pointer (some ⟨gt,tk*8,none⟩)),(10,pt g10),(11,.int .i64 (rawE (lsX p y.mv) xv))] a∧Mm A0 wB (⟨some g10,103,[.int .u8 (rawC (lsX p y.mv) xv).t,.int .u16 (rawC (lsX p y.mv) xv).v]⟩::⟨some g7,175,[.int .u8 xv.t,.int .u16 xv.v,.int .i64 xv.r,.int .i64 xv.o,.slice xd.A xd.xs.length xd.c,.int .i64 sp,.bool wt]⟩::⟨some g6,173,[.int .i64 (tk:Int),.int .i64 1,.int .i64 trap,.int .i64 cnt,.int .i64 pc,.int .i64 call,.slice ra.A ra.xs.length ra.c,.slice rd.A rd.xs.length rd.c]⟩::⟨some g4,38,(p.cl [])⟩::⟨some gt,52,y.tcs⟩::⟨y.bA,3,y.bcs⟩::(y.m.hps++y.ts.map ThO.hp)) w) ?_ ?_
 ·with_reducible repeat(first|apply gThen|apply wp_seq)
  refine cDrawT (n:=15) (.s [0,1,2,3,4,5,6,7]<| .e [(8,.x<| .s [9,10,11]<| .o 12<| .o 13<| .t 14<| .d),(12,.o 8<| .x<| .s [9,10,11]<| .o 13<| .t 14<| .d)]) [⟨some g7,175,[.int .u8 xv.t,.int .u16 xv.v,.int .i64 xv.r,.int .i64 xv.o,.slice xd.A xd.xs.length xd.c,.int .i64 sp,.bool wt]⟩,⟨some g4,38,(p.cl [])⟩] hm rfl rfl ?_
  clear hm;intro t_ w1_ hm
  repeat' (first|(refine dgd799_ ?_;clear t_ hs hm a;intros;rename_i a hm hs t_)|refine tE t_ ?_|refine tC ?_ ?_|exact tN|intro t_|(refine oDo (i:=8) hs rfl (Wnt.none rfl) rfl rfl (by exact d_call hs rfl rfl rfl (pl 63 rfl) ((kraw y xv _ (hLS hm (fun h hh=>by repeat(first|exact hyh h hh|apply List.mem_cons_of_mem)) hy hv) hv hxv))) ?_;clear hs;rintro _ w1 ⟨rfl,hf⟩ a hs;(replace hm:=hm.pu hf);(clear hf);replace t_:=tX t_;refine⟨(hm.sub sub_),?_⟩)|(refine tD t_ ?_;(obtain⟨g10,rfl⟩:=hs.pp 10);(exact And.intro rfl ⟨g10,(sb_ hs),hm⟩))|fail)
 clear hs hm a
 rintro a w ⟨g10,hs,hm⟩
 have hcv:=rawC_val (lsX p y.mv) hxv
 generalize rawC (lsX p y.mv) xv=cv at hs hm hcv
 by_cases he:rawE (lsX p y.mv) xv=0
 rotate_left
 ·refine gsc5af_ ?_;clear hs hm a;intros;rename_i a hm hs
  refine gRet1 hs rfl rfl (hex y false _ hy hv rfl ?_)
  have hm':Mm A0 wB (⟨some gt,52,y.tcs⟩::⟨y.bA,3,y.bcs⟩::(y.m.hps++y.ts.map ThO.hp)) _:=hm.sub sub_
  rw[←hgt]at hm'
  exact hm'
 have hdl:bufF call=2→xd.xs.length=0:=fun e=>by rw[hcb e];rfl
 by_cases hb:bufF call=2
 ·have hd0:=hdl hb
  refine gcShl0_ ?_;clear hs hm a;intros;rename_i a hm hs
  replace hm:=MO.open_ (L:=[⟨some g10,103,[.int .u8 cv.t,.int .u16 cv.v]⟩,⟨some g7,175,[.int .u8 xv.t,.int .u16 xv.v,.int .i64 xv.r,.int .i64 xv.o,.slice xd.A xd.xs.length xd.c,.int .i64 sp,.bool wt]⟩,⟨some g6,173,[.int .i64 (tk:Int),.int .i64 1,.int .i64 trap,.int .i64 cnt,.int .i64 pc,.int .i64 call,.slice ra.A ra.xs.length ra.c,.slice rd.A rd.xs.length rd.c]⟩,⟨some g4,38,(p.cl [])⟩]) (z:=y) (by rw[show y.hps=⟨y.tA,52,y.tcs⟩::⟨y.bA,3,y.bcs⟩::(y.m.hps++y.ts.map ThO.hp)from rfl,hgt];exact hm) hqy
  simp only[List.cons_append,List.nil_append]at hm
  have hqyv:=(hv).tt qy.d (List.mem_map.2 ⟨qy,List.mem_of_getElem? hqy,rfl⟩)
  have hqyo:=(hy).tt qy (List.mem_of_getElem? hqy)
  have hqyr:Row qy.A qy.d.xs.length qy.c 2 (cvs qy.d.xs) qy.cs:=hqyo
  rw[hqyv.n]at hqyr
  obtain⟨gq,hgq⟩:=hqyr.some_ (by omega)
  rw[show qy.hp=⟨some gq,103,qy.cs⟩ by unfold ThO.hp;rw[hgq],hgt]at hm
  rw[hgq]at hqyr
  have hztl:y.ts.length=4:=by have:=(hv).t;rwa[MO.d_len]at this
  have hzt:=(hy).t
  rw[hztl,hgt]at hzt
  have hztk:tk<y.ts.length:=by omega
  have hzcl:=hzt.len
  have hzle:=hzt.le
  have hqcl:=hqyr.len
  have hqle:=hqyr.le
  have e1:y.tcs[tk*8+1]?=some (slv (some gq) 8 qy.c):=hzt.get (by rw[flat_get ThO.v 8 ThO.len y.ts tk 1 hztk (by omega),(List.getElem?_eq_some_iff.1 hqy).2,←hgq,←hqyv.n];rfl)
  obtain⟨W,hW⟩:∃W,(⟨y.bA,3,y.bcs⟩:Hp)::(y.m.hps++(y.ts.eraseIdx tk).map ThO.hp)=W:=⟨_,rfl⟩
  rw[hW]at hm
  refine cMid (fun a w=>Mm A0 wB (⟨some gq,103,cv.cs++qy.cs.drop 2⟩::⟨some gt,52,y.tcs.set (tk*8+0) (.int .i64 1)⟩::W) w∧Sl Tryz.f128.ntmps [(9,.pointer (some ⟨gt,tk*8,none⟩))] a) ?_ ?_
  ·with_reducible repeat(first|apply gThen|apply wp_seq)
   refine cDrawTB (n:=11) (.s [0,1,2,3,4,5,6]<| .o 7<| .x<| .s [8,9]<| .o 10<| .d) 10 [⟨some g10,103,[.int .u8 cv.t,.int .u16 cv.v]⟩,⟨some gt,52,y.tcs⟩] hm rfl rfl ?_
   clear hm;intro t_ w1_ hm
   repeat' (first|(refine dg95fa_ ?_;clear t_ hs hm a;intros;rename_i a hm hs t_)|refine tEB t_ ?_|refine tCB ?_ ?_|exact tNB|intro t_|(refine oDoNB (i:=7) hs rfl (Wnt.none rfl) rfl (by exact d_store hs rfl rfl rfl tab rfl rfl rfl rfl hm rep_ (putG (by show 0+2≤_;omega))) ?_;clear hs;rintro-w1 hm a hs;replace t_:=tX t_;refine⟨bu_,?_⟩)|(refine tDB t_ ?_;(exact And.intro rfl ⟨hm.sub sub_,(sb_ hs)⟩))|fail)
  clear hs hm a
  rintro a w ⟨hm,hs⟩
  refine gsc5af_ ?_;clear hs hm a;intros;rename_i a hm hs
  obtain⟨k1,k2,k3⟩:=ThO.reg_ok hqyo hqyv (r:=0) (by omega) hcv
  have hrow:Row (some gt) 4 y.tc 8 ((y.ts.set tk (qy.reg 0 cv)).flatMap ThO.v) y.tcs:=by rw[trow_same hztk k3,set_self hqy];exact hzt
  have r1:=trow_set hrow hztk 0 (by omega) (.int .i64 1) (q2:={qy.reg 0 cv with d:={(qy.reg 0 cv).d with st:=1}}) rfl
  refine gRet1 hs rfl rfl (hex (y.upd tk {qy.reg 0 cv with d:={(qy.reg 0 cv).d with st:=1}} (y.tcs.set (tk*8+0) (.int .i64 1)) y.m) true _ (MO.upd_ok hy (hy).m k1 (by rw[hgt,hztl];exact r1)) (MO.upd_val hv (Int.le_refl _) (MO.m_val hv) ⟨by dsimp only;omega,k2.n,by rw[k2.pc];exact hqyv.pc,by rw[k2.cnt];exact hqyv.cnt,by rw[k2.han];exact hqyv.han,k2.sav,by rw[k2.trp];exact hqyv.trp,by rw[k2.cod];exact hqyv.cod,k2.cv⟩) ((MO.upd_vs (MeO.like.refl _)).trans rfl) ?_)
  refine MO.close_ (L:=[]) (m:=y.m) hztk ?_
  rw[hW,hgt,show ThO.hp {qy.reg 0 cv with d:={(qy.reg 0 cv).d with st:=1}}=⟨some gq,103,cv.cs++qy.cs.drop 2⟩ by unfold ThO.hp;rw[←hgq];rfl]
  exact hm
 ·refine gcShl0_ ?_;clear hs hm a;intros;rename_i a hm hs
  replace hm:=MO.open_ (L:=[⟨some g10,103,[.int .u8 cv.t,.int .u16 cv.v]⟩,⟨some g7,175,[.int .u8 xv.t,.int .u16 xv.v,.int .i64 xv.r,.int .i64 xv.o,.slice xd.A xd.xs.length xd.c,.int .i64 sp,.bool wt]⟩,⟨some g6,173,[.int .i64 (tk:Int),.int .i64 1,.int .i64 trap,.int .i64 cnt,.int .i64 pc,.int .i64 call,.slice ra.A ra.xs.length ra.c,.slice rd.A rd.xs.length rd.c]⟩,⟨some g4,38,(p.cl [])⟩]) (z:=y) (by rw[show y.hps=⟨y.tA,52,y.tcs⟩::⟨y.bA,3,y.bcs⟩::(y.m.hps++y.ts.map ThO.hp)from rfl,hgt];exact hm) hqy
  simp only[List.cons_append,List.nil_append]at hm
  have hqyv:=(hv).tt qy.d (List.mem_map.2 ⟨qy,List.mem_of_getElem? hqy,rfl⟩)
  have hqyo:=(hy).tt qy (List.mem_of_getElem? hqy)
  have hqyr:Row qy.A qy.d.xs.length qy.c 2 (cvs qy.d.xs) qy.cs:=hqyo
  rw[hqyv.n]at hqyr
  obtain⟨gq,hgq⟩:=hqyr.some_ (by omega)
  rw[show qy.hp=⟨some gq,103,qy.cs⟩ by unfold ThO.hp;rw[hgq],hgt]at hm
  rw[hgq]at hqyr
  have hztl:y.ts.length=4:=by have:=(hv).t;rwa[MO.d_len]at this
  have hzt:=(hy).t
  rw[hztl,hgt]at hzt
  have hztk:tk<y.ts.length:=by omega
  have hzcl:=hzt.len
  have hzle:=hzt.le
  have hqcl:=hqyr.len
  have hqle:=hqyr.le
  have e1:y.tcs[tk*8+1]?=some (slv (some gq) 8 qy.c):=hzt.get (by rw[flat_get ThO.v 8 ThO.len y.ts tk 1 hztk (by omega),(List.getElem?_eq_some_iff.1 hqy).2,←hgq,←hqyv.n];rfl)
  obtain⟨W,hW⟩:∃W,(⟨y.bA,3,y.bcs⟩:Hp)::(y.m.hps++(y.ts.eraseIdx tk).map ThO.hp)=W:=⟨_,rfl⟩
  rw[hW]at hm
  refine cMid (fun a w=>Mm A0 wB (⟨some gq,103,cv.cs++qy.cs.drop 2⟩::⟨some gt,52,y.tcs.set (tk*8+0) (.int .i64 1)⟩::W) w∧Sl Tryz.f128.ntmps [(9,.pointer (some ⟨gt,tk*8,none⟩))] a) ?_ ?_
  ·with_reducible repeat(first|apply gThen|apply wp_seq)
   refine cDrawTB (n:=11) (.s [0,1,2,3,4,5,6]<| .o 7<| .x<| .s [8,9]<| .o 10<| .d) 10 [⟨some g10,103,[.int .u8 cv.t,.int .u16 cv.v]⟩,⟨some gt,52,y.tcs⟩] hm rfl rfl ?_
   clear hm;intro t_ w1_ hm
   repeat' (first|(refine dg95fa_ ?_;clear t_ hs hm a;intros;rename_i a hm hs t_)|refine tEB t_ ?_|refine tCB ?_ ?_|exact tNB|intro t_|(refine oDoNB (i:=7) hs rfl (Wnt.none rfl) rfl (by exact d_store hs rfl rfl rfl tab rfl rfl rfl rfl hm rep_ (putG (by show 0+2≤_;omega))) ?_;clear hs;rintro-w1 hm a hs;replace t_:=tX t_;refine⟨bu_,?_⟩)|(refine tDB t_ ?_;(exact And.intro rfl ⟨hm.sub sub_,(sb_ hs)⟩))|fail)
  clear hs hm a
  rintro a w ⟨hm,hs⟩
  refine gsc5af_ ?_;clear hs hm a;intros;rename_i a hm hs
  obtain⟨k1,k2,k3⟩:=ThO.reg_ok hqyo hqyv (r:=0) (by omega) hcv
  have hrow:Row (some gt) 4 y.tc 8 ((y.ts.set tk (qy.reg 0 cv)).flatMap ThO.v) y.tcs:=by rw[trow_same hztk k3,set_self hqy];exact hzt
  have r1:=trow_set hrow hztk 0 (by omega) (.int .i64 1) (q2:={qy.reg 0 cv with d:={(qy.reg 0 cv).d with st:=1}}) rfl
  refine gRet1 hs rfl rfl (hex (y.upd tk {qy.reg 0 cv with d:={(qy.reg 0 cv).d with st:=1}} (y.tcs.set (tk*8+0) (.int .i64 1)) y.m) true _ (MO.upd_ok hy (hy).m k1 (by rw[hgt,hztl];exact r1)) (MO.upd_val hv (Int.le_refl _) (MO.m_val hv) ⟨by dsimp only;omega,k2.n,by rw[k2.pc];exact hqyv.pc,by rw[k2.cnt];exact hqyv.cnt,by rw[k2.han];exact hqyv.han,k2.sav,by rw[k2.trp];exact hqyv.trp,by rw[k2.cod];exact hqyv.cod,k2.cv⟩) ((MO.upd_vs (MeO.like.refl _)).trans rfl) ?_)
  refine MO.close_ (L:=[]) (m:=y.m) hztk ?_
  rw[hW,hgt,show ThO.hp {qy.reg 0 cv with d:={(qy.reg 0 cv).d with st:=1}}=⟨some gq,103,cv.cs++qy.cs.drop 2⟩ by unfold ThO.hp;rw[←hgq];rfl]
  exact hm
theorem gcShm0_{G H:Prop}(k:H)(s:Bx H→G:=by intro k_;(repeat(first|(refine ov701a_ ?_;(try clear hs a);intro a hs)|((with_reducible apply lCons);first|(refine dv hs gw_ rfl rfl da_ ?_;(try clear hs hm a);rintro _ w_ ⟨g_,rfl,-,hm⟩ a hs)|(refine stn hs rfl rfl ds_ ?_;(try clear hs hm a);rintro-w_ hm a hs))|refine sc_ ?_|((with_reducible apply lCons);first|(refine dvc hs hm gw_ rfl rfl rfl rfl rfl (pl 111 rfl) (kb _) ?_;(try clear hs hm a);intro w_ hm a hs))));(first|(have m_:=hm;have s_:=hs;clear hs;(try clear hm);revert m_ s_ a)|((first|refine rexc_ hs hm ?_|refine rexl_ hs hm ?_|refine rexg_ hs hm ?_|refine rexq_ hs hm ?_);intro a hm hs;revert hm hs a));(try revert w_);(repeat revert g_);exact k_.h):G:=s ⟨k⟩
theorem put_han [HB](p:PV)(N gm:Nat)(y:MO)(B:Int)(tk:Nat)(q:ThD)(r:RqV)(x:RsV)(wB:World)(hp:p.at wB N)(hpv:p.val)(hN:N≤wB.heap.size)(hM:Mm (own y.hps) wB y.hps wB)(hno:∀b,b<N→¬own y.hps b)(hy:y.ok)(hv:y.d.val p.ss B)(hh:Ro wB gm 0 y.vs)(hng:¬own y.hps gm)(ht:tk<4)(hth:r.th=(tk:Int))(hq:y.d.ts[tk]?=some q) (hq2:q.st=2) (hra:Rd wB N r.a.A (cns r.a.xs)) (hrv:r.val) (hrk:r.kin) (hst:r.stop=1) (hxd:Rd wB N x.d.A (cns x.d.xs)) (hxf:x.fit) (hcall:r.call=12):
  Ret Tryz.prog 128 [p.v,pt gm,r.v,x.v] wB (fun u w'=>∃(z:MO)(b:Bool),u= .bool b∧z.ok∧z.d.val p.ss B∧z.vs=y.vs∧Mm (own y.hps) wB z.hps w'):=by
 obtain⟨A0,hA0⟩:∃A0,own y.hps=A0:=⟨_,rfl⟩
 rw[hA0]
 obtain⟨th,stop,trap,cnt,pc,call,ra,rd⟩:=r
 obtain⟨xv,xd,sp,wt⟩:=x
 dsimp only at hth hst hra hxd hcall
 subst hth hst
 have htl:y.ts.length=4:=by have:=hv.t;rwa[MO.d_len]at this
 have hrt:=hy.t
 rw[htl]at hrt
 obtain⟨gt,hgt⟩:=hrt.some_ (by omega)
 rw[hgt]at hrt
 have hcl:=hrt.len
 have hle:=hrt.le
 have hm0:Mm A0 wB (⟨some gt,52,y.tcs⟩::⟨y.bA,3,y.bcs⟩::(y.m.hps++y.ts.map ThO.hp)) wB:=by
  rw[←hA0,←hgt]
  exact hM
 have hh1:Ro wB gm 0 (y.cl [slv (some gt) 4 y.tc]):=by rw[←hgt,←htl];exact hh
 have hnA:∀b,b<N→¬A0 b:=hA0▸hno
 have hngA:¬A0 gm:=hA0▸hng
 have hrav:∀c∈ra.xs,c.val:=hrv.av
 have hxv:xv.val:=hxf.v
 have hxdn:xd.xs.length≤16:=hxf.d
 have hxdv:∀c∈xd.xs,c.val:=hxf.dv
 have hsp:-1≤sp∧sp≤3:=hxf.sp
 have hLS:∀{L:List Hp}{z:MO}{w:World},Mm A0 wB L w→(∀h∈z.hps,h∈L)→z.ok→z.d.val p.ss B→(lsX p z.mv).ok w:=fun hm hM zo zv=>lsX_ok ((hp.fr hm.fr hN hnA).ok (Nat.le_trans hN hm.fr.size)) hpv (MO.mv_ok hm hM zo) (by rw[MO.mv_d];exact zv)
 have kraw:∀(z:MO)(c:CN)(w'':World),(lsX p z.mv).ok w''→z.d.val p.ss B→c.val→Ret Tryz.prog 63 [.agg #[slv z.bA z.bs.length z.bc,.int .u16 z.key],.slice p.sA p.ss.length p.sc,.agg #[.int .u8 c.t,.int .u16 c.v,.int .i64 c.r,.int .i64 c.o]] w'' (fun u w'=>u= .tuple #[.agg #[.int .u8 (rawC (lsX p z.mv) c).t,.int .u16 (rawC (lsX p z.mv) c).v],.int .i64 (rawE (lsX p z.mv) c)]∧Pu w'' w'):=fun z c w'' hX zv hc=>by
  have h:=rawz_c (lsX p z.mv) c w'' hX hc
  rw[lsX_l (B:=B) (by rw[MO.mv_d];exact zv)]at h
  exact h
 have hex:∀(z:MO)(b:Bool)(w':World),z.ok→z.d.val p.ss B→z.vs=y.vs→Mm A0 wB z.hps w'→∃(z':MO)(b':Bool),Value.bool b= .bool b'∧z'.ok∧z'.d.val p.ss B∧z'.vs=y.vs∧Mm A0 wB z'.hps w':=fun z b w' h1 h2 h3 h4=>⟨z,b,rfl,h1,h2,h3,h4⟩
 obtain⟨qy,hqy,hqyd⟩:=MO.d_th hq
 have hyh:∀h∈y.hps,h∈(⟨some gt,52,y.tcs⟩:Hp)::⟨y.bA,3,y.bcs⟩::(y.m.hps++y.ts.map ThO.hp):=fun h hh=>by rw[←hgt];exact hh
 subst hcall
 have kb:=fun w''=>buf_c 12 w'' (by omega)
 rw[show bufF 12=0 from rfl]at kb
 have hal:ra.xs.length=1:=hrk.n
 obtain⟨b1,o1,hA,hb1,r1⟩:=hra.ro (by rw[cns_len];omega)
 have hnb1:=hnA b1 hb1
 have r2:=r1.flat CN.cs_len (show 0<ra.xs.length by omega)
 have hc0:=hrav _ (List.getElem_mem (show 0<ra.xs.length by omega))
 have ht0:(ra.xs[0]'(by omega)).t=0:=by
  have h:=hrk.k 0 (show 0<ra.xs.length by omega) (by show 0<(kndF 12).length;decide)
  simpa[kndF,fitB]using h
 have hch:=hrk.h rfl _ (List.getElem?_eq_getElem (show 0<ra.xs.length by omega))
 generalize ra.xs[0]'(by omega)=c0 at r2 hc0 ht0 hch
 unfold CN.cs at r2
 rw[ht0]at r2
 have hwr:IntKind.i64.wrap c0.v=c0.v:=wrap_idP (by have:=hc0.v;omega)
 have hc0v:=hc0.v
 unfold PV.v RqV.v RsV.v
 dsimp only
 rw[hA]
 refine enterR Tryz.func128 rfl rfl rfl fun a hs hm=>?_
 clear hm
 have hm:=hm0
 refine gq20dc_ ?_;clear hs hm a;intros;rename_i a hm hs
 obtain⟨g4,rfl⟩:=hs.pp 4
 obtain⟨g6,rfl⟩:=hs.pp 6
 obtain⟨g7,rfl⟩:=hs.pp 7
 have hhU:∀_:Unit,Ro wB gm 0 (y.cl [slv (some gt) 4 y.tc]):=fun _=>hh1
 have hhL:Ro wB gm 0 [slv y.bA y.bs.length y.bc,.int .u16 y.key]:=fun j v hj=>hh1 j v (by
  have:=(List.getElem?_eq_some_iff.1 hj).1
  rcases(by simp at this;omega:j=0∨j=1)with rfl|rfl<;>exact hj)
 clear hh1 hh
 refine cMid (fun a w=>∃g10:Nat,Sl Tryz.f128.ntmps [(1,pt gm),(4,pt g4),(6,pt g6),(7,pt g7),(9,.pointer (some ⟨gt,tk*8,none⟩)),(10,pt g10),(11,.int .i64 (rawE (lsX p y.mv) xv))] a∧Mm A0 wB (⟨some g10,103,[.int .u8 (rawC (lsX p y.mv) xv).t,.int .u16 (rawC (lsX p y.mv) xv).v]⟩::⟨some g7,175,[.int .u8 xv.t,.int .u16 xv.v,.int .i64 xv.r,.int .i64 xv.o,.slice xd.A xd.xs.length xd.c,.int .i64 sp,.bool wt]⟩::⟨some g6,173,[.int .i64 (tk:Int),.int .i64 1,.int .i64 trap,.int .i64 cnt,.int .i64 pc,.int .i64 12,.slice (some ⟨b1,o1,none⟩) ra.xs.length ra.c,.slice rd.A rd.xs.length rd.c]⟩::⟨some g4,38,(p.cl [])⟩::⟨some gt,52,y.tcs⟩::⟨y.bA,3,y.bcs⟩::(y.m.hps++y.ts.map ThO.hp)) w) ?_ ?_
 ·with_reducible repeat(first|apply gThen|apply wp_seq)
  refine cDrawT (n:=15) (.s [0,1,2,3,4,5,6,7]<| .e [(8,.x<| .s [9,10,11]<| .o 12<| .o 13<| .t 14<| .d),(12,.o 8<| .x<| .s [9,10,11]<| .o 13<| .t 14<| .d)]) [⟨some g7,175,[.int .u8 xv.t,.int .u16 xv.v,.int .i64 xv.r,.int .i64 xv.o,.slice xd.A xd.xs.length xd.c,.int .i64 sp,.bool wt]⟩,⟨some g4,38,(p.cl [])⟩] hm rfl rfl ?_
  clear hm;intro t_ w1_ hm
  repeat' (first|(refine dgd799_ ?_;clear t_ hs hm a;intros;rename_i a hm hs t_)|refine tE t_ ?_|refine tC ?_ ?_|exact tN|intro t_|(refine oDo (i:=8) hs rfl (Wnt.none rfl) rfl rfl (by exact d_call hs rfl rfl rfl (pl 63 rfl) ((kraw y xv _ (hLS hm (fun h hh=>by repeat(first|exact hyh h hh|apply List.mem_cons_of_mem)) hy hv) hv hxv))) ?_;clear hs;rintro _ w1 ⟨rfl,hf⟩ a hs;(replace hm:=hm.pu hf);(clear hf);replace t_:=tX t_;refine⟨(hm.sub sub_),?_⟩)|(refine tD t_ ?_;(obtain⟨g10,rfl⟩:=hs.pp 10);(exact And.intro rfl ⟨g10,(sb_ hs),hm⟩))|fail)
 clear hs hm a
 rintro a w ⟨g10,hs,hm⟩
 have hcv:=rawC_val (lsX p y.mv) hxv
 generalize rawC (lsX p y.mv) xv=cv at hs hm hcv
 by_cases he:rawE (lsX p y.mv) xv=0
 rotate_left
 ·refine gsc5af_ ?_;clear hs hm a;intros;rename_i a hm hs
  refine gRet1 hs rfl rfl (hex y false _ hy hv rfl ?_)
  have hm':Mm A0 wB (⟨some gt,52,y.tcs⟩::⟨y.bA,3,y.bcs⟩::(y.m.hps++y.ts.map ThO.hp)) _:=hm.sub sub_
  rw[←hgt]at hm'
  exact hm'
 by_cases h255:c0.v≤255
 rotate_left
 ·refine gcShm0_ ?_;clear hs hm a;intros;rename_i a hm hs
  refine gRet1 hs rfl rfl (hex y false _ hy hv rfl ?_)
  have hm':Mm A0 wB (⟨some gt,52,y.tcs⟩::⟨y.bA,3,y.bcs⟩::(y.m.hps++y.ts.map ThO.hp)) _:=hm.sub sub_
  rw[←hgt]at hm'
  exact hm'
 refine gcShm0_ ?_;clear hs hm a;intros;rename_i a hm hs
 rw[hwr]at hm
 have htk:tk<y.ts.length:=by omega
 have hqyv:=hv.tt qy.d (List.mem_map.2 ⟨qy,List.mem_of_getElem? hqy,rfl⟩)
 have hrow0:Row (some gt) 4 y.tc 8 ((y.ts.set tk qy).flatMap ThO.v) y.tcs:=by rw[set_self hqy];exact hrt
 have r1':=trow_set hrow0 htk 4 (by omega) (.int .i64 c0.v) (q2:={qy with d:={qy.d with han:=c0.v}}) rfl
 obtain⟨z,hz⟩:∃z,z=y.upd tk {qy with d:={qy.d with han:=c0.v}} (y.tcs.set (tk*8+4) (.int .i64 c0.v)) y.m:=⟨_,rfl⟩
 have zo:z.ok:=by rw[hz];exact MO.upd_ok hy hy.m (hy.tt qy (List.mem_of_getElem? hqy)) (by rw[hgt,htl];exact r1')
 have zv:z.d.val p.ss B:=by rw[hz];exact MO.upd_val hv (Int.le_refl _) (MO.m_val hv) ⟨hqyv.st,hqyv.n,hqyv.pc,hqyv.cnt,⟨by dsimp only;omega,hch⟩,hqyv.sav,hqyv.trp,hqyv.cod,hqyv.cv⟩
 have zvs:z.vs=y.vs:=by rw[hz];exact MO.upd_vs (MeO.like.refl _)
 have hzt':z.ts[tk]?=some {qy with d:={qy.d with han:=c0.v}}:=by rw[hz];exact List.getElem?_set_self htk
 have zA:z.tA=some gt:=by rw[hz];exact hgt
 have zh:z.hps=⟨some gt,52,y.tcs.set (tk*8+4) (.int .i64 c0.v)⟩::⟨y.bA,3,y.bcs⟩::(y.m.hps++y.ts.map ThO.hp):=by rw[hz];exact(MO.hps_set (q':={qy with d:={qy.d with han:=c0.v}}) hqy rfl).trans (by rw[hgt])
 rw[←zh]at hm
 generalize hqze:({qy with d:={qy.d with han:=c0.v}}:ThO)=qz at hzt'
 replace hm:=MO.open_ (L:=[⟨some g10,103,[.int .u8 cv.t,.int .u16 cv.v]⟩,⟨some g7,175,[.int .u8 xv.t,.int .u16 xv.v,.int .i64 xv.r,.int .i64 xv.o,.slice xd.A xd.xs.length xd.c,.int .i64 sp,.bool wt]⟩,⟨some g6,173,[.int .i64 (tk:Int),.int .i64 1,.int .i64 trap,.int .i64 cnt,.int .i64 pc,.int .i64 12,.slice (some ⟨b1,o1,none⟩) ra.xs.length ra.c,.slice rd.A rd.xs.length rd.c]⟩,⟨some g4,38,(p.cl [])⟩]) (z:=z) hm hzt'
 simp only[List.cons_append,List.nil_append]at hm
 have hqzv:=(zv).tt qz.d (List.mem_map.2 ⟨qz,List.mem_of_getElem? hzt',rfl⟩)
 have hqzo:=(zo).tt qz (List.mem_of_getElem? hzt')
 have hqzr:Row qz.A qz.d.xs.length qz.c 2 (cvs qz.d.xs) qz.cs:=hqzo
 rw[hqzv.n]at hqzr
 obtain⟨gq,hgq⟩:=hqzr.some_ (by omega)
 rw[show qz.hp=⟨some gq,103,qz.cs⟩ by unfold ThO.hp;rw[hgq],zA]at hm
 rw[hgq]at hqzr
 have hztl:z.ts.length=4:=by have:=(zv).t;rwa[MO.d_len]at this
 have hzt:=(zo).t
 rw[hztl,zA]at hzt
 have hztk:tk<z.ts.length:=by omega
 have hzcl:=hzt.len
 have hzle:=hzt.le
 have hqcl:=hqzr.len
 have hqle:=hqzr.le
 have e1:z.tcs[tk*8+1]?=some (slv (some gq) 8 qz.c):=hzt.get (by rw[flat_get ThO.v 8 ThO.len z.ts tk 1 hztk (by omega),(List.getElem?_eq_some_iff.1 hzt').2,←hgq,←hqzv.n];rfl)
 obtain⟨W,hW⟩:∃W,(⟨z.bA,3,z.bcs⟩:Hp)::(z.m.hps++(z.ts.eraseIdx tk).map ThO.hp)=W:=⟨_,rfl⟩
 rw[hW]at hm
 refine cMid (fun a w=>Mm A0 wB (⟨some gq,103,cv.cs++qz.cs.drop 2⟩::⟨some gt,52,z.tcs.set (tk*8+0) (.int .i64 1)⟩::W) w∧Sl Tryz.f128.ntmps [(9,.pointer (some ⟨gt,tk*8,none⟩))] a) ?_ ?_
 ·with_reducible repeat(first|apply gThen|apply wp_seq)
  refine cDrawTB (n:=11) (.s [0,1,2,3,4,5,6]<| .o 7<| .x<| .s [8,9]<| .o 10<| .d) 10 [⟨some g10,103,[.int .u8 cv.t,.int .u16 cv.v]⟩,⟨some gt,52,z.tcs⟩] hm rfl rfl ?_
  clear hm;intro t_ w1_ hm
  repeat' (first|(refine dg95fa_ ?_;clear t_ hs hm a;intros;rename_i a hm hs t_)|refine tEB t_ ?_|refine tCB ?_ ?_|exact tNB|intro t_|(refine oDoNB (i:=7) hs rfl (Wnt.none rfl) rfl (by exact d_store hs rfl rfl rfl tab rfl rfl rfl rfl hm rep_ (putG (by show 0+2≤_;omega))) ?_;clear hs;rintro-w1 hm a hs;replace t_:=tX t_;refine⟨bu_,?_⟩)|(refine tDB t_ ?_;(exact And.intro rfl ⟨hm.sub sub_,(sb_ hs)⟩))|fail)
 clear hs hm a
 rintro a w ⟨hm,hs⟩
 refine gsc5af_ ?_;clear hs hm a;intros;rename_i a hm hs
 obtain⟨k1,k2,k3⟩:=ThO.reg_ok hqzo hqzv (r:=0) (by omega) hcv
 have hrow:Row (some gt) 4 z.tc 8 ((z.ts.set tk (qz.reg 0 cv)).flatMap ThO.v) z.tcs:=by rw[trow_same hztk k3,set_self hzt'];exact hzt
 have r1:=trow_set hrow hztk 0 (by omega) (.int .i64 1) (q2:={qz.reg 0 cv with d:={(qz.reg 0 cv).d with st:=1}}) rfl
 refine gRet1 hs rfl rfl (hex (z.upd tk {qz.reg 0 cv with d:={(qz.reg 0 cv).d with st:=1}} (z.tcs.set (tk*8+0) (.int .i64 1)) z.m) true _ (MO.upd_ok zo (zo).m k1 (by rw[zA,hztl];exact r1)) (MO.upd_val zv (Int.le_refl _) (MO.m_val zv) ⟨by dsimp only;omega,k2.n,by rw[k2.pc];exact hqzv.pc,by rw[k2.cnt];exact hqzv.cnt,by rw[k2.han];exact hqzv.han,k2.sav,by rw[k2.trp];exact hqzv.trp,by rw[k2.cod];exact hqzv.cod,k2.cv⟩) ((MO.upd_vs (MeO.like.refl _)).trans zvs) ?_)
 refine MO.close_ (L:=[]) (m:=z.m) hztk ?_
 rw[hW,zA,show ThO.hp {qz.reg 0 cv with d:={(qz.reg 0 cv).d with st:=1}}=⟨some gq,103,cv.cs++qz.cs.drop 2⟩ by unfold ThO.hp;rw[←hgq];rfl]
 exact hm
theorem gcShn0_{G H:Prop}(k:H)(s:Bx H→G:=by intro k_;(repeat(first|(refine ov701a_ ?_;(try clear hs a);intro a hs)|((with_reducible apply lCons);first|(refine dv hs gw_ rfl rfl da_ ?_;(try clear hs hm a);rintro _ w_ ⟨g_,rfl,-,hm⟩ a hs)|(refine stn hs rfl rfl ds_ ?_;(try clear hs hm a);rintro-w_ hm a hs))|refine sc_ ?_|((with_reducible apply lCons);first|(refine dvc hs hm gw_ rfl rfl rfl rfl rfl (pl 111 rfl) (kb _) ?_;(try clear hs hm a);intro w_ hm a hs))));(first|(have m_:=hm;have s_:=hs;clear hs;(try clear hm);revert m_ s_ a)|((first|refine rexc_ hs hm ?_|refine rexl_ hs hm ?_|refine rexg_ hs hm ?_|refine rexq_ hs hm ?_);intro a hm hs;revert hm hs a));(try revert w_);(repeat revert g_);exact k_.h):G:=s ⟨k⟩
theorem put_spw [HB](p:PV)(N gm:Nat)(y:MO)(B:Int)(tk:Nat)(q:ThD)(r:RqV)(x:RsV)(wB:World)(hp:p.at wB N)(hpv:p.val)(hN:N≤wB.heap.size)(hM:Mm (own y.hps) wB y.hps wB)(hno:∀b,b<N→¬own y.hps b)(hy:y.ok)(hv:y.d.val p.ss B)(hh:Ro wB gm 0 y.vs)(hng:¬own y.hps gm)(ht:tk<4)(hth:r.th=(tk:Int))(hq:y.d.ts[tk]?=some q) (hq2:q.st=2) (hra:Rd wB N r.a.A (cns r.a.xs)) (hrv:r.val) (hrk:r.kin) (hst:r.stop=1) (hxd:Rd wB N x.d.A (cns x.d.xs)) (hxf:x.fit) (hcall:r.call=10):
  Ret Tryz.prog 128 [p.v,pt gm,r.v,x.v] wB (fun u w'=>∃(z:MO)(b:Bool),u= .bool b∧z.ok∧z.d.val p.ss B∧z.vs=y.vs∧Mm (own y.hps) wB z.hps w'):=by
 obtain⟨A0,hA0⟩:∃A0,own y.hps=A0:=⟨_,rfl⟩
 rw[hA0]
 obtain⟨th,stop,trap,cnt,pc,call,ra,rd⟩:=r
 obtain⟨xv,xd,sp,wt⟩:=x
 dsimp only at hth hst hra hxd hcall
 subst hth hst
 have htl:y.ts.length=4:=by have:=hv.t;rwa[MO.d_len]at this
 have hrt:=hy.t
 rw[htl]at hrt
 obtain⟨gt,hgt⟩:=hrt.some_ (by omega)
 rw[hgt]at hrt
 have hcl:=hrt.len
 have hle:=hrt.le
 have hm0:Mm A0 wB (⟨some gt,52,y.tcs⟩::⟨y.bA,3,y.bcs⟩::(y.m.hps++y.ts.map ThO.hp)) wB:=by
  rw[←hA0,←hgt]
  exact hM
 have hh1:Ro wB gm 0 (y.cl [slv (some gt) 4 y.tc]):=by rw[←hgt,←htl];exact hh
 have hnA:∀b,b<N→¬A0 b:=hA0▸hno
 have hngA:¬A0 gm:=hA0▸hng
 have hrav:∀c∈ra.xs,c.val:=hrv.av
 have hxv:xv.val:=hxf.v
 have hxdn:xd.xs.length≤16:=hxf.d
 have hxdv:∀c∈xd.xs,c.val:=hxf.dv
 have hsp:-1≤sp∧sp≤3:=hxf.sp
 have hLS:∀{L:List Hp}{z:MO}{w:World},Mm A0 wB L w→(∀h∈z.hps,h∈L)→z.ok→z.d.val p.ss B→(lsX p z.mv).ok w:=fun hm hM zo zv=>lsX_ok ((hp.fr hm.fr hN hnA).ok (Nat.le_trans hN hm.fr.size)) hpv (MO.mv_ok hm hM zo) (by rw[MO.mv_d];exact zv)
 have kraw:∀(z:MO)(c:CN)(w'':World),(lsX p z.mv).ok w''→z.d.val p.ss B→c.val→Ret Tryz.prog 63 [.agg #[slv z.bA z.bs.length z.bc,.int .u16 z.key],.slice p.sA p.ss.length p.sc,.agg #[.int .u8 c.t,.int .u16 c.v,.int .i64 c.r,.int .i64 c.o]] w'' (fun u w'=>u= .tuple #[.agg #[.int .u8 (rawC (lsX p z.mv) c).t,.int .u16 (rawC (lsX p z.mv) c).v],.int .i64 (rawE (lsX p z.mv) c)]∧Pu w'' w'):=fun z c w'' hX zv hc=>by
  have h:=rawz_c (lsX p z.mv) c w'' hX hc
  rw[lsX_l (B:=B) (by rw[MO.mv_d];exact zv)]at h
  exact h
 have hex:∀(z:MO)(b:Bool)(w':World),z.ok→z.d.val p.ss B→z.vs=y.vs→Mm A0 wB z.hps w'→∃(z':MO)(b':Bool),Value.bool b= .bool b'∧z'.ok∧z'.d.val p.ss B∧z'.vs=y.vs∧Mm A0 wB z'.hps w':=fun z b w' h1 h2 h3 h4=>⟨z,b,rfl,h1,h2,h3,h4⟩
 obtain⟨qy,hqy,hqyd⟩:=MO.d_th hq
 have hyh:∀h∈y.hps,h∈(⟨some gt,52,y.tcs⟩:Hp)::⟨y.bA,3,y.bcs⟩::(y.m.hps++y.ts.map ThO.hp):=fun h hh=>by rw[←hgt];exact hh
 subst hcall
 have kb:=fun w''=>buf_c 10 w'' (by omega)
 rw[show bufF 10=0 from rfl]at kb
 have hal:ra.xs.length=2:=hrk.n
 have hc1v:=hrav _ (List.getElem_mem (show 1<ra.xs.length by omega))
 obtain⟨b1,o1,hA,hb1,r1⟩:=hra.ro (by rw[cns_len];omega)
 have hnb1:=hnA b1 hb1
 have r2:=r1.flat CN.cs_len (show 0<ra.xs.length by omega)
 have hc0:=hrav _ (List.getElem_mem (show 0<ra.xs.length by omega))
 have ht0:(ra.xs[0]'(by omega)).t=0:=by
  have h:=hrk.k 0 (show 0<ra.xs.length by omega) (by show 0<(kndF 10).length;decide)
  simpa[kndF,fitB]using h
 have r4:=r1.flat CN.cs_len (show 1<ra.xs.length by omega)
 have r4':∀_:Unit,Ro wB b1 (o1+1*4) (CN.cs (ra.xs[1]'(by omega))):=fun _=>r4
 clear r4
 generalize ra.xs[1]'(by omega)=c1 at r4' hc1v
 generalize ra.xs[0]'(by omega)=c0 at r2 hc0 ht0
 unfold CN.cs at r2 r4'
 rw[ht0]at r2
 have hwr:IntKind.i64.wrap c0.v=c0.v:=wrap_idP (by have:=hc0.v;omega)
 have hc0v:=hc0.v
 unfold PV.v RqV.v RsV.v
 dsimp only
 rw[hA]
 refine enterR Tryz.func128 rfl rfl rfl fun a hs hm=>?_
 clear hm
 have hm:=hm0
 refine gq20dc_ ?_;clear hs hm a;intros;rename_i a hm hs
 obtain⟨g4,rfl⟩:=hs.pp 4
 obtain⟨g6,rfl⟩:=hs.pp 6
 obtain⟨g7,rfl⟩:=hs.pp 7
 have hhU:∀_:Unit,Ro wB gm 0 (y.cl [slv (some gt) 4 y.tc]):=fun _=>hh1
 have hhL:Ro wB gm 0 [slv y.bA y.bs.length y.bc,.int .u16 y.key]:=fun j v hj=>hh1 j v (by
  have:=(List.getElem?_eq_some_iff.1 hj).1
  rcases(by simp at this;omega:j=0∨j=1)with rfl|rfl<;>exact hj)
 clear hh1 hh
 refine cMid (fun a w=>∃g10:Nat,Sl Tryz.f128.ntmps [(1,pt gm),(4,pt g4),(6,pt g6),(7,pt g7),(9,.pointer (some ⟨gt,tk*8,none⟩)),(10,pt g10),(11,.int .i64 (rawE (lsX p y.mv) xv))] a∧Mm A0 wB (⟨some g10,103,[.int .u8 (rawC (lsX p y.mv) xv).t,.int .u16 (rawC (lsX p y.mv) xv).v]⟩::⟨some g7,175,[.int .u8 xv.t,.int .u16 xv.v,.int .i64 xv.r,.int .i64 xv.o,.slice xd.A xd.xs.length xd.c,.int .i64 sp,.bool wt]⟩::⟨some g6,173,[.int .i64 (tk:Int),.int .i64 1,.int .i64 trap,.int .i64 cnt,.int .i64 pc,.int .i64 10,.slice (some ⟨b1,o1,none⟩) ra.xs.length ra.c,.slice rd.A rd.xs.length rd.c]⟩::⟨some g4,38,(p.cl [])⟩::⟨some gt,52,y.tcs⟩::⟨y.bA,3,y.bcs⟩::(y.m.hps++y.ts.map ThO.hp)) w) ?_ ?_
 ·with_reducible repeat(first|apply gThen|apply wp_seq)
  refine cDrawT (n:=15) (.s [0,1,2,3,4,5,6,7]<| .e [(8,.x<| .s [9,10,11]<| .o 12<| .o 13<| .t 14<| .d),(12,.o 8<| .x<| .s [9,10,11]<| .o 13<| .t 14<| .d)]) [⟨some g7,175,[.int .u8 xv.t,.int .u16 xv.v,.int .i64 xv.r,.int .i64 xv.o,.slice xd.A xd.xs.length xd.c,.int .i64 sp,.bool wt]⟩,⟨some g4,38,(p.cl [])⟩] hm rfl rfl ?_
  clear hm;intro t_ w1_ hm
  repeat' (first|(refine dgd799_ ?_;clear t_ hs hm a;intros;rename_i a hm hs t_)|refine tE t_ ?_|refine tC ?_ ?_|exact tN|intro t_|(refine oDo (i:=8) hs rfl (Wnt.none rfl) rfl rfl (by exact d_call hs rfl rfl rfl (pl 63 rfl) ((kraw y xv _ (hLS hm (fun h hh=>by repeat(first|exact hyh h hh|apply List.mem_cons_of_mem)) hy hv) hv hxv))) ?_;clear hs;rintro _ w1 ⟨rfl,hf⟩ a hs;(replace hm:=hm.pu hf);(clear hf);replace t_:=tX t_;refine⟨(hm.sub sub_),?_⟩)|(refine tD t_ ?_;(obtain⟨g10,rfl⟩:=hs.pp 10);(exact And.intro rfl ⟨g10,(sb_ hs),hm⟩))|fail)
 clear hs hm a
 rintro a w ⟨g10,hs,hm⟩
 have hcv:=rawC_val (lsX p y.mv) hxv
 generalize rawC (lsX p y.mv) xv=cv at hs hm hcv
 by_cases he:rawE (lsX p y.mv) xv=0
 rotate_left
 ·refine gsc5af_ ?_;clear hs hm a;intros;rename_i a hm hs
  refine gRet1 hs rfl rfl (hex y false _ hy hv rfl ?_)
  have hm':Mm A0 wB (⟨some gt,52,y.tcs⟩::⟨y.bA,3,y.bcs⟩::(y.m.hps++y.ts.map ThO.hp)) _:=hm.sub sub_
  rw[←hgt]at hm'
  exact hm'
 by_cases hs0:0≤sp
 rotate_left
 ·refine gcShn0_ ?_;clear hs hm a;intros;rename_i a hm hs
  replace hm:=MO.open_ (L:=[⟨some g10,103,[.int .u8 cv.t,.int .u16 cv.v]⟩,⟨some g7,175,[.int .u8 xv.t,.int .u16 xv.v,.int .i64 xv.r,.int .i64 xv.o,.slice xd.A xd.xs.length xd.c,.int .i64 sp,.bool wt]⟩,⟨some g6,173,[.int .i64 (tk:Int),.int .i64 1,.int .i64 trap,.int .i64 cnt,.int .i64 pc,.int .i64 10,.slice (some ⟨b1,o1,none⟩) ra.xs.length ra.c,.slice rd.A rd.xs.length rd.c]⟩,⟨some g4,38,(p.cl [])⟩]) (z:=y) (by rw[show y.hps=⟨y.tA,52,y.tcs⟩::⟨y.bA,3,y.bcs⟩::(y.m.hps++y.ts.map ThO.hp)from rfl,hgt];exact hm) hqy
  simp only[List.cons_append,List.nil_append]at hm
  have hqyv:=(hv).tt qy.d (List.mem_map.2 ⟨qy,List.mem_of_getElem? hqy,rfl⟩)
  have hqyo:=(hy).tt qy (List.mem_of_getElem? hqy)
  have hqyr:Row qy.A qy.d.xs.length qy.c 2 (cvs qy.d.xs) qy.cs:=hqyo
  rw[hqyv.n]at hqyr
  obtain⟨gq,hgq⟩:=hqyr.some_ (by omega)
  rw[show qy.hp=⟨some gq,103,qy.cs⟩ by unfold ThO.hp;rw[hgq],hgt]at hm
  rw[hgq]at hqyr
  have hztl:y.ts.length=4:=by have:=(hv).t;rwa[MO.d_len]at this
  have hzt:=(hy).t
  rw[hztl,hgt]at hzt
  have hztk:tk<y.ts.length:=by omega
  have hzcl:=hzt.len
  have hzle:=hzt.le
  have hqcl:=hqyr.len
  have hqle:=hqyr.le
  have e1:y.tcs[tk*8+1]?=some (slv (some gq) 8 qy.c):=hzt.get (by rw[flat_get ThO.v 8 ThO.len y.ts tk 1 hztk (by omega),(List.getElem?_eq_some_iff.1 hqy).2,←hgq,←hqyv.n];rfl)
  obtain⟨W,hW⟩:∃W,(⟨y.bA,3,y.bcs⟩:Hp)::(y.m.hps++(y.ts.eraseIdx tk).map ThO.hp)=W:=⟨_,rfl⟩
  rw[hW]at hm
  refine cMid (fun a w=>Mm A0 wB (⟨some gq,103,cv.cs++qy.cs.drop 2⟩::⟨some gt,52,y.tcs.set (tk*8+0) (.int .i64 1)⟩::W) w∧Sl Tryz.f128.ntmps [(9,.pointer (some ⟨gt,tk*8,none⟩))] a) ?_ ?_
  ·with_reducible repeat(first|apply gThen|apply wp_seq)
   refine cDrawTB (n:=11) (.s [0,1,2,3,4,5,6]<| .o 7<| .x<| .s [8,9]<| .o 10<| .d) 10 [⟨some g10,103,[.int .u8 cv.t,.int .u16 cv.v]⟩,⟨some gt,52,y.tcs⟩] hm rfl rfl ?_
   clear hm;intro t_ w1_ hm
   repeat' (first|(refine dg95fa_ ?_;clear t_ hs hm a;intros;rename_i a hm hs t_)|refine tEB t_ ?_|refine tCB ?_ ?_|exact tNB|intro t_|(refine oDoNB (i:=7) hs rfl (Wnt.none rfl) rfl (by exact d_store hs rfl rfl rfl tab rfl rfl rfl rfl hm rep_ (putG (by show 0+2≤_;omega))) ?_;clear hs;rintro-w1 hm a hs;replace t_:=tX t_;refine⟨bu_,?_⟩)|(refine tDB t_ ?_;(exact And.intro rfl ⟨hm.sub sub_,(sb_ hs)⟩))|fail)
  clear hs hm a
  rintro a w ⟨hm,hs⟩
  refine gsc5af_ ?_;clear hs hm a;intros;rename_i a hm hs
  obtain⟨k1,k2,k3⟩:=ThO.reg_ok hqyo hqyv (r:=0) (by omega) hcv
  have hrow:Row (some gt) 4 y.tc 8 ((y.ts.set tk (qy.reg 0 cv)).flatMap ThO.v) y.tcs:=by rw[trow_same hztk k3,set_self hqy];exact hzt
  have r1:=trow_set hrow hztk 0 (by omega) (.int .i64 1) (q2:={qy.reg 0 cv with d:={(qy.reg 0 cv).d with st:=1}}) rfl
  refine gRet1 hs rfl rfl (hex (y.upd tk {qy.reg 0 cv with d:={(qy.reg 0 cv).d with st:=1}} (y.tcs.set (tk*8+0) (.int .i64 1)) y.m) true _ (MO.upd_ok hy (hy).m k1 (by rw[hgt,hztl];exact r1)) (MO.upd_val hv (Int.le_refl _) (MO.m_val hv) ⟨by dsimp only;omega,k2.n,by rw[k2.pc];exact hqyv.pc,by rw[k2.cnt];exact hqyv.cnt,by rw[k2.han];exact hqyv.han,k2.sav,by rw[k2.trp];exact hqyv.trp,by rw[k2.cod];exact hqyv.cod,k2.cv⟩) ((MO.upd_vs (MeO.like.refl _)).trans rfl) ?_)
  refine MO.close_ (L:=[]) (m:=y.m) hztk ?_
  rw[hW,hgt,show ThO.hp {qy.reg 0 cv with d:={(qy.reg 0 cv).d with st:=1}}=⟨some gq,103,cv.cs++qy.cs.drop 2⟩ by unfold ThO.hp;rw[←hgq];rfl]
  exact hm
 obtain⟨sk,rfl⟩:∃k:Nat,sp=(k:Int):=⟨sp.toNat,by omega⟩
 have hsk:sk<y.ts.length:=by omega
 refine gcShn0_ ?_;clear hs hm a;intros;rename_i a hm hs
 have r4:=r4' ()
 refine cMid (fun a w=>∃g19:Nat,Sl Tryz.f128.ntmps [(1,pt gm),(4,pt g4),(6,pt g6),(7,pt g7),(9,.pointer (some ⟨gt,tk*8,none⟩)),(10,pt g10),(19,pt g19),(20,.int .i64 (rawE (lsX p y.mv) c1))] a∧Mm A0 wB (⟨some g19,103,[.int .u8 (rawC (lsX p y.mv) c1).t,.int .u16 (rawC (lsX p y.mv) c1).v]⟩::⟨some g10,103,[.int .u8 cv.t,.int .u16 cv.v]⟩::⟨some g7,175,[.int .u8 xv.t,.int .u16 xv.v,.int .i64 xv.r,.int .i64 xv.o,.slice xd.A xd.xs.length xd.c,.int .i64 (sk:Int),.bool wt]⟩::⟨some g6,173,[.int .i64 (tk:Int),.int .i64 1,.int .i64 trap,.int .i64 cnt,.int .i64 pc,.int .i64 10,.slice (some ⟨b1,o1,none⟩) ra.xs.length ra.c,.slice rd.A rd.xs.length rd.c]⟩::⟨some g4,38,(p.cl [])⟩::⟨some gt,52,y.tcs⟩::⟨y.bA,3,y.bcs⟩::(y.m.hps++y.ts.map ThO.hp)) w) ?_ ?_
 ·with_reducible repeat(first|apply gThen|apply wp_seq)
  refine cDrawT (n:=17) (.s [0,1,2,3,4,5,6,7,8,9]<| .e [(10,.x<| .s [11,12,13]<| .o 14<| .o 15<| .t 16<| .d),(14,.o 10<| .x<| .s [11,12,13]<| .o 15<| .t 16<| .d)]) [⟨some g6,173,[.int .i64 (tk:Int),.int .i64 1,.int .i64 trap,.int .i64 cnt,.int .i64 pc,.int .i64 10,.slice (some ⟨b1,o1,none⟩) ra.xs.length ra.c,.slice rd.A rd.xs.length rd.c]⟩,⟨some g4,38,(p.cl [])⟩] hm rfl rfl ?_
  clear hm;intro t_ w1_ hm
  repeat' (first|(refine dgd799_ ?_;clear t_ hs hm a;intros;rename_i a hm hs t_)|refine tE t_ ?_|refine tC ?_ ?_|exact tN|intro t_|(refine oDo (i:=10) hs rfl (Wnt.none rfl) rfl rfl (by exact d_call hs rfl rfl rfl (pl 63 rfl) ((kraw y c1 _ (hLS hm (fun h hh=>by repeat(first|exact hyh h hh|apply List.mem_cons_of_mem)) hy hv) hv hc1v))) ?_;clear hs;rintro _ w1 ⟨rfl,hf⟩ a hs;(replace hm:=hm.pu hf);(clear hf);replace t_:=tX t_;refine⟨(hm.sub sub_),?_⟩)|(refine tD t_ ?_;(obtain⟨g19,rfl⟩:=hs.pp 19);(exact And.intro rfl ⟨g19,(sb_ hs),hm⟩))|fail)
 clear hs hm a r4 r4'
 rintro a w ⟨g19,hs,hm⟩
 have hca:=rawC_val (lsX p y.mv) hc1v
 generalize rawC (lsX p y.mv) c1=ca at hs hm hca
 have hh1:=hhU ()
 clear hhL
 obtain⟨qs,hqs⟩:∃q,y.ts[sk]?=some q:=⟨_,List.getElem?_eq_getElem hsk⟩
 have hget:∀j v,j<8→qs.v[j]?=some v→y.tcs[sk*8+j]?=some v:=fun j v hj hv'=>hrt.get (by rw[flat_get ThO.v 8 ThO.len y.ts sk j hsk hj,(List.getElem?_eq_some_iff.1 hqs).2];exact hv')
 have es:=hget 0 (.int .i64 qs.d.st) (by omega) rfl
 by_cases he2:rawE (lsX p y.mv) c1=0
 rotate_left
 ·refine gq20dc_ ?_;clear hs hm a;intros;rename_i a hm hs
  refine gRet1 hs rfl rfl (hex y false _ hy hv rfl ?_)
  have hm':Mm A0 wB (⟨some gt,52,y.tcs⟩::⟨y.bA,3,y.bcs⟩::(y.m.hps++y.ts.map ThO.hp)) _:=hm.sub sub_
  rw[←hgt]at hm'
  exact hm'
 by_cases hst0:qs.d.st=0
 rotate_left
 ·refine gq20dc_ ?_;clear hs hm a;intros;rename_i a hm hs
  refine gRet1 hs rfl rfl (hex y false _ hy hv rfl ?_)
  have hm':Mm A0 wB (⟨some gt,52,y.tcs⟩::⟨y.bA,3,y.bcs⟩::(y.m.hps++y.ts.map ThO.hp)) _:=hm.sub sub_
  rw[←hgt]at hm'
  exact hm'
 by_cases h255:c0.v≤255
 rotate_left
 ·refine gq20dc_ ?_;clear hs hm a;intros;rename_i a hm hs
  refine gRet1 hs rfl rfl (hex y false _ hy hv rfl ?_)
  have hm':Mm A0 wB (⟨some gt,52,y.tcs⟩::⟨y.bA,3,y.bcs⟩::(y.m.hps++y.ts.map ThO.hp)) _:=hm.sub sub_
  rw[←hgt]at hm'
  exact hm'
 refine gq20dc_ ?_;clear hs hm a;intros;rename_i a hm hs
 have hsk8:sk*8+8≤y.tcs.length:=by omega
 refine cMid (fun a w=>∃qn:ThO,qn.ok∧qn.d={thd0 with st:=1,pc:=c0.v,xs:=ca::List.replicate 7 ⟨0,0⟩}∧Sl Tryz.f128.ntmps [(1,pt gm),(4,pt g4),(6,pt g6),(7,pt g7),(9,.pointer (some ⟨gt,tk*8,none⟩)),(10,pt g10)] a∧Mm A0 wB (qn.hp::⟨some g10,103,[.int .u8 cv.t,.int .u16 cv.v]⟩::⟨some g7,175,[.int .u8 xv.t,.int .u16 xv.v,.int .i64 xv.r,.int .i64 xv.o,.slice xd.A xd.xs.length xd.c,.int .i64 (sk:Int),.bool wt]⟩::⟨some g6,173,[.int .i64 (tk:Int),.int .i64 1,.int .i64 trap,.int .i64 cnt,.int .i64 pc,.int .i64 10,.slice (some ⟨b1,o1,none⟩) ra.xs.length ra.c,.slice rd.A rd.xs.length rd.c]⟩::⟨some g4,38,(p.cl [])⟩::⟨some gt,52,y.tcs.take (sk*8)++qn.v++y.tcs.drop (sk*8+8)⟩::⟨y.bA,3,y.bcs⟩::(y.m.hps++y.ts.map ThO.hp)) w) ?_ ?_
 ·with_reducible repeat(first|apply gThen|apply wp_seq)
  refine cDrawT (n:=16) (.s [0,1,2,3,4,5,6,7,8,9,10,11,12]<| .o 13<| .x<| .t 14<| .o 15<| .x<| .d) [⟨some g19,103,[.int .u8 ca.t,.int .u16 ca.v]⟩,⟨some g7,175,[.int .u8 xv.t,.int .u16 xv.v,.int .i64 xv.r,.int .i64 xv.o,.slice xd.A xd.xs.length xd.c,.int .i64 (sk:Int),.bool wt]⟩,⟨some g6,173,[.int .i64 (tk:Int),.int .i64 1,.int .i64 trap,.int .i64 cnt,.int .i64 pc,.int .i64 10,.slice (some ⟨b1,o1,none⟩) ra.xs.length ra.c,.slice rd.A rd.xs.length rd.c]⟩] hm rfl rfl ?_
  clear hm;intro t_ w1_ hm
  repeat' (first|(refine dgd799_ ?_;clear t_ hs hm a;intros;rename_i a hm hs t_)|refine tE t_ ?_|refine tC ?_ ?_|exact tN|intro t_|(refine oDo (i:=13) hs rfl (Wnt.none rfl) rfl rfl (by exact d_call hs rfl rfl rfl (pl 140 rfl) ((by rw[hwr];exact tnew_c c0.v ca _))) ?_;clear hs;rintro _ w1 ⟨qn,rfl,hqno,hqnd,hN',hf⟩ a hs;(replace hm:=hm.gain hf hN');(clear hf hN');(simp only[List.cons_append,List.nil_append]at hm);replace t_:=tX t_;refine⟨(hm.sub sub_),?_⟩)|(refine oDoN (i:=15) hs rfl (Wnt.none rfl) rfl (by exact d_store hs rfl rfl rfl tab rfl rfl rfl rfl hm rep_ (putG (by show sk*8+8≤_;omega))) ?_;clear hs;rintro-w1 hm a hs;replace t_:=tX t_;refine⟨(hm.sub sub_),?_⟩)|(refine tD t_ ?_;(exact And.intro rfl ⟨qn,hqno,hqnd,(sb_ hs),hm.sub sub_⟩))|fail)
 clear hs hm a
 rintro a w ⟨qn,hqno,hqnd,hs,hm⟩
 have hne:sk≠tk:=fun e=>by
  subst e
  rw[hqy]at hqs
  obtain rfl:=Option.some.inj hqs
  rw[hqyd]at hst0
  omega
 have hsp2:=hrt.splice (o:=sk*8) (ys:=qn.v) (by rw[ThO.len];omega)
 rw[ThO.len,flat_splice ThO.v 8 ThO.len y.ts sk qn hsk]at hsp2
 obtain⟨z,hz⟩:∃z,z=y.upd sk qn (y.tcs.take (sk*8)++qn.v++y.tcs.drop (sk*8+8)) y.m:=⟨_,rfl⟩
 have hB0:0≤B:=by
  have:=(hv.tt qy.d (List.mem_map.2 ⟨qy,List.mem_of_getElem? hqy,rfl⟩)).cnt
  omega
 have zo:z.ok:=by rw[hz];exact MO.upd_ok hy hy.m hqno (by rw[hgt,htl];exact hsp2)
 have zv:z.d.val p.ss B:=by
  rw[hz]
  refine MO.upd_val hv (Int.le_refl _) (MO.m_val hv) ?_
  rw[hqnd]
  exact⟨by dsimp only;omega,rfl,by dsimp only;omega,by show(0:Int)≤0∧(0:Int)≤B;omega,⟨Int.le_refl _,by have:=HB.ge;show(-1:Int)≤HB.h;omega⟩,by show(-1:Int)≤-1∧(-1:Int)≤255;omega,by show(0:Int)≤0∧(0:Int)≤6;omega,by show(0:Int)≤0∧(0:Int)≤65535;omega,fun c hc=>by
   rcases List.mem_cons.1 hc with rfl|hc
   ·exact hca
   ·obtain⟨-,rfl⟩:=List.mem_replicate.1 hc
    exact⟨.inl rfl,by dsimp only;omega,by dsimp only;omega⟩⟩
 have zvs:z.vs=y.vs:=by rw[hz];exact MO.upd_vs (MeO.like.refl _)
 have hzt':z.ts[tk]?=some qy:=by rw[hz];exact(List.getElem?_set_ne hne).trans hqy
 have zA:z.tA=some gt:=by rw[hz];exact hgt
 replace hm:=MO.close_ (z:=y) (q:=qn) (m:=y.m) (L:=[⟨some g10,103,[.int .u8 cv.t,.int .u16 cv.v]⟩,⟨some g7,175,[.int .u8 xv.t,.int .u16 xv.v,.int .i64 xv.r,.int .i64 xv.o,.slice xd.A xd.xs.length xd.c,.int .i64 (sk:Int),.bool wt]⟩,⟨some g6,173,[.int .i64 (tk:Int),.int .i64 1,.int .i64 trap,.int .i64 cnt,.int .i64 pc,.int .i64 10,.slice (some ⟨b1,o1,none⟩) ra.xs.length ra.c,.slice rd.A rd.xs.length rd.c]⟩,⟨some g4,38,(p.cl [])⟩]) hsk (tcs:=y.tcs.take (sk*8)++qn.v++y.tcs.drop (sk*8+8)) (by
  have h1:=MO.open_ (L:=[qn.hp,⟨some g10,103,[.int .u8 cv.t,.int .u16 cv.v]⟩,⟨some g7,175,[.int .u8 xv.t,.int .u16 xv.v,.int .i64 xv.r,.int .i64 xv.o,.slice xd.A xd.xs.length xd.c,.int .i64 (sk:Int),.bool wt]⟩,⟨some g6,173,[.int .i64 (tk:Int),.int .i64 1,.int .i64 trap,.int .i64 cnt,.int .i64 pc,.int .i64 10,.slice (some ⟨b1,o1,none⟩) ra.xs.length ra.c,.slice rd.A rd.xs.length rd.c]⟩,⟨some g4,38,(p.cl [])⟩]) (z:={y with tcs:=y.tcs.take (sk*8)++qn.v++y.tcs.drop (sk*8+8)}) (q:=qs) (t:=sk) (by
   rw[show MO.hps {y with tcs:=y.tcs.take (sk*8)++qn.v++y.tcs.drop (sk*8+8)}=⟨y.tA,52,y.tcs.take (sk*8)++qn.v++y.tcs.drop (sk*8+8)⟩::⟨y.bA,3,y.bcs⟩::(y.m.hps++y.ts.map ThO.hp)from rfl,hgt]
   exact hm) hqs
  have h2:=h1.sub (List.Sublist.cons_cons _ (List.Sublist.cons_cons _ (List.Sublist.cons_cons _ (List.Sublist.cons_cons _ (List.Sublist.cons_cons _ (List.Sublist.cons _ (List.Sublist.refl _)))))))
  exact h2.perm (List.perm_middle (l₁:=[_,_,_,_])))
 rw[←hz]at hm
 refine gsc5af_ ?_;clear hs hm a;intros;rename_i a hm hs
 replace hm:=MO.open_ (L:=[⟨some g10,103,[.int .u8 cv.t,.int .u16 cv.v]⟩,⟨some g7,175,[.int .u8 xv.t,.int .u16 xv.v,.int .i64 xv.r,.int .i64 xv.o,.slice xd.A xd.xs.length xd.c,.int .i64 (sk:Int),.bool wt]⟩,⟨some g6,173,[.int .i64 (tk:Int),.int .i64 1,.int .i64 trap,.int .i64 cnt,.int .i64 pc,.int .i64 10,.slice (some ⟨b1,o1,none⟩) ra.xs.length ra.c,.slice rd.A rd.xs.length rd.c]⟩,⟨some g4,38,(p.cl [])⟩]) (z:=z) hm hzt'
 simp only[List.cons_append,List.nil_append]at hm
 have hqyv:=(zv).tt qy.d (List.mem_map.2 ⟨qy,List.mem_of_getElem? hzt',rfl⟩)
 have hqyo:=(zo).tt qy (List.mem_of_getElem? hzt')
 have hqyr:Row qy.A qy.d.xs.length qy.c 2 (cvs qy.d.xs) qy.cs:=hqyo
 rw[hqyv.n]at hqyr
 obtain⟨gq,hgq⟩:=hqyr.some_ (by omega)
 rw[show qy.hp=⟨some gq,103,qy.cs⟩ by unfold ThO.hp;rw[hgq],zA]at hm
 rw[hgq]at hqyr
 have hztl:z.ts.length=4:=by have:=(zv).t;rwa[MO.d_len]at this
 have hzt:=(zo).t
 rw[hztl,zA]at hzt
 have hztk:tk<z.ts.length:=by omega
 have hzcl:=hzt.len
 have hzle:=hzt.le
 have hqcl:=hqyr.len
 have hqle:=hqyr.le
 have e1:z.tcs[tk*8+1]?=some (slv (some gq) 8 qy.c):=hzt.get (by rw[flat_get ThO.v 8 ThO.len z.ts tk 1 hztk (by omega),(List.getElem?_eq_some_iff.1 hzt').2,←hgq,←hqyv.n];rfl)
 obtain⟨W,hW⟩:∃W,(⟨z.bA,3,z.bcs⟩:Hp)::(z.m.hps++(z.ts.eraseIdx tk).map ThO.hp)=W:=⟨_,rfl⟩
 rw[hW]at hm
 refine cMid (fun a w=>Mm A0 wB (⟨some gq,103,cv.cs++qy.cs.drop 2⟩::⟨some gt,52,z.tcs.set (tk*8+0) (.int .i64 1)⟩::W) w∧Sl Tryz.f128.ntmps [(9,.pointer (some ⟨gt,tk*8,none⟩))] a) ?_ ?_
 ·with_reducible repeat(first|apply gThen|apply wp_seq)
  refine cDrawTB (n:=11) (.s [0,1,2,3,4,5,6]<| .o 7<| .x<| .s [8,9]<| .o 10<| .d) 10 [⟨some g10,103,[.int .u8 cv.t,.int .u16 cv.v]⟩,⟨some gt,52,z.tcs⟩] hm rfl rfl ?_
  clear hm;intro t_ w1_ hm
  repeat' (first|(refine dg95fa_ ?_;clear t_ hs hm a;intros;rename_i a hm hs t_)|refine tEB t_ ?_|refine tCB ?_ ?_|exact tNB|intro t_|(refine oDoNB (i:=7) hs rfl (Wnt.none rfl) rfl (by exact d_store hs rfl rfl rfl tab rfl rfl rfl rfl hm rep_ (putG (by show 0+2≤_;omega))) ?_;clear hs;rintro-w1 hm a hs;replace t_:=tX t_;refine⟨bu_,?_⟩)|(refine tDB t_ ?_;(exact And.intro rfl ⟨hm.sub sub_,(sb_ hs)⟩))|fail)
 clear hs hm a
 rintro a w ⟨hm,hs⟩
 refine gsc5af_ ?_;clear hs hm a;intros;rename_i a hm hs
 obtain⟨k1,k2,k3⟩:=ThO.reg_ok hqyo hqyv (r:=0) (by omega) hcv
 have hrow:Row (some gt) 4 z.tc 8 ((z.ts.set tk (qy.reg 0 cv)).flatMap ThO.v) z.tcs:=by rw[trow_same hztk k3,set_self hzt'];exact hzt
 have r1:=trow_set hrow hztk 0 (by omega) (.int .i64 1) (q2:={qy.reg 0 cv with d:={(qy.reg 0 cv).d with st:=1}}) rfl
 refine gRet1 hs rfl rfl (hex (z.upd tk {qy.reg 0 cv with d:={(qy.reg 0 cv).d with st:=1}} (z.tcs.set (tk*8+0) (.int .i64 1)) z.m) true _ (MO.upd_ok zo (zo).m k1 (by rw[zA,hztl];exact r1)) (MO.upd_val zv (Int.le_refl _) (MO.m_val zv) ⟨by dsimp only;omega,k2.n,by rw[k2.pc];exact hqyv.pc,by rw[k2.cnt];exact hqyv.cnt,by rw[k2.han];exact hqyv.han,k2.sav,by rw[k2.trp];exact hqyv.trp,by rw[k2.cod];exact hqyv.cod,k2.cv⟩) ((MO.upd_vs (MeO.like.refl _)).trans zvs) ?_)
 refine MO.close_ (L:=[]) (m:=z.m) hztk ?_
 rw[hW,zA,show ThO.hp {qy.reg 0 cv with d:={(qy.reg 0 cv).d with st:=1}}=⟨some gq,103,cv.cs++qy.cs.drop 2⟩ by unfold ThO.hp;rw[←hgq];rfl]
 exact hm
theorem gpSho0_{G H:Prop}(k:H)(s:Bx H→G:=by intro k_;(repeat(first|(refine ov701a_ ?_;(try clear hs a);intro a hs)|((with_reducible apply lCons);first|(refine dv hs gw_ rfl rfl da_ ?_;(try clear hs hm a);rintro _ w_ ⟨g_,rfl,-,hm⟩ a hs)|(refine stn hs rfl rfl ds_ ?_;(try clear hs hm a);rintro-w_ hm a hs))|refine sc_ ?_));have m_:=hm;have s_:=hs;clear hs;(try clear hm);revert m_ s_ a;(try revert w_);(repeat revert g_);exact k_.h):G:=s ⟨k⟩
theorem gcSho1_{G H:Prop}(k:H)(s:Bx H→G:=by intro k_;(repeat(first|(refine oq8d44_ ?_;(try clear hs a);intro a hs)|((with_reducible apply lCons);first|(refine dv hs gw_ rfl rfl da_ ?_;(try clear hs hm a);rintro _ w_ ⟨g_,rfl,-,hm⟩ a hs)|(refine stn hs rfl rfl ds_ ?_;(try clear hs hm a);rintro-w_ hm a hs))|((with_reducible apply qNil);(try clear hm);intro w_ hm)|refine cQ_ ?_|refine sc_ ?_|((with_reducible apply lCons);first|(refine dvc hs hm gw_ rfl rfl rfl rfl rfl (pl 61 rfl) (kprp _ (hLS hm (fun h hh=>by repeat(first|exact hyh h hh|apply List.mem_cons_of_mem)) hy hv)) ?_;(try clear hs hm a);intro w_ hm a hs))|((with_reducible apply qCons);first|(refine qwc hs gw_ rfl rfl rfl rfl rfl (pl 61 rfl) (fun w hm=>kprp _ (hLS hm (fun h hh=>by repeat(first|exact hyh h hh|apply List.mem_cons_of_mem)) hy hv)) ?_;(try clear hs a);intro a hs))));(first|(have m_:=hm;have s_:=hs;clear hs;(try clear hm);revert m_ s_ a)|((first|refine rexc_ hs hm ?_|refine rexl_ hs hm ?_|refine rexg_ hs hm ?_|refine rexq_ hs hm ?_);intro a hm hs;revert hm hs a));(try revert w_);(repeat revert g_);exact k_.h):G:=s ⟨k⟩
theorem gpSho2_{G H:Prop}(k:H)(s:Bx H→G:=by intro k_;(repeat(first|(refine oq8d44_ ?_;(try clear hs a);intro a hs)|((with_reducible apply lCons);first|(refine dv hs gw_ rfl rfl da_ ?_;(try clear hs hm a);rintro _ w_ ⟨g_,rfl,-,hm⟩ a hs)|(refine stn hs rfl rfl ds_ ?_;(try clear hs hm a);rintro-w_ hm a hs))|((with_reducible apply qNil);(try clear hm);intro w_ hm)|refine cQ_ ?_|refine sc_ ?_));have m_:=hm;have s_:=hs;clear hs;(try clear hm);revert m_ s_ a;(try revert w_);(repeat revert g_);exact k_.h):G:=s ⟨k⟩
theorem bufF_two{c:Int}(h:bufF c=2):c=2∨c=14:=by
 unfold bufF at h
 split at h
 ·omega
 ·split at h
  ·omega
  ·split at h
   ·exact .inl (by assumption)
   ·split at h
    ·exact .inr (by assumption)
    ·omega
structure PbX where
 k:Nat
 m:MeO
theorem put_buf [HB](p:PV)(N gm:Nat)(y:MO)(B:Int)(tk:Nat)(q:ThD)(r:RqV)(x:RsV)(wB:World)(hp:p.at wB N)(hpv:p.val)(hN:N≤wB.heap.size)(hM:Mm (own y.hps) wB y.hps wB)(hno:∀b,b<N→¬own y.hps b)(hy:y.ok)(hv:y.d.val p.ss B)(hh:Ro wB gm 0 y.vs)(hng:¬own y.hps gm)(ht:tk<4)(hth:r.th=(tk:Int))(hq:y.d.ts[tk]?=some q) (hq2:q.st=2) (hra:Rd wB N r.a.A (cns r.a.xs)) (hrv:r.val) (hrk:r.kin) (hst:r.stop=1) (hxd:Rd wB N x.d.A (cns x.d.xs)) (hxf:x.fit) (hcall:bufF r.call=2) (hnz:0<x.d.xs.length):
  Ret Tryz.prog 128 [p.v,pt gm,r.v,x.v] wB (fun u w'=>∃(z:MO)(b:Bool),u= .bool b∧z.ok∧z.d.val p.ss B∧z.vs=y.vs∧Mm (own y.hps) wB z.hps w'):=by
 obtain⟨A0,hA0⟩:∃A0,own y.hps=A0:=⟨_,rfl⟩
 rw[hA0]
 obtain⟨th,stop,trap,cnt,pc,call,ra,rd⟩:=r
 obtain⟨xv,xd,sp,wt⟩:=x
 dsimp only at hth hst hra hxd hcall hnz
 subst hth hst
 have htl:y.ts.length=4:=by have:=hv.t;rwa[MO.d_len]at this
 have hrt:=hy.t
 rw[htl]at hrt
 obtain⟨gt,hgt⟩:=hrt.some_ (by omega)
 rw[hgt]at hrt
 have hcl:=hrt.len
 have hle:=hrt.le
 have hm0:Mm A0 wB (⟨some gt,52,y.tcs⟩::⟨y.bA,3,y.bcs⟩::(y.m.hps++y.ts.map ThO.hp)) wB:=by
  rw[←hA0,←hgt]
  exact hM
 have hh1:Ro wB gm 0 (y.cl [slv (some gt) 4 y.tc]):=by rw[←hgt,←htl];exact hh
 have hnA:∀b,b<N→¬A0 b:=hA0▸hno
 have hngA:¬A0 gm:=hA0▸hng
 have hrav:∀c∈ra.xs,c.val:=hrv.av
 have hxv:xv.val:=hxf.v
 have hxdn:xd.xs.length≤16:=hxf.d
 have hxdv:∀c∈xd.xs,c.val:=hxf.dv
 have hsp:-1≤sp∧sp≤3:=hxf.sp
 have hLS:∀{L:List Hp}{z:MO}{w:World},Mm A0 wB L w→(∀h∈z.hps,h∈L)→z.ok→z.d.val p.ss B→(lsX p z.mv).ok w:=fun hm hM zo zv=>lsX_ok ((hp.fr hm.fr hN hnA).ok (Nat.le_trans hN hm.fr.size)) hpv (MO.mv_ok hm hM zo) (by rw[MO.mv_d];exact zv)
 have kraw:∀(z:MO)(c:CN)(w'':World),(lsX p z.mv).ok w''→z.d.val p.ss B→c.val→Ret Tryz.prog 63 [.agg #[slv z.bA z.bs.length z.bc,.int .u16 z.key],.slice p.sA p.ss.length p.sc,.agg #[.int .u8 c.t,.int .u16 c.v,.int .i64 c.r,.int .i64 c.o]] w'' (fun u w'=>u= .tuple #[.agg #[.int .u8 (rawC (lsX p z.mv) c).t,.int .u16 (rawC (lsX p z.mv) c).v],.int .i64 (rawE (lsX p z.mv) c)]∧Pu w'' w'):=fun z c w'' hX zv hc=>by
  have h:=rawz_c (lsX p z.mv) c w'' hX hc
  rw[lsX_l (B:=B) (by rw[MO.mv_d];exact zv)]at h
  exact h
 have hex:∀(z:MO)(b:Bool)(w':World),z.ok→z.d.val p.ss B→z.vs=y.vs→Mm A0 wB z.hps w'→∃(z':MO)(b':Bool),Value.bool b= .bool b'∧z'.ok∧z'.d.val p.ss B∧z'.vs=y.vs∧Mm A0 wB z'.hps w':=fun z b w' h1 h2 h3 h4=>⟨z,b,rfl,h1,h2,h3,h4⟩
 obtain⟨qy,hqy,hqyd⟩:=MO.d_th hq
 have hyh:∀h∈y.hps,h∈(⟨some gt,52,y.tcs⟩:Hp)::⟨y.bA,3,y.bcs⟩::(y.m.hps++y.ts.map ThO.hp):=fun h hh=>by rw[←hgt];exact hh
 have hc2:=bufF_two hcall
 have kb:=fun w''=>buf_c call w'' (by omega)
 rw[hcall]at kb
 have hal:ra.xs.length=3:=by rcases hc2 with rfl|rfl<;>exact hrk.n
 have hc1v:=hrav _ (List.getElem_mem (show 1<ra.xs.length by omega))
 obtain⟨b1,o1,hA,hb1,r1⟩:=hra.ro (by rw[cns_len];omega)
 have hnb1:=hnA b1 hb1
 have r2:=r1.flat CN.cs_len (show 1<ra.xs.length by omega)
 have ht1:(ra.xs[1]'(by omega)).t=1:=by
  rcases hc2 with rfl|rfl
  ·have h:=hrk.k 1 (show 1<ra.xs.length by omega) (by show 1<(kndF 2).length;decide)
   simpa[kndF,fitB]using h
  ·have h:=hrk.k 1 (show 1<ra.xs.length by omega) (by show 1<(kndF 14).length;decide)
   simpa[kndF,fitB]using h
 generalize ra.xs[1]'(by omega)=c1 at r2 hc1v ht1
 unfold CN.cs at r2
 rw[ht1]at r2
 obtain⟨-,hc1r1,hc1r2,hc1o1,hc1o2,-⟩:=hc1v.p ht1
 obtain⟨b5,o5,hD,hb5,r5⟩:=hxd.ro (by rw[cns_len];omega)
 have hnb5:=hnA b5 hb5
 have kprp:∀w'',(lsX p y.mv).ok w''→Ret Tryz.prog 61 [.slice p.sA p.ss.length p.sc,.agg #[.int .u8 1,.int .u16 c1.v,.int .i64 c1.r,.int .i64 c1.o]] w'' (fun u w'=>u= .bool (prpF p.ss 1 c1.v c1.r c1.o)∧Pu w'' w'):=fun w'' hX=>rprp_c (lsX p y.mv) 1 c1.v c1.r c1.o w'' hX (.inr (.inl rfl))
 have kins:∀(z:MO)(o:Int) w'',(lsX p z.mv).ok w''→Ret Tryz.prog 72 [.slice p.sA p.ss.length p.sc,.agg #[.int .i64 c1.r,.int .i64 o]] w'' (fun u w'=>u= .bool (insF p.ss c1.r o)∧Pu w'' w'):=fun z o w'' hX=>rins_c p.sA p.ss.length p.sc p.ss c1.r o w'' rfl hX.sr
 have kadr:∀(z:MO)(o:Int) w'',(lsX p z.mv).ok w''→z.d.val p.ss B→Ret Tryz.prog 139 [.agg #[slv z.bA z.bs.length z.bc,.int .u16 z.key],.slice p.sA p.ss.length p.sc,.agg #[.int .i64 c1.r,.int .i64 o]] w'' (fun u w'=>u= .tuple #[.int .i64 (adrF (lsX p z.mv) c1.r o).1,.int .i64 (adrF (lsX p z.mv) c1.r o).2]∧Pu w'' w'):=fun z o w'' hX zv=>by
  have h:=radr_c (lsX p z.mv) c1.r o w'' hX
  rw[lsX_l (B:=B) (by rw[MO.mv_d];exact zv)]at h
  exact h
 have hgm2:∀m:MeO,own m.hps gm→∀{L:List Hp}{w:World},Mm A0 wB L w→(∀h∈m.hps,h∈L)→False:=fun m ⟨h,hh,e⟩ L w hm hM=>by
  have hlt:gm<wB.heap.size:=World.block_lt_of_cell? _ _ (hh1 0 _ rfl)
  rcases hm.ow h (hM h hh) gm e with h1|h1
  ·omega
  ·exact hngA h1
 unfold PV.v RqV.v RsV.v
 dsimp only
 rw[hA,hD]
 refine enterR Tryz.func128 rfl rfl rfl fun a hs hm=>?_
 clear hm
 have hm:=hm0
 refine gq20dc_ ?_;clear hs hm a;intros;rename_i a hm hs
 obtain⟨g4,rfl⟩:=hs.pp 4
 obtain⟨g6,rfl⟩:=hs.pp 6
 obtain⟨g7,rfl⟩:=hs.pp 7
 have hhU:∀_:Unit,Ro wB gm 0 (y.cl [slv (some gt) 4 y.tc]):=fun _=>hh1
 have hhL:Ro wB gm 0 [slv y.bA y.bs.length y.bc,.int .u16 y.key]:=fun j v hj=>hh1 j v (by
  have:=(List.getElem?_eq_some_iff.1 hj).1
  rcases(by simp at this;omega:j=0∨j=1)with rfl|rfl<;>exact hj)
 clear hh1 hh
 refine cMid (fun a w=>∃g10:Nat,Sl Tryz.f128.ntmps [(1,pt gm),(4,pt g4),(6,pt g6),(7,pt g7),(9,.pointer (some ⟨gt,tk*8,none⟩)),(10,pt g10),(11,.int .i64 (rawE (lsX p y.mv) xv))] a∧Mm A0 wB (⟨some g10,103,[.int .u8 (rawC (lsX p y.mv) xv).t,.int .u16 (rawC (lsX p y.mv) xv).v]⟩::⟨some g7,175,[.int .u8 xv.t,.int .u16 xv.v,.int .i64 xv.r,.int .i64 xv.o,.slice (some ⟨b5,o5,none⟩) xd.xs.length xd.c,.int .i64 sp,.bool wt]⟩::⟨some g6,173,[.int .i64 (tk:Int),.int .i64 1,.int .i64 trap,.int .i64 cnt,.int .i64 pc,.int .i64 call,.slice (some ⟨b1,o1,none⟩) ra.xs.length ra.c,.slice rd.A rd.xs.length rd.c]⟩::⟨some g4,38,(p.cl [])⟩::⟨some gt,52,y.tcs⟩::⟨y.bA,3,y.bcs⟩::(y.m.hps++y.ts.map ThO.hp)) w) ?_ ?_
 ·with_reducible repeat(first|apply gThen|apply wp_seq)
  refine cDrawT (n:=15) (.s [0,1,2,3,4,5,6,7]<| .e [(8,.x<| .s [9,10,11]<| .o 12<| .o 13<| .t 14<| .d),(12,.o 8<| .x<| .s [9,10,11]<| .o 13<| .t 14<| .d)]) [⟨some g7,175,[.int .u8 xv.t,.int .u16 xv.v,.int .i64 xv.r,.int .i64 xv.o,.slice (some ⟨b5,o5,none⟩) xd.xs.length xd.c,.int .i64 sp,.bool wt]⟩,⟨some g4,38,(p.cl [])⟩] hm rfl rfl ?_
  clear hm;intro t_ w1_ hm
  repeat' (first|(refine dgd799_ ?_;clear t_ hs hm a;intros;rename_i a hm hs t_)|refine tE t_ ?_|refine tC ?_ ?_|exact tN|intro t_|(refine oDo (i:=8) hs rfl (Wnt.none rfl) rfl rfl (by exact d_call hs rfl rfl rfl (pl 63 rfl) ((kraw y xv _ (hLS hm (fun h hh=>by repeat(first|exact hyh h hh|apply List.mem_cons_of_mem)) hy hv) hv hxv))) ?_;clear hs;rintro _ w1 ⟨rfl,hf⟩ a hs;(replace hm:=hm.pu hf);(clear hf);replace t_:=tX t_;refine⟨(hm.sub sub_),?_⟩)|(refine tD t_ ?_;(obtain⟨g10,rfl⟩:=hs.pp 10);(exact And.intro rfl ⟨g10,(sb_ hs),hm⟩))|fail)
 clear hs hm a
 rintro a w ⟨g10,hs,hm⟩
 have hcv:=rawC_val (lsX p y.mv) hxv
 generalize rawC (lsX p y.mv) xv=cv at hs hm hcv
 by_cases he:rawE (lsX p y.mv) xv=0
 rotate_left
 ·refine gsc5af_ ?_;clear hs hm a;intros;rename_i a hm hs
  refine gRet1 hs rfl rfl (hex y false _ hy hv rfl ?_)
  have hm':Mm A0 wB (⟨some gt,52,y.tcs⟩::⟨y.bA,3,y.bcs⟩::(y.m.hps++y.ts.map ThO.hp)) _:=hm.sub sub_
  rw[←hgt]at hm'
  exact hm'
 repeat(first|(refine gpSho0_ ?_;clear hs hm a;intros;rename_i a hm hs)|refine sc_ ?_|((with_reducible apply lCons);first|(refine dvc hs hm gw_ rfl rfl rfl rfl rfl (pl 111 rfl) (kb _) ?_;clear hs hm a;intro w hm a hs)))
 refine cMid (fun a w=>∃g12:Nat,Sl Tryz.f128.ntmps [(1,pt gm),(4,pt g4),(6,pt g6),(7,pt g7),(9,.pointer (some ⟨gt,tk*8,none⟩)),(10,pt g10),(12,pt g12)] a∧Mm A0 wB (⟨some g12,129,[.int .i64 c1.r,.int .i64 (c1.o+(0:Int))]⟩::⟨some g10,103,[.int .u8 cv.t,.int .u16 cv.v]⟩::⟨some g7,175,[.int .u8 xv.t,.int .u16 xv.v,.int .i64 xv.r,.int .i64 xv.o,.slice (some ⟨b5,o5,none⟩) xd.xs.length xd.c,.int .i64 sp,.bool wt]⟩::⟨some g6,173,[.int .i64 (tk:Int),.int .i64 1,.int .i64 trap,.int .i64 cnt,.int .i64 pc,.int .i64 call,.slice (some ⟨b1,o1,none⟩) ra.xs.length ra.c,.slice rd.A rd.xs.length rd.c]⟩::⟨some g4,38,(p.cl [])⟩::⟨some gt,52,y.tcs⟩::⟨y.bA,3,y.bcs⟩::(y.m.hps++y.ts.map ThO.hp)) w) ?_ ?_
 ·with_reducible repeat(first|apply gThen|apply wp_seq)
  refine cDrawT (n:=13) (.s [0,1,2,3,4,5,6,7,8,9,10]<| .o 11<| .o 12<| .d) [⟨some g6,173,[.int .i64 (tk:Int),.int .i64 1,.int .i64 trap,.int .i64 cnt,.int .i64 pc,.int .i64 call,.slice (some ⟨b1,o1,none⟩) ra.xs.length ra.c,.slice rd.A rd.xs.length rd.c]⟩] hm rfl rfl ?_
  clear hm;intro t_ w1_ hm
  repeat' (first|(refine dgd799_ ?_;clear t_ hs hm a;intros;rename_i a hm hs t_)|refine tE t_ ?_|refine tC ?_ ?_|exact tN|intro t_|(refine tD t_ ?_;(obtain⟨g12,rfl⟩:=hs.pp 12);(rw[show c1.o=c1.o+((0:Nat):Int) by omega]at hm);(exact And.intro rfl ⟨g12,(sb_ hs),hm⟩))|fail)
 clear hs hm a
 rintro a w ⟨g12,hs,hm⟩
 cases hpr:prpF p.ss 1 c1.v c1.r c1.o
 ·rw[hpr]at kprp
  refine gcSho1_ ?_;clear hs hm a;intros;rename_i a hm hs
  refine gRet1 hs rfl rfl (hex y false _ hy hv rfl ?_)
  have hm':Mm A0 wB (⟨some gt,52,y.tcs⟩::⟨y.bA,3,y.bcs⟩::(y.m.hps++y.ts.map ThO.hp)) _:=hm.sub sub_
  rw[←hgt]at hm'
  exact hm'
 rw[hpr]at kprp
 refine gcSho1_ ?_;clear hs hm a;intros;rename_i a hm hs
 refine cLoop (X:=PbX) (fun X a w=>X.k≤xd.xs.length∧X.m.ok∧X.m.val∧y.m.like X.m∧Sl Tryz.f128.ntmps [(1,pt gm),(4,pt g4),(6,pt g6),(7,pt g7),(9,.pointer (some ⟨gt,tk*8,none⟩)),(10,pt g10),(12,pt g12),(80,.slice (some ⟨b5,o5,none⟩) xd.xs.length xd.c),(81,.int .i64 (xd.xs.length:Int)),(82,.int .i64 (X.k:Int))] a∧Mm A0 wB (⟨some g12,129,[.int .i64 c1.r,.int .i64 (c1.o+(X.k:Int))]⟩::⟨some g10,103,[.int .u8 cv.t,.int .u16 cv.v]⟩::⟨some g7,175,[.int .u8 xv.t,.int .u16 xv.v,.int .i64 xv.r,.int .i64 xv.o,.slice (some ⟨b5,o5,none⟩) xd.xs.length xd.c,.int .i64 sp,.bool wt]⟩::⟨some g6,173,[.int .i64 (tk:Int),.int .i64 1,.int .i64 trap,.int .i64 cnt,.int .i64 pc,.int .i64 call,.slice (some ⟨b1,o1,none⟩) ra.xs.length ra.c,.slice rd.A rd.xs.length rd.c]⟩::⟨some g4,38,(p.cl [])⟩::⟨some gt,52,y.tcs⟩::⟨y.bA,3,y.bcs⟩::(X.m.hps++y.ts.map ThO.hp)) w) (fun X=>xd.xs.length-X.k) ⟨0,y.m⟩ ⟨Nat.zero_le _,hy.m,MO.m_val hv,MeO.like.refl _,(sb_ hs),hm⟩ ?_
 clear hs hm a
 rintro⟨k,m⟩ a w ⟨hk,mo,mv,ml,hs,hm⟩
 dsimp only at hk mo mv ml hs hm
 have htk:tk<y.ts.length:=by omega
 have zeq:y.upd tk qy y.tcs m={y with m:=m}:=by unfold MO.upd;rw[set_self hqy]
 have zo:MO.ok {y with m:=m}:=by rw[←zeq];exact MO.upd_ok hy mo (hy.tt qy (List.mem_of_getElem? hqy)) (by rw[set_self hqy];exact hy.t)
 have zv:MD.val (MO.d {y with m:=m}) p.ss B:=by rw[←zeq];exact MO.upd_val hv (Int.le_refl _) mv (hv.tt qy.d (List.mem_map.2 ⟨qy,List.mem_of_getElem? hqy,rfl⟩))
 have zvs:MO.vs {y with m:=m}=y.vs:=by rw[←zeq];exact MO.upd_vs ml
 have zh:∀h∈MO.hps {y with m:=m},h∈⟨some gt,52,y.tcs⟩::⟨y.bA,3,y.bcs⟩::(m.hps++y.ts.map ThO.hp):=fun h hh=>by rw[←hgt];exact hh
 by_cases hlt:k<xd.xs.length
 ·have r3:=r5.flat CN.cs_len hlt
  have hev:=hxdv _ (List.getElem_mem hlt)
  generalize xd.xs[k]=e at r3 hev
  unfold CN.cs at r3
  refine gsc5af_ ?_;clear hs hm a;intros;rename_i a hm hs
  obtain⟨g14,rfl⟩:=hs.pp 14
  refine cMid (fun a w=>∃g15:Nat,Sl Tryz.f128.ntmps [(1,pt gm),(4,pt g4),(6,pt g6),(7,pt g7),(9,.pointer (some ⟨gt,tk*8,none⟩)),(10,pt g10),(12,pt g12),(80,.slice (some ⟨b5,o5,none⟩) xd.xs.length xd.c),(81,.int .i64 (xd.xs.length:Int)),(82,.int .i64 (k:Int)),(14,pt g14),(15,pt g15),(16,.int .i64 (rawE (lsX p (MO.mv {y with m:=m})) e))] a∧Mm A0 wB (⟨some g15,103,[.int .u8 (rawC (lsX p (MO.mv {y with m:=m})) e).t,.int .u16 (rawC (lsX p (MO.mv {y with m:=m})) e).v]⟩::⟨some g14,95,[.int .u8 e.t,.int .u16 e.v,.int .i64 e.r,.int .i64 e.o]⟩::⟨some g12,129,[.int .i64 c1.r,.int .i64 (c1.o+(k:Int))]⟩::⟨some g10,103,[.int .u8 cv.t,.int .u16 cv.v]⟩::⟨some g7,175,[.int .u8 xv.t,.int .u16 xv.v,.int .i64 xv.r,.int .i64 xv.o,.slice (some ⟨b5,o5,none⟩) xd.xs.length xd.c,.int .i64 sp,.bool wt]⟩::⟨some g6,173,[.int .i64 (tk:Int),.int .i64 1,.int .i64 trap,.int .i64 cnt,.int .i64 pc,.int .i64 call,.slice (some ⟨b1,o1,none⟩) ra.xs.length ra.c,.slice rd.A rd.xs.length rd.c]⟩::⟨some g4,38,(p.cl [])⟩::⟨some gt,52,y.tcs⟩::⟨y.bA,3,y.bcs⟩::(m.hps++y.ts.map ThO.hp)) w) ?_ ?_
  ·with_reducible repeat(first|apply gThen|apply wp_seq)
   refine cDrawT (n:=14) (.s [0,1,2,3,4,5,6]<| .e [(7,.x<| .s [8,9,10]<| .o 11<| .o 12<| .t 13<| .d),(11,.o 7<| .x<| .s [8,9,10]<| .o 12<| .t 13<| .d)]) [⟨some g14,95,[.int .u8 e.t,.int .u16 e.v,.int .i64 e.r,.int .i64 e.o]⟩,⟨some g4,38,(p.cl [])⟩] hm rfl rfl ?_
   clear hm;intro t_ w1_ hm
   repeat' (first|(refine dgd799_ ?_;clear t_ hs hm a;intros;rename_i a hm hs t_)|refine tE t_ ?_|refine tC ?_ ?_|exact tN|intro t_|(refine oDo (i:=7) hs rfl (Wnt.none rfl) rfl rfl (by exact d_call hs rfl rfl rfl (pl 63 rfl) ((kraw {y with m:=m} e _ (hLS hm (fun h hh=>by repeat(first|exact zh h hh|apply List.mem_cons_of_mem)) zo zv) zv hev))) ?_;clear hs;rintro _ w1 ⟨rfl,hf⟩ a hs;(replace hm:=hm.pu hf);(clear hf);replace t_:=tX t_;refine⟨(hm.sub sub_),?_⟩)|(refine tD t_ ?_;(obtain⟨g15,rfl⟩:=hs.pp 15);(exact And.intro rfl ⟨g15,(sb_ hs),hm⟩))|fail)
  clear hs hm a
  rintro a w ⟨g15,hs,hm⟩
  have hce:=rawC_val (lsX p (MO.mv {y with m:=m})) hev
  generalize rawC (lsX p (MO.mv {y with m:=m})) e=ce at hs hm hce
  by_cases he3:rawE (lsX p (MO.mv {y with m:=m})) e=0
  rotate_left
  ·refine gsc5af_ ?_;clear hs hm a;intros;rename_i a hm hs
   refine gRet1 hs rfl rfl (hex {y with m:=m} false _ zo zv zvs ?_)
   have hm':Mm A0 wB (⟨some gt,52,y.tcs⟩::⟨y.bA,3,y.bcs⟩::(m.hps++y.ts.map ThO.hp)) _:=hm.sub sub_
   rw[←hgt]at hm'
   exact hm'
  cases hin:insF p.ss c1.r (c1.o+(k:Int))
  ·have kin:=kins {y with m:=m} (c1.o+(k:Int))
   rw[hin]at kin
   repeat(first|(refine gpSho2_ ?_;clear hs hm a;intros;rename_i a hm hs)|refine sc_ ?_|((with_reducible apply lCons);first|(refine dvc hs hm gw_ rfl rfl rfl rfl rfl (pl 72 rfl) (kin _ (hLS hm (fun h hh=>by repeat(first|exact zh h hh|apply List.mem_cons_of_mem)) zo zv)) ?_;clear hs hm a;intro w hm a hs))|((with_reducible apply qCons);first|(refine qwc hs gw_ rfl rfl rfl rfl rfl (pl 72 rfl) (fun w hm=>kin _ (hLS hm (fun h hh=>by repeat(first|exact zh h hh|apply List.mem_cons_of_mem)) zo zv)) ?_;clear hs a;intro a hs)))
   refine gRet1 hs rfl rfl (hex {y with m:=m} false _ zo zv zvs ?_)
   have hm':Mm A0 wB (⟨some gt,52,y.tcs⟩::⟨y.bA,3,y.bcs⟩::(m.hps++y.ts.map ThO.hp)) _:=hm.sub sub_
   rw[←hgt]at hm'
   exact hm'
  have kin:=kins {y with m:=m} (c1.o+(k:Int))
  rw[hin]at kin
  obtain⟨ad,had,hae⟩:=adr_in (X:=lsX p (MO.mv {y with m:=m})) zv.gap (r:=c1.r) (o:=c1.o+(k:Int)) hin
  have kad:=fun w'' hX=>kadr {y with m:=m} (c1.o+(k:Int)) w'' hX zv
  rw[hae]at kad
  repeat(first|(refine gpSho0_ ?_;clear hs hm a;intros;rename_i a hm hs)|refine sc_ ?_|((with_reducible apply lCons);first|(refine dvc hs hm gw_ rfl rfl rfl rfl rfl (pl 72 rfl) (kin _ (hLS hm (fun h hh=>by repeat(first|exact zh h hh|apply List.mem_cons_of_mem)) zo zv)) ?_;clear hs hm a;intro w hm a hs)))
  refine cMid (fun a w=>Sl Tryz.f128.ntmps [(1,pt gm),(4,pt g4),(6,pt g6),(7,pt g7),(9,.pointer (some ⟨gt,tk*8,none⟩)),(10,pt g10),(12,pt g12),(80,.slice (some ⟨b5,o5,none⟩) xd.xs.length xd.c),(81,.int .i64 (xd.xs.length:Int)),(82,.int .i64 (k:Int)),(15,pt g15),(17,.int .i64 (ad:Int))] a∧Mm A0 wB (⟨some g15,103,[.int .u8 ce.t,.int .u16 ce.v]⟩::⟨some g14,95,[.int .u8 e.t,.int .u16 e.v,.int .i64 e.r,.int .i64 e.o]⟩::⟨some g12,129,[.int .i64 c1.r,.int .i64 (c1.o+(k:Int))]⟩::⟨some g10,103,[.int .u8 cv.t,.int .u16 cv.v]⟩::⟨some g7,175,[.int .u8 xv.t,.int .u16 xv.v,.int .i64 xv.r,.int .i64 xv.o,.slice (some ⟨b5,o5,none⟩) xd.xs.length xd.c,.int .i64 sp,.bool wt]⟩::⟨some g6,173,[.int .i64 (tk:Int),.int .i64 1,.int .i64 trap,.int .i64 cnt,.int .i64 pc,.int .i64 call,.slice (some ⟨b1,o1,none⟩) ra.xs.length ra.c,.slice rd.A rd.xs.length rd.c]⟩::⟨some g4,38,(p.cl [])⟩::⟨some gt,52,y.tcs⟩::⟨y.bA,3,y.bcs⟩::(m.hps++y.ts.map ThO.hp)) w) ?_ ?_
  ·with_reducible repeat(first|apply gThen|apply wp_seq)
   refine cDrawT (n:=13) (.s [0,1,2,3,4,5,6]<| .o 7<| .x<| .s [8,9,10,11,12]<| .d) [⟨some g12,129,[.int .i64 c1.r,.int .i64 (c1.o+(k:Int))]⟩,⟨some g4,38,(p.cl [])⟩] hm rfl rfl ?_
   clear hm;intro t_ w1_ hm
   repeat' (first|(refine dgd799_ ?_;clear t_ hs hm a;intros;rename_i a hm hs t_)|refine tE t_ ?_|refine tC ?_ ?_|exact tN|intro t_|(refine oDo (i:=7) hs rfl (Wnt.none rfl) rfl rfl (by exact d_call hs rfl rfl rfl (pl 139 rfl) ((kad _ (hLS hm (fun h hh=>by repeat(first|exact zh h hh|apply List.mem_cons_of_mem)) zo zv)))) ?_;clear hs;rintro _ w1 ⟨rfl,hf⟩ a hs;(replace hm:=hm.pu hf);(clear hf);replace t_:=tX t_;refine⟨(hm.sub sub_),?_⟩)|(refine tD t_ ?_;(exact And.intro rfl ⟨(sb_ hs),hm⟩))|fail)
  clear hs hm a
  rintro a w ⟨hs,hm⟩
  have hhM:Ro wB gm (0+2) [slv y.m.cA y.m.xs.length y.m.cc,slv y.m.lA y.m.ls.length y.m.lc]:=Ro.sub (d:=2) (hhU ()) (fun j v hj=>by
   have:=(List.getElem?_eq_some_iff.1 hj).1
   rcases(by simp at this;omega:j=0∨j=1)with rfl|rfl<;>exact hj)
  have hhM':Ro wB gm (0+2) [slv m.cA m.xs.length m.cc,slv m.lA m.ls.length m.lc]:=by rw[ml.cA,ml.cc,ml.lA,ml.lc,ml.n,ml.l];exact hhM
  clear hhM
  have hgmm:¬own m.hps gm:=fun e=>hgm2 m e hm (fun h hh=>by
   have h1:h∈m.hps++y.ts.map ThO.hp:=List.mem_append_left _ hh
   repeat(first|exact h1|apply List.mem_cons_of_mem))
  refine cMid (fun a w=>∃m':MeO,m'.ok∧m'.val∧m.like m'∧Sl Tryz.f128.ntmps [(1,pt gm),(4,pt g4),(6,pt g6),(7,pt g7),(9,.pointer (some ⟨gt,tk*8,none⟩)),(10,pt g10),(12,pt g12),(80,.slice (some ⟨b5,o5,none⟩) xd.xs.length xd.c),(81,.int .i64 (xd.xs.length:Int)),(82,.int .i64 (k:Int))] a∧Mm A0 wB (⟨some g15,103,[.int .u8 ce.t,.int .u16 ce.v]⟩::⟨some g14,95,[.int .u8 e.t,.int .u16 e.v,.int .i64 e.r,.int .i64 e.o]⟩::⟨some g12,129,[.int .i64 c1.r,.int .i64 (c1.o+((k+1:Nat):Int))]⟩::⟨some g10,103,[.int .u8 cv.t,.int .u16 cv.v]⟩::⟨some g7,175,[.int .u8 xv.t,.int .u16 xv.v,.int .i64 xv.r,.int .i64 xv.o,.slice (some ⟨b5,o5,none⟩) xd.xs.length xd.c,.int .i64 sp,.bool wt]⟩::⟨some g6,173,[.int .i64 (tk:Int),.int .i64 1,.int .i64 trap,.int .i64 cnt,.int .i64 pc,.int .i64 call,.slice (some ⟨b1,o1,none⟩) ra.xs.length ra.c,.slice rd.A rd.xs.length rd.c]⟩::⟨some g4,38,(p.cl [])⟩::⟨some gt,52,y.tcs⟩::⟨y.bA,3,y.bcs⟩::(m'.hps++y.ts.map ThO.hp)) w) ?_ ?_
  ·with_reducible repeat(first|apply gThen|apply wp_seq)
   refine cDrawT (n:=6) (.s [0,1,2,3,4]<| .o 5<| .x<| .d) [⟨some g15,103,[.int .u8 ce.t,.int .u16 ce.v]⟩] hm rfl rfl ?_
   clear hm;intro t_ w1_ hm
   repeat' (first|(refine dgd799_ ?_;clear t_ hs hm a;intros;rename_i a hm hs t_)|refine tE t_ ?_|refine tC ?_ ?_|exact tN|intro t_|(refine oDo (i:=5) hs rfl (Wnt.none rfl) rfl rfl (by exact d_call hs rfl rfl rfl (pl 45 rfl) ((store_c gm (0+2) m ad ce _ (Mm.partL (A:=m.hps) (B:=y.ts.map ThO.hp) [⟨some g15,103,[.int .u8 ce.t,.int .u16 ce.v]⟩,⟨some g14,95,[.int .u8 e.t,.int .u16 e.v,.int .i64 e.r,.int .i64 e.o]⟩,⟨some g12,129,[.int .i64 c1.r,.int .i64 (c1.o+(k:Int))]⟩,⟨some g10,103,[.int .u8 cv.t,.int .u16 cv.v]⟩,⟨some g7,175,[.int .u8 xv.t,.int .u16 xv.v,.int .i64 xv.r,.int .i64 xv.o,.slice (some ⟨b5,o5,none⟩) xd.xs.length xd.c,.int .i64 sp,.bool wt]⟩,⟨some g6,173,[.int .i64 (tk:Int),.int .i64 1,.int .i64 trap,.int .i64 cnt,.int .i64 pc,.int .i64 call,.slice (some ⟨b1,o1,none⟩) ra.xs.length ra.c,.slice rd.A rd.xs.length rd.c]⟩,⟨some g4,38,(p.cl [])⟩,⟨some gt,52,y.tcs⟩,⟨y.bA,3,y.bcs⟩] hm) mo mv (hhM'.ro hm hngA) hgmm had hce))) ?_;clear hs;rintro _ w1 ⟨m',mo',mv',ml',hk9⟩ a hs;(replace hm:=Mm.swapL (A:=m.hps) (B:=y.ts.map ThO.hp) [⟨some g15,103,[.int .u8 ce.t,.int .u16 ce.v]⟩,⟨some g14,95,[.int .u8 e.t,.int .u16 e.v,.int .i64 e.r,.int .i64 e.o]⟩,⟨some g12,129,[.int .i64 c1.r,.int .i64 (c1.o+(k:Int))]⟩,⟨some g10,103,[.int .u8 cv.t,.int .u16 cv.v]⟩,⟨some g7,175,[.int .u8 xv.t,.int .u16 xv.v,.int .i64 xv.r,.int .i64 xv.o,.slice (some ⟨b5,o5,none⟩) xd.xs.length xd.c,.int .i64 sp,.bool wt]⟩,⟨some g6,173,[.int .i64 (tk:Int),.int .i64 1,.int .i64 trap,.int .i64 cnt,.int .i64 pc,.int .i64 call,.slice (some ⟨b1,o1,none⟩) ra.xs.length ra.c,.slice rd.A rd.xs.length rd.c]⟩,⟨some g4,38,(p.cl [])⟩,⟨some gt,52,y.tcs⟩,⟨y.bA,3,y.bcs⟩] hm hk9);(clear hk9);(simp only[List.cons_append,List.nil_append]at hm);replace t_:=tX t_;refine⟨(hm.sub sub_),?_⟩)|(refine tD t_ ?_;(refine gsc5af_ ?_;clear hs hm a;intros;rename_i a hm hs);(rw[show c1.o+(k:Int)+1=c1.o+((k+1:Nat):Int) by omega]at hm);(exact And.intro rfl ⟨m',mo',mv',ml',(sb_ hs),hm⟩))|fail)
  clear hs hm a
  rintro a w ⟨m',mo',mv',ml',hs,hm⟩
  refine gsc5af_ ?_;clear hs hm a;intros;rename_i a hm hs
  exact⟨⟨k+1,m'⟩,by dsimp only;omega,by dsimp only;omega,mo',mv',ml.trans ml',(sb_ hs),hm.sub sub_⟩
 ·obtain rfl:k=xd.xs.length:=by omega
  refine gsc5af_ ?_;clear hs hm a;intros;rename_i a hm hs
  replace hm:=hm.sub (List.Sublist.cons _ (List.Sublist.refl _))
  obtain⟨z,hz⟩:∃z:MO,z={y with m:=m}:=⟨_,rfl⟩
  have hzt':z.ts[tk]?=some qy:=by rw[hz];exact hqy
  have zA:z.tA=some gt:=by rw[hz];exact hgt
  have zh':z.hps=⟨some gt,52,y.tcs⟩::⟨y.bA,3,y.bcs⟩::(m.hps++y.ts.map ThO.hp):=by rw[hz,←hgt];rfl
  rw[←zh']at hm
  rw[←hz]at zo zv zvs
  replace hm:=MO.open_ (L:=[⟨some g10,103,[.int .u8 cv.t,.int .u16 cv.v]⟩,⟨some g7,175,[.int .u8 xv.t,.int .u16 xv.v,.int .i64 xv.r,.int .i64 xv.o,.slice (some ⟨b5,o5,none⟩) xd.xs.length xd.c,.int .i64 sp,.bool wt]⟩,⟨some g6,173,[.int .i64 (tk:Int),.int .i64 1,.int .i64 trap,.int .i64 cnt,.int .i64 pc,.int .i64 call,.slice (some ⟨b1,o1,none⟩) ra.xs.length ra.c,.slice rd.A rd.xs.length rd.c]⟩,⟨some g4,38,(p.cl [])⟩]) (z:=z) hm hzt'
  simp only[List.cons_append,List.nil_append]at hm
  have hqyv:=(zv).tt qy.d (List.mem_map.2 ⟨qy,List.mem_of_getElem? hzt',rfl⟩)
  have hqyo:=(zo).tt qy (List.mem_of_getElem? hzt')
  have hqyr:Row qy.A qy.d.xs.length qy.c 2 (cvs qy.d.xs) qy.cs:=hqyo
  rw[hqyv.n]at hqyr
  obtain⟨gq,hgq⟩:=hqyr.some_ (by omega)
  rw[show qy.hp=⟨some gq,103,qy.cs⟩ by unfold ThO.hp;rw[hgq],zA]at hm
  rw[hgq]at hqyr
  have hztl:z.ts.length=4:=by have:=(zv).t;rwa[MO.d_len]at this
  have hzt:=(zo).t
  rw[hztl,zA]at hzt
  have hztk:tk<z.ts.length:=by omega
  have hzcl:=hzt.len
  have hzle:=hzt.le
  have hqcl:=hqyr.len
  have hqle:=hqyr.le
  have e1:z.tcs[tk*8+1]?=some (slv (some gq) 8 qy.c):=hzt.get (by rw[flat_get ThO.v 8 ThO.len z.ts tk 1 hztk (by omega),(List.getElem?_eq_some_iff.1 hzt').2,←hgq,←hqyv.n];rfl)
  obtain⟨W,hW⟩:∃W,(⟨z.bA,3,z.bcs⟩:Hp)::(z.m.hps++(z.ts.eraseIdx tk).map ThO.hp)=W:=⟨_,rfl⟩
  rw[hW]at hm
  refine cMid (fun a w=>Mm A0 wB (⟨some gq,103,cv.cs++qy.cs.drop 2⟩::⟨some gt,52,z.tcs.set (tk*8+0) (.int .i64 1)⟩::W) w∧Sl Tryz.f128.ntmps [(9,.pointer (some ⟨gt,tk*8,none⟩))] a) ?_ ?_
  ·with_reducible repeat(first|apply gThen|apply wp_seq)
   refine cDrawTB (n:=11) (.s [0,1,2,3,4,5,6]<| .o 7<| .x<| .s [8,9]<| .o 10<| .d) 10 [⟨some g10,103,[.int .u8 cv.t,.int .u16 cv.v]⟩,⟨some gt,52,z.tcs⟩] hm rfl rfl ?_
   clear hm;intro t_ w1_ hm
   repeat' (first|(refine dg95fa_ ?_;clear t_ hs hm a;intros;rename_i a hm hs t_)|refine tEB t_ ?_|refine tCB ?_ ?_|exact tNB|intro t_|(refine oDoNB (i:=7) hs rfl (Wnt.none rfl) rfl (by exact d_store hs rfl rfl rfl tab rfl rfl rfl rfl hm rep_ (putG (by show 0+2≤_;omega))) ?_;clear hs;rintro-w1 hm a hs;replace t_:=tX t_;refine⟨bu_,?_⟩)|(refine tDB t_ ?_;(exact And.intro rfl ⟨hm.sub sub_,(sb_ hs)⟩))|fail)
  clear hs hm a
  rintro a w ⟨hm,hs⟩
  refine gsc5af_ ?_;clear hs hm a;intros;rename_i a hm hs
  obtain⟨k1,k2,k3⟩:=ThO.reg_ok hqyo hqyv (r:=0) (by omega) hcv
  have hrow:Row (some gt) 4 z.tc 8 ((z.ts.set tk (qy.reg 0 cv)).flatMap ThO.v) z.tcs:=by rw[trow_same hztk k3,set_self hzt'];exact hzt
  have r1:=trow_set hrow hztk 0 (by omega) (.int .i64 1) (q2:={qy.reg 0 cv with d:={(qy.reg 0 cv).d with st:=1}}) rfl
  refine gRet1 hs rfl rfl (hex (z.upd tk {qy.reg 0 cv with d:={(qy.reg 0 cv).d with st:=1}} (z.tcs.set (tk*8+0) (.int .i64 1)) z.m) true _ (MO.upd_ok zo (zo).m k1 (by rw[zA,hztl];exact r1)) (MO.upd_val zv (Int.le_refl _) (MO.m_val zv) ⟨by dsimp only;omega,k2.n,by rw[k2.pc];exact hqyv.pc,by rw[k2.cnt];exact hqyv.cnt,by rw[k2.han];exact hqyv.han,k2.sav,by rw[k2.trp];exact hqyv.trp,by rw[k2.cod];exact hqyv.cod,k2.cv⟩) ((MO.upd_vs (MeO.like.refl _)).trans zvs) ?_)
  refine MO.close_ (L:=[]) (m:=z.m) hztk ?_
  rw[hW,zA,show ThO.hp {qy.reg 0 cv with d:={(qy.reg 0 cv).d with st:=1}}=⟨some gq,103,cv.cs++qy.cs.drop 2⟩ by unfold ThO.hp;rw[←hgq];rfl]
  exact hm
end Go.Proofs.YtbjffoojenpmfaaGreat
