/- Texts put together: Shr, Shs, Sht, Six, Sif, Sig, Eng18. -/
import Derived.Test.YtbjffoojenpmfaaGreatMgSOn
set_option maxRecDepth 20000
set_option maxHeartbeats 64000000
set_option linter.unusedVariables false
set_option linter.unusedSimpArgs false
namespace Go.Proofs.YtbjffoojenpmfaaGreat
open Go.RowKit
theorem va_filter{os:List Int}{qs:List (List Int)}{t:Int}(h:VA ⟨os,qs⟩):VA ⟨os,qs.map (fun q=>q.filter (·≠t))⟩:=by
 have hg:∀i,(qs.map (fun q=>q.filter (·≠t))).getD i []=(qs.getD i []).filter (·≠t):=fun i=>by
  rw[List.getD_eq_getElem?_getD,List.getD_eq_getElem?_getD,List.getElem?_map]
  cases qs[i]?<;>rfl
 refine⟨h.o,by have:=h.q;dsimp only at this ⊢;rw[List.length_map];exact this,h.ob,fun i hi e=>?_,fun q hq u hu=>?_,fun i u hi hu=>?_,?_⟩
 ·have:=h.e i hi e
  dsimp only at this ⊢
  rw[hg,this]
  rfl
 ·obtain⟨q',hq',rfl⟩:=List.mem_map.1 hq
  exact h.qb q' hq' u (List.mem_filter.1 hu).1
 ·dsimp only at hu
  rw[hg]at hu
  exact h.ne i u hi (List.mem_filter.1 hu).1
 ·dsimp only
  rw[←List.filter_flatten]
  exact h.nd.filter _
def LkR(y:KS)(w0 w:World):Prop:=y.ok w∧y.new w0.heap.size∧VA y.ab
theorem rtake_out(x:KS)(k t:Int)(wB:World)(hx:x.ok wB)(hv:VA x.ab)(hk:k<0∨4≤k):Ret Tryz.prog 124 [x.v,.int .i64 k,.int .i64 t] wB (fun u w'=>∃y:KS,u= .tuple #[y.v,.int .i64 2]∧LkR y wB w'∧Pu wB w'):=by
 have hsm:=KS.sm_of hx hv.sh
 have hcp:=fun w'' (hf:Pu wB w'')=>cpy_c x w'' (hx.pu hf) hsm
 unfold KS.v IS.v at hcp ⊢
 rcases hk with hk|hk
 ·refine enterR Tryz.func124 rfl rfl rfl fun a hs hm=>?_
  refine gs87a7_ ?_;clear hs hm a;intros;rename_i a hm hs
  refine st hs rfl rfl rfl (d_call hs rfl rfl rfl (pl 122 rfl) ((hcp _ hm.fr))) ?_;clear hs a;rintro _ w1 ⟨y,rfl,hyo,hya,hyl,hN,hf⟩ a hs
  replace hm:=gainE hm hf hN
  clear hN hf
  refine gs87a7_ ?_;clear hs hm a;intros;rename_i a hm hs
  obtain⟨g6,rfl⟩:=hs.pp 6
  have e:=KO.ks_v y
  unfold KS.v IS.v at e
  exact gRetN tab hs rfl (.cons (.cells rfl rfl rfl rfl (hm.ro (k:=0) (n:=2) (g:=g6) mem_ (cutF_ok rfl))) (.cons (.tmp rfl) .nil)) ⟨y.ks,by rw[e];rfl,⟨KO.ks_ok hm (fun z hz=>List.mem_cons_of_mem _ (List.mem_cons_of_mem _ (List.mem_append_right _ hz))) hyo,KO.new_at hm (fun z hz=>List.mem_cons_of_mem _ (List.mem_cons_of_mem _ (List.mem_append_right _ hz))),by rw[KO.ks_ab,hya];exact hv⟩,hm.fr⟩
 ·refine enterR Tryz.func124 rfl rfl rfl fun a hs hm=>?_
  refine gs87a7_ ?_;clear hs hm a;intros;rename_i a hm hs
  refine st hs rfl rfl rfl (d_call hs rfl rfl rfl (pl 122 rfl) ((hcp _ hm.fr))) ?_;clear hs a;rintro _ w1 ⟨y,rfl,hyo,hya,hyl,hN,hf⟩ a hs
  replace hm:=gainE hm hf hN
  clear hN hf
  refine gs87a7_ ?_;clear hs hm a;intros;rename_i a hm hs
  obtain⟨g6,rfl⟩:=hs.pp 6
  have e:=KO.ks_v y
  unfold KS.v IS.v at e
  exact gRetN tab hs rfl (.cons (.cells rfl rfl rfl rfl (hm.ro (k:=0) (n:=2) (g:=g6) mem_ (cutF_ok rfl))) (.cons (.tmp rfl) .nil)) ⟨y.ks,by rw[e];rfl,⟨KO.ks_ok hm (fun z hz=>List.mem_cons_of_mem _ (List.mem_cons_of_mem _ (List.mem_append_right _ hz))) hyo,KO.new_at hm (fun z hz=>List.mem_cons_of_mem _ (List.mem_cons_of_mem _ (List.mem_append_right _ hz))),by rw[KO.ks_ab,hya];exact hv⟩,hm.fr⟩
theorem rgive_out(x:KS)(k t:Int)(wB:World)(hx:x.ok wB)(hv:VA x.ab)(hk:k<0∨4≤k):Ret Tryz.prog 112 [x.v,.int .i64 k,.int .i64 t] wB (fun u w'=>∃y:KS,u= .tuple #[y.v,.int .i64 (-1),.bool false]∧LkR y wB w'∧Pu wB w'):=by
 have hsm:=KS.sm_of hx hv.sh
 have hcp:=fun w'' (hf:Pu wB w'')=>cpy_c x w'' (hx.pu hf) hsm
 unfold KS.v IS.v at hcp ⊢
 rcases hk with hk|hk
 ·refine enterR Tryz.func112 rfl rfl rfl fun a hs hm=>?_
  refine gs0d2a_ ?_;clear hs hm a;intros;rename_i a hm hs
  refine st hs rfl rfl rfl (d_call hs rfl rfl rfl (pl 122 rfl) ((hcp _ hm.fr))) ?_;clear hs a;rintro _ w1 ⟨y,rfl,hyo,hya,hyl,hN,hf⟩ a hs
  replace hm:=gainE hm hf hN
  clear hN hf
  refine gs0d2a_ ?_;clear hs hm a;intros;rename_i a hm hs
  obtain⟨g6,rfl⟩:=hs.pp 6
  have e:=KO.ks_v y
  unfold KS.v IS.v at e
  exact gRetN tab hs rfl (.cons (.cells rfl rfl rfl rfl (hm.ro (k:=0) (n:=2) (g:=g6) mem_ (cutF_ok rfl))) (.cons (.tmp rfl) (.cons (.tmp rfl) .nil))) ⟨y.ks,by rw[e];rfl,⟨KO.ks_ok hm (fun z hz=>List.mem_cons_of_mem _ (List.mem_cons_of_mem _ (List.mem_append_right _ hz))) hyo,KO.new_at hm (fun z hz=>List.mem_cons_of_mem _ (List.mem_cons_of_mem _ (List.mem_append_right _ hz))),by rw[KO.ks_ab,hya];exact hv⟩,hm.fr⟩
 ·refine enterR Tryz.func112 rfl rfl rfl fun a hs hm=>?_
  refine gs0d2a_ ?_;clear hs hm a;intros;rename_i a hm hs
  refine st hs rfl rfl rfl (d_call hs rfl rfl rfl (pl 122 rfl) ((hcp _ hm.fr))) ?_;clear hs a;rintro _ w1 ⟨y,rfl,hyo,hya,hyl,hN,hf⟩ a hs
  replace hm:=gainE hm hf hN
  clear hN hf
  refine gs0d2a_ ?_;clear hs hm a;intros;rename_i a hm hs
  obtain⟨g6,rfl⟩:=hs.pp 6
  have e:=KO.ks_v y
  unfold KS.v IS.v at e
  exact gRetN tab hs rfl (.cons (.cells rfl rfl rfl rfl (hm.ro (k:=0) (n:=2) (g:=g6) mem_ (cutF_ok rfl))) (.cons (.tmp rfl) (.cons (.tmp rfl) .nil))) ⟨y.ks,by rw[e];rfl,⟨KO.ks_ok hm (fun z hz=>List.mem_cons_of_mem _ (List.mem_cons_of_mem _ (List.mem_append_right _ hz))) hyo,KO.new_at hm (fun z hz=>List.mem_cons_of_mem _ (List.mem_cons_of_mem _ (List.mem_append_right _ hz))),by rw[KO.ks_ab,hya];exact hv⟩,hm.fr⟩
theorem rtkA_c(x:KS)(k t:Int)(wB:World)(hx:x.ok wB)(hv:VA x.ab)(ht:0≤t∧t<4):Ret Tryz.prog 124 [x.v,.int .i64 k,.int .i64 t] wB (fun u w'=>∃(y:KS)(h:Int),u= .tuple #[y.v,.int .i64 h]∧LkR y wB w'∧Pu wB w'):=by
 by_cases hk:k<0∨4≤k
 ·exact(rtake_out x k t wB hx hv hk).mono fun u w' ⟨y,h1,h2,h3⟩=>⟨y,2,h1,h2,h3⟩
 ·obtain⟨j,rfl⟩:∃j:Nat,k=(j:Int):=⟨k.toNat,by omega⟩
  exact(rtak_c x j t wB hx hv.sh (by omega)).mono fun u w' ⟨y,h1,h2,h3,h4,h5⟩=>⟨y,_,h1,⟨h2,h3,by rw[h4];exact tak_va hv (by omega) ht⟩,h5⟩
theorem rgvA_c(x:KS)(k t:Int)(wB:World)(hx:x.ok wB)(hv:VA x.ab):Ret Tryz.prog 112 [x.v,.int .i64 k,.int .i64 t] wB (fun u w'=>∃(y:KS)(n:Int)(b:Bool),u= .tuple #[y.v,.int .i64 n,.bool b]∧LkR y wB w'∧Pu wB w'):=by
 by_cases hk:k<0∨4≤k
 ·exact(rgive_out x k t wB hx hv hk).mono fun u w' ⟨y,h1,h2,h3⟩=>⟨y,-1,false,h1,h2,h3⟩
 ·obtain⟨j,rfl⟩:∃j:Nat,k=(j:Int):=⟨k.toNat,by omega⟩
  exact(rgiv_c x j t wB hx hv.sh (by omega)).mono fun u w' ⟨y,h1,h2,h3,h4,h5⟩=>⟨y,_,_,h1,⟨h2,h3,by rw[h4];exact giv_va hv (by omega)⟩,h5⟩
theorem KS.no.sub{x:KS}{M M':List Hp}(h:x.no M)(hs:M'.Sublist M):x.no M':=fun g hg ⟨z,hz,e⟩=>h g hg ⟨z,hs.subset hz,e⟩
theorem tdm{α β:Type}(F:α→β)(G:α→β){q:List α}{l:List β}{i:Nat}(h:l=(q.take i).map F++(q.drop i).map G){a:α}(ha:q[i]?=some a):l[i]?=some (G a)∧l.set i (F a)=(q.take (i+1)).map F++(q.drop (i+1)).map G:=by
 obtain⟨hi,rfl⟩:=List.getElem?_eq_some_iff.1 ha
 have hl:((q.take i).map F).length=i:=by rw[List.length_map,List.length_take,Nat.min_eq_left (by omega)]
 have e1:q.drop i=q[i]::q.drop (i+1):=List.drop_eq_getElem_cons hi
 rw[h]
 constructor
 ·rw[List.getElem?_append_right (by omega),hl,Nat.sub_self,e1]
  rfl
 ·rw[List.set_append_right _ _ (by omega),hl,Nat.sub_self,e1,List.map_cons,List.set_cons_zero,List.take_succ_eq_append_getElem hi,List.map_append,List.append_assoc]
  rfl
structure DrX where
 i:Nat
 rs:List RW
 qcs:List Value
structure DfX where
 j:Nat
 l:List Int
 A:Option Nat
 c:Nat
 cs:List Value
structure DnX where
 i:Nat
 k:KS
 l:List Int
 A:Option Nat
 c:Nat
 cs:List Value
def filN(t:Int)(q:List Int):List Int:=q.filter (·≠t)
theorem fil_snoc{t v:Int}{q:List Int}{j:Nat}(h:q[j]?=some v):filN t (q.take (j+1))=if v≠t then filN t (q.take j)++[v]else filN t (q.take j):=by
 obtain⟨hj,rfl⟩:=List.getElem?_eq_some_iff.1 h
 unfold filN
 rw[List.take_succ_eq_append_getElem hj,List.filter_append]
 by_cases hv:q[j]=t
 ·simp[hv]
 ·simp[hv]
theorem fil_len(t:Int)(q:List Int):(filN t q).length≤q.length:=List.length_filter_le _ _
theorem rdrop_c(x:KS)(t:Int)(wB:World)(hx:x.ok wB)(hv:VA x.ab):Ret Tryz.prog 116 [x.v,.int .i64 t] wB (fun u w'=>∃(y:KS)(nA:Option Nat)(nc:Nat)(ncs:List Value)(l:List Int),u= .tuple #[y.v,slv nA l.length nc]∧Row nA l.length nc 1 (ints l) ncs∧New wB w' [⟨nA,3,ncs⟩]∧l.length≤4∧LkR y wB w'∧Pu wB w'):=by
 have hsm:=KS.sm_of hx hv.sh
 have hcp:=fun w'' (hf:Pu wB w'')=>cpy_c x w'' (hx.pu hf) hsm
 have hxq:x.qs.length=4:=by have:=hv.q;unfold KS.ab at this;dsimp only at this;rwa[List.length_map]at this
 unfold KS.v IS.v at hcp ⊢
 refine enterR Tryz.func116 rfl rfl rfl fun a hs hm=>?_
 refine gs87a7_ ?_;clear hs hm a;intros;rename_i a hm hs
 obtain⟨g4,rfl⟩:=hs.pp 4
 refine st hs rfl rfl rfl (d_call hs rfl rfl rfl (pl 122 rfl) ((hcp _ hm.fr))) ?_;clear hs a;rintro _ w1 ⟨y,rfl,hyo,hya,hyl,hN,hf⟩ a hs
 replace hm:=gainE hm hf hN
 clear hN hf hcp
 have hyv:VA y.ab:=by rw[hya];exact hv
 have hyol:y.o.xs.length=4:=hyv.o
 obtain⟨⟨oA,oc,ocs,os⟩,qA,qc,qcs,rs⟩:=y
 obtain⟨yo1,yo2,yo3⟩:=hyo
 unfold RW.ok at yo1
 unfold KO.v RW.v at hs
 unfold KO.hps RW.hp at hm
 dsimp only at hs hm hyl yo1 yo2 yo3 hyol
 rw[hxq]at hyl
 rw[hyl]at yo2 hs
 rw[hyol]at yo1 hs
 obtain⟨gq,rfl⟩:=yo2.some_ (by omega)
 have hyq:VA ⟨os,rs.map RW.xs⟩:=hyv
 simp only[List.cons_append,List.nil_append]at hm
 refine gs87a7_ ?_;clear hs hm a;intros;rename_i a hm hs
 obtain⟨g6,rfl⟩:=hs.pp 6
 refine cMidE (.exit 0) (fun a w=>∃(rs':List RW)(qcs':List Value),rs'.length=4∧Row (some gq) 4 qc 1 (rs'.map RW.v) qcs'∧(∀r∈rs',r.ok)∧rs'.map RW.xs=(rs.map RW.xs).map (filN t)∧Sl Tryz.f116.ntmps [(1,.int .i64 t),(4,pt g4),(6,pt g6)] a∧Mm (fun _=>False) wB ([⟨some g6,84,[slv oA 4 oc,slv (some gq) 4 qc]⟩,⟨some g4,84,[nS,nS]⟩,⟨some gq,22,qcs'⟩,⟨oA,3,ocs⟩]++rs'.map RW.hp) w) ?_ ?_
 ·refine cLoop (X:=DrX) (fun X a w=>X.i≤4∧X.rs.length=4∧Row (some gq) 4 qc 1 (X.rs.map RW.v) X.qcs∧(∀r∈X.rs,r.ok)∧X.rs.map RW.xs=((rs.map RW.xs).take X.i).map (filN t)++((rs.map RW.xs).drop X.i).map (fun q=>q)∧Sl Tryz.f116.ntmps [(1,.int .i64 t),(4,pt g4),(6,pt g6),(20,slv (some gq) 4 qc),(21,.int .i64 ((4:Nat):Int)),(22,.int .i64 (X.i:Int))] a∧Mm (fun _=>False) wB ([⟨some g6,84,[slv oA 4 oc,slv (some gq) 4 qc]⟩,⟨some g4,84,[nS,nS]⟩,⟨some gq,22,X.qcs⟩,⟨oA,3,ocs⟩]++X.rs.map RW.hp) w) (fun X=>4-X.i) ⟨0,rs,qcs⟩ ⟨Nat.zero_le _,hyl,yo2,yo3,by dsimp only;rw[List.take_zero,List.drop_zero,List.map_nil,List.nil_append,List.map_id'],(sb_ hs),hm.sub sub_⟩ ?_
  clear hs hm a
  rintro⟨i,us,ucs⟩ a w ⟨hi,hul,hur,huo,hue,hs,hm⟩
  dsimp only at hi hul hur huo hue hs hm
  have hucl:=hur.len
  have hucle:=hur.le
  by_cases hlt:i<4
  ·obtain⟨q,hq⟩:∃q,us[i]?=some q:=⟨_,List.getElem?_eq_getElem (by omega)⟩
   obtain⟨q0,hq0⟩:∃q,(rs.map RW.xs)[i]?=some q:=⟨_,List.getElem?_eq_getElem (by rw[List.length_map];omega)⟩
   obtain⟨ht1,ht2⟩:=tdm (filN t) (fun q=>q) hue hq0
   rw[List.getElem?_map,hq]at ht1
   have hqx:q.xs=q0:=Option.some.inj ht1
   have hqc:ucs[i]?=some (slv q.A q.xs.length q.c):=hur.get (by rw[List.getElem?_map,hq];rfl)
   have hqok:Row q.A q.xs.length q.c 1 (ints q.xs) q.cs:=huo q (List.mem_of_getElem? hq)
   have hq4:q.xs.length≤4:=by rw[hqx];exact hyq.len _ (List.mem_of_getElem? hq0)
   refine gs87a7_ ?_;clear hs hm a;intros;rename_i a hm hs
   replace hm:=(Mm.frontG RW.hp (L:=[⟨some g6,84,[slv oA 4 oc,slv (some gq) 4 qc]⟩,⟨some g4,84,[nS,nS]⟩,⟨some gq,22,ucs⟩,⟨oA,3,ocs⟩]) hm hq).zero 3
   unfold RW.hp at hm
   simp only[List.cons_append,List.nil_append]at hm
   refine cMidE (.exit 2) (fun a w=>∃r:RW,r.ok∧r.xs=filN t q.xs∧Sl Tryz.f116.ntmps [(1,.int .i64 t),(4,pt g4),(6,pt g6),(7,.int .i64 (i:Int)),(9,r.v),(20,slv (some gq) 4 qc),(21,.int .i64 ((4:Nat):Int)),(22,.int .i64 (i:Int))] a∧Mm (fun _=>False) wB (r.hp::([⟨some g6,84,[slv oA 4 oc,slv (some gq) 4 qc]⟩,⟨some g4,84,[nS,nS]⟩,⟨some gq,22,ucs⟩,⟨oA,3,ocs⟩]++(us.eraseIdx i).map RW.hp)) w) ?_ ?_
   ·refine cLoop (X:=DfX) (fun X a w=>X.j≤q.xs.length∧X.l=filN t (q.xs.take X.j)∧Row X.A X.l.length X.c 1 (ints X.l) X.cs∧Sl Tryz.f116.ntmps [(1,.int .i64 t),(4,pt g4),(6,pt g6),(7,.int .i64 (i:Int)),(9,slv X.A X.l.length X.c),(20,slv (some gq) 4 qc),(21,.int .i64 ((4:Nat):Int)),(22,.int .i64 (i:Int)),(27,slv q.A q.xs.length q.c),(28,.int .i64 (q.xs.length:Int)),(29,.int .i64 (X.j:Int))] a∧Mm (fun _=>False) wB (⟨X.A,3,X.cs⟩::⟨q.A,3,q.cs⟩::([⟨some g6,84,[slv oA 4 oc,slv (some gq) 4 qc]⟩,⟨some g4,84,[nS,nS]⟩,⟨some gq,22,ucs⟩,⟨oA,3,ocs⟩]++(us.eraseIdx i).map RW.hp)) w) (fun X=>q.xs.length-X.j) ⟨0,[],none,0,[]⟩ ⟨Nat.zero_le _,rfl,Row.empty 1,(sb_ hs),hm⟩ ?_
    clear hs hm a
    rintro⟨j,l,lA,lc,lcs⟩ a w ⟨i1,i2,i3,hs,hm⟩
    dsimp only at i1 i2 i3 hs hm
    have hll:l.length≤4:=by rw[i2];have:=fil_len t (q.xs.take j);rw[List.length_take]at this;omega
    by_cases hj:j<q.xs.length
    ·obtain⟨gz,hgz⟩:=hqok.some_ (by omega)
     obtain⟨v,hvv⟩:∃v,q.xs[j]?=some v:=⟨_,List.getElem?_eq_getElem hj⟩
     have hcell:q.cs[j]?=some (.int .i64 v):=hqok.get (by unfold ints;rw[List.getElem?_map,hvv];rfl)
     have hfs:=fil_snoc (t:=t) hvv
     rw[hgz]at hs hm
     by_cases hvt:v=t
     ·refine gs87a7_ ?_;clear hs hm a;intros;rename_i a hm hs
      rw[if_neg (by simpa using hvt),←i2]at hfs
      rw[←hgz]at hs hm
      exact⟨⟨j+1,l,lA,lc,lcs⟩,by dsimp only;omega,by dsimp only;omega,hfs.symm,i3,(sb_ hs),hm⟩
     ·rw[if_pos hvt,←i2]at hfs
      refine gs87a7_ ?_;clear hs hm a;intros;rename_i a hm hs
      refine dv hs (Wnt.none rfl) rfl rfl (d_append (A:=lA) (n:=l.length) (c:=lc) (news:=[.int .i64 v]) hs rfl rfl rfl rfl rfl tab rfl rfl rfl rfl rfl hm mem_ i3 rfl (hm.ro (n:=1) mem_ (cutF_ok rfl)) rfl (by show(l.length+1)*8≤_;omega) (by omega)) ?_
      clear hs
      rintro _ w4 ⟨A',c',cs',rfl,hr',hM⟩ a hs
      replace hm:=hM _ rep_
      clear hM
      rw[show ints l++[.int .i64 v]=ints (l++[v]) by unfold ints;rw[List.map_append];rfl]at hr'
      refine gs87a7_ ?_;clear hs hm a;intros;rename_i a hm hs
      rw[←hgz]at hs hm
      refine⟨⟨j+1,l++[v],A',c',cs'⟩,by dsimp only;omega,by dsimp only;omega,hfs.symm,by dsimp only;rw[List.length_append,List.length_singleton];exact hr',by dsimp only;rw[List.length_append,List.length_singleton];exact(sb_ hs),hm.sub (List.Sublist.cons _ (List.Sublist.refl _))⟩
    ·obtain rfl:j=q.xs.length:=by omega
     rw[List.take_length]at i2
     refine gs87a7_ ?_;clear hs hm a;intros;rename_i a hm hs
     exact And.intro rfl ⟨⟨lA,lc,lcs,l⟩,i3,i2,(sb_ hs),hm.sub (List.Sublist.cons_cons _ (List.Sublist.cons _ (List.Sublist.refl _)))⟩
   clear hs hm a
   rintro a w ⟨r,hro,hrx,hs,hm⟩
   unfold RW.v at hs
   simp only[List.cons_append,List.nil_append]at hm
   refine gs87a7_ ?_;clear hs hm a;intros;rename_i a hm hs
   have hur':=hur.set i (slv r.A r.xs.length r.c)
   rw[show(us.map RW.v).set i (slv r.A r.xs.length r.c)=(us.set i r).map RW.v by rw[List.map_set];rfl]at hur'
   refine⟨⟨i+1,us.set i r,ucs.set i (slv r.A r.xs.length r.c)⟩,by dsimp only;omega,by dsimp only;omega,by dsimp only;rw[List.length_set];exact hul,hur',fun z hz=>?_,by dsimp only;rw[List.map_set,hrx,hqx];exact ht2,(sb_ hs),Mm.backG RW.hp (L:=[⟨some g6,84,[slv oA 4 oc,slv (some gq) 4 qc]⟩,⟨some g4,84,[nS,nS]⟩,⟨some gq,22,ucs.set i (slv r.A r.xs.length r.c)⟩,⟨oA,3,ocs⟩]) (by omega) hm⟩
   rcases List.mem_or_eq_of_mem_set hz with hz|rfl
   ·exact huo z hz
   ·exact hro
  ·obtain rfl:i=4:=by omega
   refine gs87a7_ ?_;clear hs hm a;intros;rename_i a hm hs
   refine And.intro rfl ⟨us,ucs,hul,hur,huo,?_,(sb_ hs),hm⟩
   have hl4:(rs.map RW.xs).length=4:=by rw[List.length_map];exact hyl
   rw[List.take_of_length_le (by omega),List.drop_of_length_le (by omega),List.map_nil,List.append_nil]at hue
   exact hue
 clear hs hm a
 rintro a w ⟨us,ucs,hul,hur,huo,hue,hs,hm⟩
 refine gs87a7_ ?_;clear hs hm a;intros;rename_i g w a hm hs
 have hko:KO.ok ⟨⟨oA,oc,ocs,os⟩,some gq,qc,ucs,us⟩:=⟨by unfold RW.ok;dsimp only;rw[hyol];exact yo1,by dsimp only;rw[hul];exact hur,huo⟩
 have hmk:Mm (fun _=>False) wB ([⟨some g6,84,[slv oA 4 oc,slv (some gq) 4 qc]⟩,⟨some g4,84,[nS,nS]⟩]++KO.hps ⟨⟨oA,oc,ocs,os⟩,some gq,qc,ucs,us⟩) w:=hm.sub (List.Sublist.refl _)
 obtain⟨k0,hk0⟩:∃k:KS,k=KO.ks ⟨⟨oA,oc,ocs,os⟩,some gq,qc,ucs,us⟩:=⟨_,rfl⟩
 have hk0v:k0.v= .agg #[slv oA 4 oc,slv (some gq) 4 qc]:=by
  rw[hk0,KO.ks_v]
  unfold KO.v RW.v
  dsimp only
  rw[hul,hyol]
 have hk0ok:k0.ok w:=by rw[hk0];exact KO.ks_ok hmk (fun z hz=>List.mem_append_right _ hz) hko
 have hk0no:k0.no [⟨some g6,84,[slv oA 4 oc,slv (some gq) 4 qc]⟩,⟨some g4,84,[nS,nS]⟩]:=fun g hg=>by
  rw[hk0]at hg
  obtain⟨z,hz,e⟩:=KO.blk_hps hg
  exact Mm.notin hmk hz e
 have hk0new:k0.new wB.heap.size:=by rw[hk0];exact KO.new_at hmk (fun z hz=>List.mem_append_right _ hz)
 have hk0va:VA k0.ab:=by
  rw[hk0,KO.ks_ab]
  show VA ⟨os,us.map RW.xs⟩
  rw[hue]
  exact va_filter hyq
 replace hm:=(hm.zero 3).sub (M':=[⟨none,3,[]⟩,⟨some g6,84,[slv oA 4 oc,slv (some gq) 4 qc]⟩,⟨some g4,84,[nS,nS]⟩]) sub_
 have hk0no':k0.no [⟨none,3,[]⟩,⟨some g6,84,[slv oA 4 oc,slv (some gq) 4 qc]⟩,⟨some g4,84,[nS,nS]⟩]:=fun g hg ⟨z,hz,e⟩=>by
  rcases List.mem_cons.1 hz with rfl|hz
  ·cases e
  ·exact hk0no g hg ⟨z,hz,e⟩
 have hk0c:k0.v= .agg #[.slice k0.o.A k0.o.n k0.o.c,.slice k0.qA k0.qs.length k0.qc]:=rfl
 have hcs: [slv oA 4 oc,slv (some gq) 4 qc]=[.slice k0.o.A k0.o.n k0.o.c,.slice k0.qA k0.qs.length k0.qc]:=by
  rw[hk0c]at hk0v
  have:=congrArg (fun v=>match v with|Value.agg vs=>vs.toList|_=>[]) hk0v
  exact this.symm
 rw[hcs]at hm hk0no'
 clear hmk hk0v hk0no hk0c hcs hko hk0 hue huo hur hul hyq yo1 yo2 yo3 hyv hya
 refine cLoop (X:=DnX) (fun X a w=>X.i≤4∧X.l.length≤X.i∧X.k.ok w∧X.k.new wB.heap.size∧VA X.k.ab∧X.k.no [⟨X.A,3,X.cs⟩,⟨some g6,84,[.slice X.k.o.A X.k.o.n X.k.o.c,.slice X.k.qA X.k.qs.length X.k.qc]⟩,⟨some g4,84,[nS,nS]⟩]∧Row X.A X.l.length X.c 1 (ints X.l) X.cs∧Sl Tryz.f116.ntmps [(1,.int .i64 t),(4,pt g4),(6,pt g6),(12,slv X.A X.l.length X.c),(49,.int .i64 ((4:Nat):Int)),(50,.int .i64 (X.i:Int))] a∧Mm (fun _=>False) wB [⟨X.A,3,X.cs⟩,⟨some g6,84,[.slice X.k.o.A X.k.o.n X.k.o.c,.slice X.k.qA X.k.qs.length X.k.qc]⟩,⟨some g4,84,[nS,nS]⟩] w) (fun X=>4-X.i) ⟨0,k0,[],none,0,[]⟩ ⟨Nat.zero_le _,Nat.le_refl _,hk0ok,hk0new,hk0va,hk0no',Row.empty 1,(sb_ hs),hm⟩ ?_
 clear hs hm a hk0ok hk0new hk0va hk0no'
 rintro⟨i,k,l,lA,lc,lcs⟩ a w ⟨i1,i2,i3,i4,i5,i6,i7,hs,hm⟩
 dsimp only at i1 i2 i3 i4 i5 i6 i7 hs hm
 by_cases hi:i<4
 ·have kg:=rgvA_c k (i:Int) t
  unfold KS.v IS.v at kg
  refine gs87a7_ ?_;clear hs hm a;intros;rename_i a hm hs
  have hmC:=hm
  refine st hs rfl rfl rfl (d_call hs rfl rfl rfl (pl 112 rfl) ((kg _ i3 i5))) ?_;clear hs a;rintro _ w1 ⟨k',n,b,rfl,⟨hk1,hk2,hk3⟩,hf⟩ a hs
  have hno':=hk2.no hm
  have hnew':k'.new wB.heap.size:=fun g hg=>Nat.le_trans hm.fr.size (hk2 g hg)
  replace hm:=hm.pu hf
  have hmB:=hm
  replace hm:=hm.rebase
  cases b
  ·refine gs87a7_ ?_;clear hs hm a;intros;rename_i a hm hs
   have hkF:=hk1.own hno' hm
   have hnF:=(hno'.grow hk1 hm).sub (M':=[⟨lA,3,lcs⟩,⟨some g6,84,[.slice k'.o.A k'.o.n k'.o.c,.slice k'.qA k'.qs.length k'.qc]⟩,⟨some g4,84,[nS,nS]⟩]) sub_
   replace hm:=hmB.trans hm
   exact⟨⟨i+1,k',l,lA,lc,lcs⟩,by dsimp only;omega,by dsimp only;omega,by dsimp only;omega,hkF,hnew',hk3,hnF,i7,(sb_ hs),hm.sub sub_⟩
  by_cases hn0:0≤n
  rotate_left
  ·refine gs87a7_ ?_;clear hs hm a;intros;rename_i a hm hs
   have hkF:=hk1.own hno' hm
   have hnF:=(hno'.grow hk1 hm).sub (M':=[⟨lA,3,lcs⟩,⟨some g6,84,[.slice k'.o.A k'.o.n k'.o.c,.slice k'.qA k'.qs.length k'.qc]⟩,⟨some g4,84,[nS,nS]⟩]) sub_
   replace hm:=hmB.trans hm
   exact⟨⟨i+1,k',l,lA,lc,lcs⟩,by dsimp only;omega,by dsimp only;omega,by dsimp only;omega,hkF,hnew',hk3,hnF,i7,(sb_ hs),hm.sub sub_⟩
  ·refine gs87a7_ ?_;clear hs hm a;intros;rename_i a hm hs
   refine dv hs (Wnt.none rfl) rfl rfl (d_append (A:=lA) (n:=l.length) (c:=lc) (news:=[.int .i64 n]) hs rfl rfl rfl rfl rfl tab rfl rfl rfl rfl rfl hm mem_ i7 rfl (hm.ro (n:=1) mem_ (cutF_ok rfl)) rfl (by show(l.length+1)*8≤_;omega) (by omega)) ?_
   clear hs
   rintro _ w4 ⟨lA',lc',lcs',rfl,hr',hM⟩ a hs
   replace hm:=hM _ rep_
   clear hM
   rw[show ints l++[.int .i64 n]=ints (l++[n]) by unfold ints;rw[List.map_append];rfl]at hr'
   refine gs87a7_ ?_;clear hs hm a;intros;rename_i a hm hs
   have hkF:=hk1.own hno' hm
   have hnF:=(hno'.grow hk1 hm).sub (M':=[⟨lA',3,lcs'⟩,⟨some g6,84,[.slice k'.o.A k'.o.n k'.o.c,.slice k'.qA k'.qs.length k'.qc]⟩,⟨some g4,84,[nS,nS]⟩]) sub_
   replace hm:=hmB.trans hm
   exact⟨⟨i+1,k',l++[n],lA',lc',lcs'⟩,by dsimp only;omega,by dsimp only;omega,by dsimp only;rw[List.length_append,List.length_singleton];omega,hkF,hnew',hk3,hnF,by dsimp only;rw[List.length_append,List.length_singleton];exact hr',by dsimp only;rw[List.length_append,List.length_singleton];exact(sb_ hs),hm.sub sub_⟩
 ·obtain rfl:i=4:=by omega
  have hmB:=hm
  replace hm:=hm.rebase
  refine gs87a7_ ?_;clear hs hm a;intros;rename_i a hm hs
  have hkF:=i3.own i6 hm
  replace hm:=hmB.trans hm
  refine gRetN tab hs rfl (.cons (.cells rfl rfl rfl rfl (hm.ro (k:=0) (n:=2) (g:=g4) mem_ (cutF_ok rfl))) (.cons (.tmp rfl) .nil)) ⟨k,lA,lc,lcs,l,rfl,i7,hm.new sub_,i2,⟨hkF,i4,i5⟩,hm.fr⟩
theorem gpSht0_{G H:Prop}(k:H)(s:Bx H→G:=by intro k_;(repeat(first|(refine ov701a_ ?_;(try clear hs a);intro a hs)|((with_reducible apply lCons);first|(refine dv hs gw_ rfl rfl da_ ?_;(try clear hs hm a);rintro _ w_ ⟨g_,rfl,-,hm⟩ a hs)|(refine stn hs rfl rfl ds_ ?_;(try clear hs hm a);rintro-w_ hm a hs))|refine sc_ ?_));have m_:=hm;have s_:=hs;clear hs;(try clear hm);revert m_ s_ a;(try revert w_);(repeat revert g_);exact k_.h):G:=s ⟨k⟩
def St(M:List Hp)(P:World→Prop)(w:World):Prop:=∀(w':World)(M':List Hp),Mm (own M) w M' w'→P w'
theorem St.now{M:List Hp}{P:World→Prop}{w:World}(h:St M P w):P w:=h w [] (Mm.nil _ w)
theorem St.at_{M M':List Hp}{P:World→Prop}{w w':World}(h:St M P w)(hm:Mm (own M) w M' w'):P w':=h w' M' hm
theorem St.step{M M':List Hp}{P:World→Prop}{w w':World}(h:St M P w)(hm:Mm (own M) w M' w'):St M' P w':=fun w'' M'' hk=>h w'' M'' (hm.trans hk)
theorem St.pu{S:Nat→Prop}{w0 w w':World}{M:List Hp}{P:World→Prop}(h:St M P w)(hm:Mm S w0 M w)(hf:Pu w w'):St M P w':=h.step (hm.rebase.pu hf)
theorem St.mono{M M1:List Hp}{P:World→Prop}{w:World}(h:St M P w)(hs:∀g,own M1 g→own M g):St M1 P w:=fun w' M' hm=>h w' M' ⟨hm.me,hm.fr.mono (fun i _ hi=>hs i hi),hm.dj,fun x hx g hg=>(hm.ow x hx g hg).imp id (hs g)⟩
theorem own_sub{M M1:List Hp}(hs:M1.Sublist M)(g:Nat)(h:own M1 g):own M g:=by
 obtain⟨x,hx,e⟩:=h
 exact⟨x,hs.subset hx,e⟩
theorem St.sub{M M1:List Hp}{P:World→Prop}{w:World}(h:St M P w)(hs:M1.Sublist M):St M1 P w:=h.mono (own_sub hs)
theorem St.of_on{S:Nat→Prop}{w0 w:World}{M R:List Hp}{P:World→Prop}(hm:Mm S w0 (M++R) w)(h:On R P):St M P w:=fun _ _ hk=>h.now (hm.swap hk) (fun _ hx=>List.mem_append_right _ hx)
theorem St.of_ks{M:List Hp}{k:KS}{w:World}(h:k.ok w)(hn:k.no M):St M k.ok w:=fun _ _ hm=>h.own hn hm
theorem St.of_new{S:Nat→Prop}{w0 w w':World}{M R:List Hp}{P:World→Prop}(hm:Mm S w0 M w)(hf:Pu w w')(hN:New w w' R)(h:On R P):St M P w':=St.of_on (gainE hm hf hN) h
theorem New.mm1{w0 w:World}{R:List Hp}(h:New w0 w R):Mm (fun _=>True) w R w:=⟨h.me,Fr.refl _ w,h.dj,fun _ _ _ _=> .inr trivial⟩
theorem MO.of_new{w0 w:World}{y:MO}(h:New w0 w y.hps)(ho:y.ok):y.mv.ok w:=MO.mv_ok h.mm1 (fun _ h=>h) ho
theorem on_new{w0:World}{R:List Hp}(hd:Apart R)(hg:∀h∈R,∀g,h.g=some g→w0.heap.size≤g):On R (fun v=>New w0 v R):=fun _ _ _ _ hm hM=>⟨fun x hx=>hm.me x (hM x hx),hd,hg⟩
structure RD where
 p:PV
 y:MO
 o:OV
 k:KS
def RD.cs(r:RD)(e j:Value):List Value:=(r.p.cl (r.y.cl (slv r.y.tA r.y.ts.length r.y.tc::r.o.cl (r.o.f.cl [.slice r.o.us.A r.o.us.us.length r.o.us.c,.slice r.k.o.A r.k.o.n r.k.o.c,.slice r.k.qA r.k.qs.length r.k.qc,e,j]))))
def RD.hp(g:Nat)(r:RD)(e j:Value):Hp:=⟨some g,87,r.cs e j⟩
theorem Mm.own_lt{S:Nat→Prop}{w0 w:World}{M:List Hp}(hm:Mm S w0 M w){g:Nat}(h:own M g):g<w.heap.size:=by
 obtain⟨x,hx,e⟩:=h
 exact Hp.lt (hm.me x hx) e
theorem New.own_lt{w0 w:World}{M:List Hp}(hm:New w0 w M){g:Nat}(h:own M g):g<w.heap.size:=by
 obtain⟨x,hx,e⟩:=h
 exact Hp.lt (hm.me x hx) e
theorem Mm.own2{S:Nat→Prop}{w0 w:World}{A B:List Hp}(hm:Mm S w0 (A++B) w){g:Nat}(h:own A g)(h':own B g):False:=by
 obtain⟨x,hx,e⟩:=h
 obtain⟨y,hy,e'⟩:=h'
 exact hm.dj.cross2 x hx y hy g e e'
structure RnI [HB](w0:World)(B:Int)(M:List Hp)(r:RD)(w:World):Prop where
 sz:w0.heap.size≤w.heap.size
 p:St M r.p.ok w
 pv:r.p.val
 y:St M (fun v=>New w0 v r.y.hps) w
 yo:r.y.ok
 yv:r.y.d.val r.p.ss B
 o:St M r.o.ok w
 ov:r.o.val
 k:St M r.k.ok w
 kv:VA r.k.ab
 yd:∀g,own r.y.hps g→¬own M g
theorem RnI.step [HB]{w0 w w':World}{B:Int}{M M':List Hp}{r:RD}(h:RnI w0 B M r w)(hm:Mm (own M) w M' w'):RnI w0 B M' r w':=⟨Nat.le_trans h.sz hm.fr.size,h.p.step hm,h.pv,h.y.step hm,h.yo,h.yv,h.o.step hm,h.ov,h.k.step hm,h.kv,fun g hg hg'=>by
 rcases hm.own_ hg' with h1|h1
 ·have:=h.y.now.own_lt hg;omega
 ·exact h.yd g hg h1⟩
theorem RnI.mono [HB]{w0 w:World}{B:Int}{M M1:List Hp}{r:RD}(h:RnI w0 B M r w)(hs:∀g,own M1 g→own M g):RnI w0 B M1 r w:=⟨h.sz,h.p.mono hs,h.pv,h.y.mono hs,h.yo,h.yv,h.o.mono hs,h.ov,h.k.mono hs,h.kv,fun g hg hg'=>h.yd g hg (hs g hg')⟩
theorem RnI.sub [HB]{w0 w:World}{B:Int}{M M1:List Hp}{r:RD}(h:RnI w0 B M r w)(hs:M1.Sublist M):RnI w0 B M1 r w:=h.mono (own_sub hs)
theorem RnI.up [HB]{w0 w:World}{B C:Int}{M:List Hp}{r:RD}(h:RnI w0 B M r w)(hBC:B≤C):RnI w0 C M r w:=⟨h.sz,h.p,h.pv,h.y,h.yo,h.yv.up hBC,h.o,h.ov,h.k,h.kv,h.yd⟩
theorem RnI.pu [HB]{S:Nat→Prop}{w0 wB w w':World}{B:Int}{M:List Hp}{r:RD}(h:RnI w0 B M r w)(hm:Mm S wB M w)(hf:Pu w w'):RnI w0 B M r w':=h.step (hm.rebase.pu hf)
theorem RnI.set_y [HB]{S:Nat→Prop}{w0 wB w w':World}{B:Int}{M:List Hp}{r:RD}{z:MO}(h:RnI w0 B M r w)(hm:Mm S wB M w)(hf:Pu w w')(hz:z=r.y∨New w w' z.hps)(zo:z.ok)(zv:z.d.val r.p.ss B):RnI w0 B M {r with y:=z} w':=by
 have h':=h.pu hm hf
 refine⟨h'.sz,h'.p,h.pv,?_,zo,zv,h'.o,h.ov,h'.k,h.kv,fun g hg hg'=>?_⟩
 ·rcases hz with rfl|hN
  ·exact h'.y
  ·exact St.of_new hm hf hN (on_new hN.dj fun x hx g hg=>Nat.le_trans h.sz (hN.fresh x hx g hg))
 ·rcases hz with rfl|hN
  ·exact h.yd g hg hg'
  ·obtain⟨x,hx,e⟩:=hg
   have:=hN.fresh x hx g e
   have:=hm.own_lt hg'
   omega
theorem RnI.set_k [HB]{S:Nat→Prop}{w0 wB w w':World}{B:Int}{M:List Hp}{r:RD}{z:KS}(h:RnI w0 B M r w)(hm:Mm S wB M w)(hf:Pu w w')(hz:LkR z w w'):RnI w0 B M {r with k:=z} w':=by
 have h':=h.pu hm hf
 exact⟨h'.sz,h'.p,h.pv,h'.y,h.yo,h.yv,h'.o,h.ov,St.of_ks hz.1 (hz.2.1.no hm),hz.2.2,h.yd⟩
theorem zR{y z:MO}{w w':World}(h:z=y∨New w w' z.hps):∃R,New w w' R∧(z=y∨z.hps=R):=by
 rcases h with h|h
 ·exact⟨[],New.nil _ _,.inl h⟩
 ·exact⟨z.hps,h,.inr rfl⟩
theorem RnI.set_y2 [HB]{w0 wB w:World}{B:Int}{M0 M R:List Hp}{r:RD}{z:MO}(h:RnI w0 B M0 r wB)(hm:Mm (own M0) wB (M++R) w)(hR:∀x∈R,∀g,x.g=some g→w0.heap.size≤g)(hz:z=r.y∨z.hps=R)(zo:z.ok)(zv:z.d.val r.p.ss B):RnI w0 B M {r with y:=z} w:=by
 have h':=(h.step hm).sub (List.sublist_append_left M R)
 refine⟨h'.sz,h'.p,h.pv,?_,zo,zv,h'.o,h.ov,h'.k,h.kv,fun g hg hg'=>?_⟩
 ·rcases hz with rfl|rfl
  ·exact h'.y
  ·exact St.of_on hm (on_new (hm.dj.right) hR)
 ·rcases hz with rfl|rfl
  ·exact h'.yd g hg hg'
  ·exact hm.own2 hg' hg
theorem RnI.set_o2 [HB]{w0 wB w:World}{B:Int}{M0 M R:List Hp}{r:RD}{z:OV}(h:RnI w0 B M0 r wB)(hm:Mm (own M0) wB (M++R) w)(hz:On R z.ok)(zv:z.val):RnI w0 B M {r with o:=z} w:=by
 have h':=(h.step hm).sub (List.sublist_append_left M R)
 exact⟨h'.sz,h'.p,h.pv,h'.y,h.yo,h.yv,St.of_on hm hz,zv,h'.k,h.kv,h'.yd⟩
def RqV.no(q:RqV)(M:List Hp):Prop:=∀b o n,q.a.A=some ⟨b,o,n⟩∨q.d.A=some ⟨b,o,n⟩→¬own M b
theorem RqV.ok.own{q:RqV}{M M':List Hp}{w w':World}(h:q.ok w)(hn:q.no M)(hm:Mm (own M) w M' w'):q.ok w':=⟨rdV hm.fr h.a (fun _ g o e=>hn g o _ (.inl e)),rdV hm.fr h.d (fun _ g o e=>hn g o _ (.inr e))⟩
theorem wake_c [HB](w0:World)(B:Int)(r:RD)(gr:Nat)(rA:Option Nat)(n rc:Nat)(es rcs:List Value)(j:Value)(X:List Hp)(t c:Int)(wB:World)(hM:Mm (own (r.hp gr (slv rA n rc) j::⟨rA,177,rcs⟩::X)) wB (r.hp gr (slv rA n rc) j::⟨rA,177,rcs⟩::X) wB)(hI:RnI w0 B (r.hp gr (slv rA n rc) j::⟨rA,177,rcs⟩::X) r wB)(hB:B≤1000000000)(hr:Row rA n rc 18 es rcs)(hn:n≤1000):
  Ret Tryz.prog 115 [pt gr,.int .i64 t,.int .u16 c] wB (fun _ w'=>∃(z:MO)(rA':Option Nat)(rc':Nat)(es' rcs':List Value),RnI w0 B (RD.hp gr {r with y:=z} (slv rA' (n+1) rc') j::⟨rA',177,rcs'⟩::X) {r with y:=z} w'∧Row rA' (n+1) rc' 18 es' rcs'∧(es.all (·.oneCell')=true→es'.all (·.oneCell')=true)∧Mm (own (r.hp gr (slv rA n rc) j::⟨rA,177,rcs⟩::X)) wB (RD.hp gr {r with y:=z} (slv rA' (n+1) rc') j::⟨rA',177,rcs'⟩::X) w'):=by
 obtain⟨M0,hM0⟩:∃M0,r.hp gr (slv rA n rc) j::⟨rA,177,rcs⟩::X=M0:=⟨_,rfl⟩
 have hm0:=hM
 rw[hM0]at hI hM hm0 ⊢
 rw[←hM0]at hm0
 have hm0':Mm (own M0) wB (r.hp gr (slv rA n rc) j::⟨rA,177,rcs⟩::X) wB:=by rw[hM0];exact hM
 clear hm0
 unfold RD.hp RD.cs at hm0'
 refine enterR Tryz.func115 rfl rfl rfl fun a hs hm=>?_
 clear hm
 have hm:=hm0'
 have kvl:∀(w'':World),Ret Tryz.prog 123 [.int .i64 (IntKind.i64.wrap c),.bool true] w'' (fun u w'=>u= .agg #[.int .u8 0,.int .u16 (IntKind.u16.wrap (failF (IntKind.i64.wrap c) true)),.int .i64 0,.int .i64 0,nS,.int .i64 (-1),.bool false]∧Pu w'' w'):=fun w''=>vlu_c (IntKind.i64.wrap c) true w''
 have kwk:∀(w:World)(M':List Hp),Mm (own M0) wB M' w→Ret Tryz.prog 129 [.agg #[.slice r.p.cA r.p.code.length r.p.cc,.slice r.p.sA r.p.ss.length r.p.sc,.slice r.p.dA r.p.ws.length r.p.dc],.agg #[slv r.y.bA r.y.bs.length r.y.bc,.int .u16 r.y.key,slv r.y.m.cA r.y.m.xs.length r.y.m.cc,slv r.y.m.lA r.y.m.ls.length r.y.m.lc,slv r.y.tA r.y.ts.length r.y.tc],.int .i64 t,.agg #[.int .u8 0,.int .u16 (IntKind.u16.wrap (failF (IntKind.i64.wrap c) true)),.int .i64 0,.int .i64 0,nS,.int .i64 (-1),.bool false]] w (fun u w'=>∃(z:MO)(b:Bool),u= .tuple #[.agg #[slv z.bA z.bs.length z.bc,.int .u16 z.key,slv z.m.cA z.m.xs.length z.m.cc,slv z.m.lA z.m.ls.length z.m.lc,slv z.tA z.ts.length z.tc],.bool b]∧z.ok∧z.d.val r.p.ss B∧(z=r.y∨New w w' z.hps)∧Pu w w'):=fun w M' hm=>rwake_c r.p r.y B t (valR (IntKind.i64.wrap c) true) w (hI.p.at_ hm) hI.pv (MO.of_new (hI.y.at_ hm) hI.yo) hI.yo hI.yv hB (valR_ok _ _ _) (valR_fit _ _)
 repeat(first|(refine gpSht0_ ?_;clear hs hm a;intros;rename_i a hm hs)|refine sc_ ?_|((with_reducible apply lCons);first|(refine dvc hs hm gw_ rfl rfl rfl rfl rfl (pl 123 rfl) (kvl _) ?_;clear hs hm a;intro w hm a hs)))
 obtain⟨g6,rfl⟩:=hs.pp 6
 refine cMid (fun a w=>∃(z:MO)(R:List Hp),z.ok∧z.d.val r.p.ss B∧(z=r.y∨z.hps=R)∧(∀x∈R,∀g,x.g=some g→w0.heap.size≤g)∧Sl Tryz.f115.ntmps [(0,pt gr),(1,.int .i64 t),(6,pt g6)] a∧Mm (own M0) wB (⟨some g6,175,[.int .u8 0,.int .u16 (IntKind.u16.wrap (failF (IntKind.i64.wrap c) true)),.int .i64 0,.int .i64 0,nS,.int .i64 (-1),.bool false]⟩::⟨some gr,87,(r.p.cl (z.cl (slv z.tA z.ts.length z.tc::r.o.cl (r.o.f.cl [.slice r.o.us.A r.o.us.us.length r.o.us.c,.slice r.k.o.A r.k.o.n r.k.o.c,.slice r.k.qA r.k.qs.length r.k.qc,slv rA n rc,j]))))⟩::⟨rA,177,rcs⟩::(X++R)) w) ?_ ?_
 ·with_reducible repeat(first|apply gThen|apply wp_seq)
  refine cDrawTB (n:=18) (.s [0,1,2,3,4,5,6,7,8,9,10]<| .o 11<| .x<| .s [12,13,14,15,16]<| .o 17<| .d) 17 [⟨some g6,175,[.int .u8 0,.int .u16 (IntKind.u16.wrap (failF (IntKind.i64.wrap c) true)),.int .i64 0,.int .i64 0,nS,.int .i64 (-1),.bool false]⟩,⟨some gr,87,(r.p.cl (r.y.cl (slv r.y.tA r.y.ts.length r.y.tc::r.o.cl (r.o.f.cl [.slice r.o.us.A r.o.us.us.length r.o.us.c,.slice r.k.o.A r.k.o.n r.k.o.c,.slice r.k.qA r.k.qs.length r.k.qc,slv rA n rc,j]))))⟩] hm rfl rfl ?_
  clear hm;intro t_ w1_ hm
  repeat' (first|(refine dg95fa_ ?_;clear t_ hs hm a;intros;rename_i a hm hs t_)|refine tEB t_ ?_|refine tCB ?_ ?_|exact tNB|intro t_|(refine oDoB (i:=11) hs rfl (Wnt.none rfl) rfl rfl (by exact d_call hs rfl rfl rfl (pl 129 rfl) ((kwk _ _ hm))) ?_;clear hs;rintro _ w1 ⟨z,b,rfl,zo,zv,hz,hf⟩ a hs;(obtain⟨R,hN,hzR⟩:=zR hz);(have hRf:=fun x hx g hg=>Nat.le_trans hI.sz (Nat.le_trans hm.fr.size (hN.fresh x hx g hg)));(replace hm:=gainE hm hf hN);(clear hf hN hz);(simp only[List.cons_append,List.nil_append]at hm);replace t_:=tX t_;refine⟨bu_,?_⟩)|(refine tDB t_ ?_;(exact And.intro rfl ⟨z,R,zo,zv,hzR,hRf,(sb_ hs),hm⟩))|fail)
 clear hs hm a
 rintro a w ⟨z,R,zo,zv,hzR,hRf,hs,hm⟩
 refine cMid (fun a w=>∃(rA':Option Nat)(rc':Nat)(rcs':List Value),Row rA' (n+1) rc' 18 (es++[.int .i64 4,.int .i64 t,.int .i64 0,.int .i64 0,.int .i64 0,.int .i64 0,.int .i64 0,.int .i64 0,.int .i64 0,nS,nS,.int .u8 0,.int .u16 (IntKind.u16.wrap (failF (IntKind.i64.wrap c) true)),.int .i64 0,.int .i64 0,nS,.int .i64 (-1),.bool false]) rcs'∧Sl Tryz.f115.ntmps [] a∧Mm (own M0) wB (⟨some gr,87,(r.p.cl (z.cl (slv z.tA z.ts.length z.tc::r.o.cl (r.o.f.cl [.slice r.o.us.A r.o.us.us.length r.o.us.c,.slice r.k.o.A r.k.o.n r.k.o.c,.slice r.k.qA r.k.qs.length r.k.qc,slv rA' (n+1) rc',j]))))⟩::⟨rA',177,rcs'⟩::(X++R)) w) ?_ ?_
 ·with_reducible repeat(first|apply gThen|apply wp_seq)
  refine cDrawTB (n:=13) (.s [0,1,2,3,4,5,6,7]<| .o 8<| .o 9<| .x<| .s [10,11]<| .o 12<| .d) 12 [⟨some g6,175,[.int .u8 0,.int .u16 (IntKind.u16.wrap (failF (IntKind.i64.wrap c) true)),.int .i64 0,.int .i64 0,nS,.int .i64 (-1),.bool false]⟩,⟨some gr,87,(r.p.cl (z.cl (slv z.tA z.ts.length z.tc::r.o.cl (r.o.f.cl [.slice r.o.us.A r.o.us.us.length r.o.us.c,.slice r.k.o.A r.k.o.n r.k.o.c,.slice r.k.qA r.k.qs.length r.k.qc,slv rA n rc,j]))))⟩] hm rfl rfl ?_
  clear hm;intro t_ w1_ hm
  repeat' (first|(refine dg95fa_ ?_;clear t_ hs hm a;intros;rename_i a hm hs t_)|refine tEB t_ ?_|refine tCB ?_ ?_|exact tNB|intro t_|(refine oDoB (i:=9) hs rfl (Wnt.none rfl) rfl rfl (by exact d_append (A:=rA) (n:=n) (c:=rc) (news:=[.int .i64 4,.int .i64 t,.int .i64 0,.int .i64 0,.int .i64 0,.int .i64 0,.int .i64 0,.int .i64 0,.int .i64 0,nS,nS,.int .u8 0,.int .u16 (IntKind.u16.wrap (failF (IntKind.i64.wrap c) true)),.int .i64 0,.int .i64 0,nS,.int .i64 (-1),.bool false]) hs rfl rfl rfl rfl rfl tab rfl rfl rfl rfl rfl hm mem_ hr rfl (hm.ro (n:=18) mem_ (cutF_ok rfl)) rfl (by show(n+1)*184≤_;omega) (by omega)) ?_;clear hs;rintro _ w1 ⟨rA',rc',rcs',rfl,hr',hM'⟩ a hs;(replace hm:=hM' _ rep_);(clear hM');replace t_:=tX t_;refine⟨bu_,?_⟩)|(refine tDB t_ ?_;(exact And.intro rfl ⟨rA',rc',rcs',hr',hs.sub (Has.all trivial),hm.sub sub_⟩))|fail)
 clear hs hm a
 rintro a w ⟨rA',rc',rcs',hr',hs,hm⟩
 refine gEnd tab hs rfl .nil ?_
 exact⟨z,rA',rc',_,rcs',hI.set_y2 (M:=RD.hp gr {r with y:=z} (slv rA' (n+1) rc') j::⟨rA',177,rcs'⟩::X) hm hRf hzR zo zv,hr',(fun h=>by rw[List.all_append,h];rfl),hm.sub (List.Sublist.cons_cons _ (List.Sublist.cons_cons _ (List.sublist_append_left _ _)))⟩
structure RV where
 r:RD
 eA:Option Addr
 ec:Nat
 n:Nat
 es:List Value
 jA:Option Addr
 jd:Nat
 js:List Int
def RV.cs(z:RV):List Value:=z.r.cs (.slice z.eA z.n z.ec) (.slice z.jA 4 z.jd)
def RV.v(z:RV):Value:= .agg z.cs.toArray
structure RV.inv [HB](z:RV)(w0:World)(B:Int)(X:List Hp)(w:World):Prop where
 i:RnI w0 B X z.r w
 e:St X (fun v=>Rd v v.heap.size z.eA z.es) w
 el:z.es.length=z.n*18
 one:z.es.all (·.oneCell')=true
 j:St X (fun v=>Rd v v.heap.size z.jA (ints z.js)) w
 jl:z.js.length=4
theorem RV.inv.step [HB]{z:RV}{w0 w w':World}{B:Int}{X X':List Hp}(h:z.inv w0 B X w)(hm:Mm (own X) w X' w'):z.inv w0 B X' w':=⟨h.i.step hm,h.e.step hm,h.el,h.one,h.j.step hm,h.jl⟩
theorem RV.inv.sub [HB]{z:RV}{w0 w:World}{B:Int}{X X':List Hp}(h:z.inv w0 B X w)(hs:X'.Sublist X):z.inv w0 B X' w:=⟨h.i.sub hs,h.e.sub hs,h.el,h.one,h.j.sub hs,h.jl⟩
theorem RV.inv.up [HB]{z:RV}{w0 w:World}{B C:Int}{X:List Hp}(h:z.inv w0 B X w)(hBC:B≤C):z.inv w0 C X w:=⟨h.i.up hBC,h.e,h.el,h.one,h.j,h.jl⟩
def runV(f:Nat→Option Addr × Nat × Nat)(k:Int):List Value:=[.slice (f 0).1 (f 0).2.1 (f 0).2.2,.slice (f 1).1 (f 1).2.1 (f 1).2.2,.slice (f 2).1 (f 2).2.1 (f 2).2.2,.slice (f 3).1 (f 3).2.1 (f 3).2.2,.int .u16 k,.slice (f 4).1 (f 4).2.1 (f 4).2.2,.slice (f 5).1 (f 5).2.1 (f 5).2.2,.slice (f 6).1 (f 6).2.1 (f 6).2.2,.slice (f 7).1 (f 7).2.1 (f 7).2.2,.slice (f 8).1 (f 8).2.1 (f 8).2.2,.slice (f 9).1 (f 9).2.1 (f 9).2.2,.slice (f 10).1 (f 10).2.1 (f 10).2.2,.slice (f 11).1 (f 11).2.1 (f 11).2.2,.slice (f 12).1 (f 12).2.1 (f 12).2.2,.slice (f 13).1 (f 13).2.1 (f 13).2.2,.slice (f 14).1 (f 14).2.1 (f 14).2.2,.slice (f 15).1 (f 15).2.1 (f 15).2.2,.slice (f 16).1 (f 16).2.1 (f 16).2.2]
def RV.f(z:RV):Nat→Option Addr × Nat × Nat
 |0=>(z.r.p.cA,z.r.p.code.length,z.r.p.cc)
 |1=>(z.r.p.sA,z.r.p.ss.length,z.r.p.sc)
 |2=>(z.r.p.dA,z.r.p.ws.length,z.r.p.dc)
 |3=>((z.r.y.bA.map fun g=>⟨g,0,none⟩),z.r.y.bs.length,z.r.y.bc)
 |4=>((z.r.y.m.cA.map fun g=>⟨g,0,none⟩),z.r.y.m.xs.length,z.r.y.m.cc)
 |5=>((z.r.y.m.lA.map fun g=>⟨g,0,none⟩),z.r.y.m.ls.length,z.r.y.m.lc)
 |6=>((z.r.y.tA.map fun g=>⟨g,0,none⟩),z.r.y.ts.length,z.r.y.tc)
 |7=>(z.r.o.ck.A,z.r.o.ck.xs.length,z.r.o.ck.c)
 |8=>(z.r.o.rn.A,z.r.o.rn.xs.length,z.r.o.rn.c)
 |9=>(z.r.o.ins.A,z.r.o.ins.qs.length,z.r.o.ins.c)
 |10=>(z.r.o.f.dA,z.r.o.f.ds.length,z.r.o.f.dc)
 |11=>(z.r.o.f.oA,z.r.o.f.os.length,z.r.o.f.oc)
 |12=>(z.r.o.us.A,z.r.o.us.us.length,z.r.o.us.c)
 |13=>(z.r.k.o.A,z.r.k.o.n,z.r.k.o.c)
 |14=>(z.r.k.qA,z.r.k.qs.length,z.r.k.qc)
 |15=>(z.eA,z.n,z.ec)
 |16=>(z.jA,4,z.jd)
 |_=>(none,0,0)
theorem RV.cs_f(z:RV):z.cs=runV z.f z.r.y.key:=rfl
def nof:Nat→Option Addr × Nat × Nat:=fun _=>(none,0,0)
theorem zrow_on{A:Option Nat}{n c s:Nat}{xs cs:List Value}{ty:TypeId}(h:Row A n c s xs cs):On [⟨A,ty,cs⟩] (fun v=>Rd v v.heap.size (ad A) xs):=fun _ _ _ _ hm hM=>hm.rd_row (hM _ (List.mem_singleton.2 rfl)) h
theorem gpSif0_{G H:Prop}(k:H)(s:Bx H→G:=by intro k_;(repeat(first|(refine ovR_ ?_;(try clear hs a);intro a hs)|((with_reducible apply lCons);first|(refine dv hs gw_ rfl rfl da_ ?_;(try clear hs hm a);rintro _ w_ ⟨g_,rfl,-,hm⟩ a hs)|(refine stn hs rfl rfl ds_ ?_;(try clear hs hm a);rintro-w_ hm a hs))|refine sc_ ?_));have m_:=hm;have s_:=hs;clear hs;(try clear hm);revert m_ s_ a;(try revert w_);(repeat revert g_);exact k_.h):G:=s ⟨k⟩
def NumC(c:CN):Prop:=c.t=0∧c.r=0∧c.o=0
theorem numsC_num{q:List Int}:∀c∈numsC q,NumC c:=fun c hc=>by
 obtain⟨v,_,rfl⟩:=List.mem_map.1 hc
 exact⟨rfl,rfl,rfl⟩
theorem proper_c(x:LS)(f:FV)(wB:World)(hx:x.ok wB)(hf:f.ok wB)(hnum:∀d∈f.ds,∀c∈d.xs,NumC c)(hfn:f.ds.length≤1000)(hfl:∀d∈f.ds,d.xs.length≤1000):Ret Tryz.prog 84 [x.s,f.v] wB (fun u w'=>u= .bool true∧Pu wB w'):=by
 have kp:∀(v:Int)(w'':World),Pu wB w''→Ret Tryz.prog 61 [x.s,cnV 0 v 0 0] w'' (fun u w'=>u= .bool true∧Pu w'' w'):=fun v w'' hf=>rprp_c x 0 v 0 0 w'' (hx.pu hf) (.inl rfl)
 obtain⟨A,n,c,bs,key,B,d,ss⟩:=x
 unfold LS.s cnV at*
 unfold FV.v
 dsimp only at*
 refine enterR Tryz.func84 rfl rfl rfl fun a hs hm=>?_
 refine gsce98_ ?_;clear hs hm a;intros;rename_i a hm hs
 refine cLoop (X:=Nat) (fun k a w'=>k≤f.ds.length∧Sl Tryz.f84.ntmps [(0,.slice B n d),(10,.slice f.dA f.ds.length f.dc),(11,.int .i64 (f.ds.length:Int)),(12,.int .i64 (k:Int))] a∧Mm (fun _=>False) wB [] w') (fun k=>f.ds.length-k) 0 ⟨Nat.zero_le _,(sb_ hs),hm.sub sub_⟩ ?_
 clear hs hm a
 rintro k a w' ⟨hk,hs,hm⟩
 by_cases hlt:k<f.ds.length
 ·obtain⟨b1,o1,hA,hb1,r1⟩:=hf.d.ro (by rw[List.length_map];omega)
  have hcell:(f.ds.map CnS.v)[k]?=some (.slice (f.ds[k]).A (f.ds[k]).xs.length (f.ds[k]).c):=by rw[List.getElem?_map,List.getElem?_eq_getElem hlt];rfl
  have hqo:=hf.dd _ (List.getElem_mem hlt)
  have hqn:=hnum _ (List.getElem_mem hlt)
  have hql:=hfl _ (List.getElem_mem hlt)
  generalize f.ds[k]=q at hcell hqo hqn hql
  rw[hA]at hs
  refine gsce98_ ?_;clear hs hm a;intros;rename_i a hm hs
  rw[←hA]at hs
  refine cLoop (X:=Nat) (fun i a w'=>i≤q.xs.length∧Sl Tryz.f84.ntmps [(0,.slice B n d),(10,.slice f.dA f.ds.length f.dc),(11,.int .i64 (f.ds.length:Int)),(12,.int .i64 (k:Int)),(16,.slice q.A q.xs.length q.c),(17,.int .i64 (q.xs.length:Int)),(18,.int .i64 (i:Int))] a∧Mm (fun _=>False) wB [] w') (fun i=>q.xs.length-i) 0 ⟨Nat.zero_le _,(sb_ hs),hm.sub sub_⟩ ?_
  clear hs hm a
  rintro i a w' ⟨hi,hs,hm⟩
  by_cases hlt2:i<q.xs.length
  ·obtain⟨b2,o2,hA2,hb2,r2⟩:=Rd.ro hqo (by rw[cns_len];omega)
   have r3:=r2.flat CN.cs_len hlt2
   obtain⟨n1,n2,n3⟩:=hqn _ (List.getElem_mem hlt2)
   generalize q.xs[i]=z at r3 n1 n2 n3
   unfold CN.cs at r3
   rw[n1,n2,n3]at r3
   rw[hA2]at hs
   clear r1
   repeat(first|(refine gpSif0_ ?_;clear hs hm a;intros;rename_i a hm hs)|refine sc_ ?_|((with_reducible apply lCons);first|(refine dvc hs hm gw_ rfl rfl rfl rfl rfl (pl 61 rfl) (kp _ _ hm.fr) ?_;clear hs hm a;intro w hm a hs)))
   rw[←hA2]at hs
   exact⟨i+1,by omega,by omega,(sb_ hs),hm.sub sub_⟩
  ·obtain rfl:i=q.xs.length:=by omega
   refine gsce98_ ?_;clear hs hm a;intros;rename_i a hm hs
   exact zb7e7_
 ·obtain rfl:k=f.ds.length:=by omega
  refine gsce98_ ?_;clear hs hm a;intros;rename_i a hm hs
  exact gRet1 hs rfl rfl ⟨rfl,hm.fr⟩
def kso:List Int:=List.replicate 4 (-1)
def KSN(go gq:Nat):KS:=⟨RW.is ⟨some go,4,ints kso,kso⟩,some ⟨gq,0,none⟩,4,[nilS,nilS,nilS,nilS]⟩
def ksh(go gq:Nat):List Hp:=[⟨some go,3,ints kso⟩,⟨some gq,22,[nS,nS,nS,nS]⟩]
theorem KSN_on(go gq:Nat):On (ksh go gq) (KSN go gq).ok:=fun S w0 w M hm hM=>by
 have hro:(RW.mk (some go) 4 (ints kso) kso).ok:=row_lit (k:=4) rfl (by omega)
 have hrq:Row (some gq) 4 4 1 ([nilS,nilS,nilS,nilS].map IS.v) [nS,nS,nS,nS]:=⟨(fun e=>by cases e),Nat.le_refl _,by unfold maxLen;omega,rfl,rfl,rfl⟩
 exact ks_mk hm (hM _ (List.mem_cons_self ..)) hro (hM _ (List.mem_cons_of_mem _ (List.mem_cons_self ..))) hrq fun q hq=>by
  have:q=nilS:=by simpa using hq
  subst this
  exact nilS_ok _
theorem KSN_va(go gq:Nat):VA (KSN go gq).ab:=newA_va
theorem rnwN_c(wB:World):Ret Tryz.prog 86 [] wB (fun u w'=>∃go gq:Nat,u= .agg #[.slice (some ⟨go,0,none⟩) 4 4,.slice (some ⟨gq,0,none⟩) 4 4]∧New wB w' (ksh go gq)∧Pu wB w'):=by
 refine enterR Tryz.func86 rfl rfl rfl fun a hs hm=>?_
 refine gsdfd4_ ?_;clear hs hm a;intros;rename_i a hm hs
 obtain⟨g0,rfl⟩:=hs.pp 0
 refine cMid (fun a w=>∃(g1 go gq:Nat),Sl Tryz.f86.ntmps [(0,pt g0),(1,pt g1)] a∧Mm (fun _=>False) wB [⟨some g1,84,[.slice (some ⟨go,0,none⟩) 4 4,.slice (some ⟨gq,0,none⟩) 4 4]⟩,⟨some gq,22,[nS,nS,nS,nS]⟩,⟨some go,3,ints (List.replicate 4 0)⟩,⟨some g0,84,[nS,nS]⟩] w) ?_ ?_
 ·skip
  refine cDrawT (n:=5) (.e [(0,.x<| .e [(1,.x<| .t 2<| .o 3<| .o 4<| .d),(3,.o 1<| .x<| .t 2<| .o 4<| .d)]),(1,.x<| .e [(0,.x<| .t 2<| .o 3<| .o 4<| .d),(3,.o 0<| .x<| .t 2<| .o 4<| .d)]),(3,.e [(0,.x<| .o 1<| .x<| .t 2<| .o 4<| .d),(1,.x<| .o 0<| .x<| .t 2<| .o 4<| .d)])]) [] hm rfl rfl ?_
  clear hm;intro t_ w1_ hm
  repeat' (first|(refine dg9546_ ?_;clear t_ hs hm a;intros;rename_i a hm hs t_)|refine tE t_ ?_|refine tC ?_ ?_|exact tN|intro t_|(refine oDo (i:=0) hs rfl (Wnt.none rfl) rfl rfl (by exact d_makeSlice (n:=4) hs rfl rfl rfl tab rfl rfl rfl rfl rfl (by omega) rfl hm) ?_;clear hs;rintro _ w1 ⟨go,rfl,-,hm⟩ a hs;replace t_:=tX t_;refine⟨(hm.sub sub_),?_⟩)|(refine oDo (i:=1) hs rfl (Wnt.none rfl) rfl rfl (by exact d_makeSlice (n:=4) hs rfl rfl rfl tab rfl rfl rfl rfl rfl (by omega) rfl hm) ?_;clear hs;rintro _ w1 ⟨gq,rfl,-,hm⟩ a hs;replace t_:=tX t_;refine⟨(hm.sub sub_),?_⟩)|(refine tD t_ ?_;(obtain⟨g1,rfl⟩:=hs.pp 1);(refine And.intro rfl ⟨g1,go,gq,(sb_ hs),?_⟩);(first|exact hm.sel [0,1,2,3] (by decide) rfl|exact hm.sel [0,2,1,3] (by decide) rfl|exact hm.sel [1,0,2,3] (by decide) rfl|exact hm.sel [2,0,1,3] (by decide) rfl|exact hm.sel [1,2,0,3] (by decide) rfl|exact hm.sel [2,1,0,3] (by decide) rfl))|fail)
 clear hs hm a
 rintro a w ⟨g1,go,gq,hs,hm⟩
 refine gsdfd4_ ?_;clear hs hm a;intros;rename_i a hm hs
 refine cLoop (X:=Nat × List Int) (fun X a w'=>Sl Tryz.f86.ntmps [(0,pt g0),(1,pt g1),(8,.int .i64 4),(9,.int .i64 (X.1:Int))] a∧Mm (fun _=>False) wB [⟨some g1,84,[.slice (some ⟨go,0,none⟩) 4 4,.slice (some ⟨gq,0,none⟩) 4 4]⟩,⟨some gq,22,[nS,nS,nS,nS]⟩,⟨some go,3,ints X.2⟩,⟨some g0,84,[nS,nS]⟩] w'∧X.1≤4∧X.2.length=4∧X.2.take X.1=List.replicate X.1 (-1)) (fun X=>4-X.1) (0,List.replicate 4 0) ⟨(sb_ hs),hm,Nat.zero_le _,rfl,rfl⟩ ?_
 clear hs hm a
 rintro⟨i,os⟩ a w' ⟨hs,hm,hi,hl,ht⟩
 dsimp only at*
 by_cases hlt:i<4
 ·have hix:i<(ints os).length:=by rw[ints_len];omega
  refine gsdfd4_ ?_;clear hs hm a;intros;rename_i a hm hs
  refine⟨(i+1,os.set i (-1)),by dsimp only;omega,(sb_ hs),?_,by dsimp only;omega,by dsimp only;rw[List.length_set];exact hl,?_⟩
  ·dsimp only
   rw[show ints (os.set i (-1))=(ints os).set i (.int .i64 (-1)) by simp[ints,List.map_set]]
   exact hm
  ·dsimp only
   rw[take_set_snoc _ _ _ (by omega),ht,List.replicate_succ']
 ·obtain rfl:i=4:=by omega
  have hos:os=kso:=by unfold kso;rw[←ht,List.take_of_length_le (by omega)]
  refine gsdfd4_ ?_;clear hs hm a;intros;rename_i a hm hs
  rw[hos]at hm
  exact gRetN tab hs rfl (.cons (.cells rfl rfl rfl rfl (hm.ro (k:=0) (n:=2) (g:=g0) mem_ (cutF_ok rfl))) .nil) ⟨go,gq,rfl,(hm.sel [2,1] (by decide) rfl).new (List.Sublist.refl _),hm.fr⟩
structure BjX where
 k:Nat
 A:Option Nat
 c:Nat
 cs:List Value
theorem beginN_c [HB](p:PV)(A:Option Addr)(c:Nat)(bs:List Int)(key:Int)(o:OV)(wB:World)(hp:p.ok wB)(hpv:p.val)(hA:Rd wB wB.heap.size A (ints bs))(hnc:p.ss.length≤c)(hg:LGap bs p.ss)(hkey:0≤key∧key≤65535)(ho:o.ok wB)(hov:o.val)(hnum:∀d∈o.f.ds,∀c∈d.xs,NumC c):Ret Tryz.prog 49 [p.v,.agg #[.slice A p.ss.length c,.int .u16 key],o.v] wB (fun u w'=>∃(y:MO)(oy:OV)(go gq:Nat)(R:List Hp)(jA:Option Nat)(jc:Nat)(jcs:List Value),u= .tuple #[.agg #[.slice p.cA p.code.length p.cc,.slice p.sA p.ss.length p.sc,.slice p.dA p.ws.length p.dc,slv y.bA y.bs.length y.bc,.int .u16 y.key,slv y.m.cA y.m.xs.length y.m.cc,slv y.m.lA y.m.ls.length y.m.lc,slv y.tA y.ts.length y.tc,.slice oy.ck.A oy.ck.xs.length oy.ck.c,.slice oy.rn.A oy.rn.xs.length oy.rn.c,.slice oy.ins.A oy.ins.qs.length oy.ins.c,.slice oy.f.dA oy.f.ds.length oy.f.dc,.slice oy.f.oA oy.f.os.length oy.f.oc,.slice oy.us.A oy.us.us.length oy.us.c,.slice (some ⟨go,0,none⟩) 4 4,.slice (some ⟨gq,0,none⟩) 4 4,nS,slv jA 4 jc],.int .i64 0]∧y.ok∧y.d.val p.ss 0∧On R oy.ok∧oy.val∧Row jA 4 jc 1 (ints kso) jcs∧New wB w' (⟨jA,3,jcs⟩::(y.hps++(R++ksh go gq)))∧Pu wB w'):=by
 have h4:=hpv.sz.four
 have hfn:=hov.f.n
 rw[FV.len_]at hfn
 have kst:=fun w'' (hf:Pu wB w'')=>start_c p A c bs key w'' (hp.pu hf) hpv (hf.rd' hA) hnc hg hkey
 have kov:=fun w'' (hf:Pu wB w'')=>oval_c o w'' (ho.pu hf) hov
 have koc:=fun w'' (hf:Pu wB w'')=>ocpy_c o w'' (ho.pu hf) hov
 have kpr:=fun w'' (hf:Pu wB w'')=>proper_c ⟨A,p.ss.length,c,bs,key,p.sA,p.sc,p.ss⟩ o.f w'' ⟨hg.len,rfl,hf.rd' hA,hf.rd' hp.s,(fun y hy=>by
  have hy':y∈bs:=hy
  obtain⟨i,hi,rfl⟩:=List.getElem_of_mem hy'
  have h1:=hg.b i hi
  have h2:=hpv.sz.bd (p.ss[i]'(by rw[←hg.len];exact hi)) (List.getElem_mem _)
  rw[getI (l:=bs) (k:=i) hi,getI (l:=p.ss) (k:=i) (by rw[←hg.len];exact hi)]at h1
  omega),hpv.sz.bd,h4⟩ (ho.pu hf).f hnum (by omega) (fun d hd=>by have:=(hov.f.d _ (FV.mem_ hd)).1;omega)
 unfold PV.v OV.v LS.s FV.v at*
 dsimp only at*
 refine enterR Tryz.func49 rfl rfl rfl fun a hs hm=>?_
 refine gsce98_ ?_;clear hs hm a;intros;rename_i a hm hs
 refine st hs rfl rfl rfl (d_call hs rfl rfl rfl (pl 82 rfl) ((kst _ hm.fr))) ?_;clear hs a;rintro _ w1 ⟨y,rfl,yo,yv,hN,hf⟩ a hs
 replace hm:=gainE hm hf hN
 clear hN hf
 unfold MO.v at hs
 simp only[List.cons_append,List.nil_append]at hm
 repeat(first|(refine gpSif0_ ?_;clear hs hm a;intros;rename_i a hm hs)|refine sc_ ?_|((with_reducible apply lCons);first|(refine dvc hs hm gw_ rfl rfl rfl rfl rfl (pl 83 rfl) (kov _ hm.fr) ?_;clear hs hm a;intro w hm a hs)|(refine dvc hs hm gw_ rfl rfl rfl rfl rfl (pl 84 rfl) (kpr _ hm.fr) ?_;clear hs hm a;intro w hm a hs)))
 obtain⟨g3,rfl⟩:=hs.pp 3
 obtain⟨g5,rfl⟩:=hs.pp 5
 obtain⟨g6,rfl⟩:=hs.pp 6
 obtain⟨g8,rfl⟩:=hs.pp 8
 refine cMid (fun a w=>∃(g10:Nat)(oy:OV)(go gq:Nat)(R:List Hp),On R oy.ok∧oy.val∧Sl Tryz.f49.ntmps [(6,pt g6),(10,pt g10)] a∧Mm (fun _=>False) wB ([⟨some g10,87,(p.cl (y.cl (slv y.tA y.ts.length y.tc::oy.cl (oy.f.cl [.slice oy.us.A oy.us.us.length oy.us.c,.slice (some ⟨go,0,none⟩) 4 4,.slice (some ⟨gq,0,none⟩) 4 4,nS,nS]))))⟩,⟨some g6,87,[nS,nS,nS,nS,.int .u16 0,nS,nS,nS,nS,nS,nS,nS,nS,nS,nS,nS,nS,nS]⟩]++(y.hps++(R++ksh go gq))) w) ?_ ?_
 ·with_reducible repeat(first|apply gThen|apply wp_seq)
  refine cDrawT (n:=8) (.s [0,1,2]<| .e [(3,.x<| .e [(4,.x<| .t 5<| .o 6<| .o 7<| .d),(6,.o 4<| .x<| .t 5<| .o 7<| .d)]),(6,.o 3<| .x<| .o 4<| .x<| .t 5<| .o 7<| .d)]) [⟨some g8,32,(y.cl [slv y.tA y.ts.length y.tc])⟩,⟨some g5,81,(o.cl (o.f.cl [.slice o.us.A o.us.us.length o.us.c]))⟩,⟨some g3,38,(p.cl [])⟩] hm rfl rfl ?_
  clear hm;intro t_ w1_ hm
  repeat' (first|(refine dg9546_ ?_;clear t_ hs hm a;intros;rename_i a hm hs t_)|refine tE t_ ?_|refine tC ?_ ?_|exact tN|intro t_|(refine oDo (i:=3) hs rfl (Wnt.none rfl) rfl rfl (by exact d_call hs rfl rfl rfl (pl 85 rfl) ((koc _ hm.fr))) ?_;clear hs;rintro _ w1 ⟨oy,R,rfl,oo,hN,ov,-,-,hf⟩ a hs;(replace hm:=gainE hm hf hN);(clear hN hf);(simp only[List.cons_append,List.nil_append,List.append_assoc]at hm);replace t_:=tX t_;refine⟨(hm.sub sub_),?_⟩)|(refine oDo (i:=4) hs rfl (Wnt.none rfl) rfl rfl (by exact d_call hs rfl rfl rfl (pl 86 rfl) ((rnwN_c _))) ?_;clear hs;rintro _ w1 ⟨go,gq,rfl,hN,hf⟩ a hs;(replace hm:=gainE hm hf hN);(clear hN hf);(simp only[List.cons_append,List.nil_append,List.append_assoc]at hm);replace t_:=tX t_;refine⟨(hm.sub sub_),?_⟩)|(refine tD t_ ?_;(obtain⟨g10,rfl⟩:=hs.pp 10);(exact And.intro rfl ⟨g10,oy,go,gq,R,oo,ov,(sb_ hs),hm.sub (List.Sublist.cons_cons _ (List.Sublist.cons _ (List.Sublist.cons_cons _ (List.Sublist.cons _ (List.Sublist.cons _ (List.Sublist.cons _ (List.Sublist.refl _)))))))⟩))|fail)
 clear hs hm a
 rintro a w ⟨g10,oy,go,gq,R,oo,ov,hs,hm⟩
 refine gsce98_ ?_;clear hs hm a;intros;rename_i a hm hs
 replace hm:=(hm.zero 3).perm (List.Perm.swap _ _ _)
 refine cLoop (X:=BjX) (fun X a w'=>X.k≤4∧Row X.A X.k X.c 1 (ints (List.replicate X.k (-1))) X.cs∧Sl Tryz.f49.ntmps [(6,pt g6),(10,pt g10),(39,.int .i64 (X.k:Int))] a∧Mm (fun _=>False) wB (⟨some g10,87,(p.cl (y.cl (slv y.tA y.ts.length y.tc::oy.cl (oy.f.cl [.slice oy.us.A oy.us.us.length oy.us.c,.slice (some ⟨go,0,none⟩) 4 4,.slice (some ⟨gq,0,none⟩) 4 4,nS,slv X.A X.k X.c]))))⟩::⟨X.A,3,X.cs⟩::⟨some g6,87,[nS,nS,nS,nS,.int .u16 0,nS,nS,nS,nS,nS,nS,nS,nS,nS,nS,nS,nS,nS]⟩::(y.hps++(R++ksh go gq))) w') (fun X=>4-X.k) ⟨0,none,0,[]⟩ ⟨Nat.zero_le _,Row.empty 1,(sb_ hs),hm⟩ ?_
 clear hs hm a
 rintro⟨k,jA,jc,jcs⟩ a w' ⟨hk,hjr,hs,hm⟩
 dsimp only at hk hjr hs hm
 by_cases hlt:k<4
 ·refine gsce98_ ?_;clear hs hm a;intros;rename_i a hm hs
  refine dv hs (Wnt.none rfl) rfl rfl (d_append (A:=jA) (n:=k) (c:=jc) (news:=[.int .i64 (-1)]) hs rfl rfl rfl rfl rfl tab rfl rfl rfl rfl rfl hm mem_ hjr rfl (hm.ro (n:=1) mem_ (cutF_ok rfl)) rfl (by show(k+1)*8≤_;omega) (by omega)) ?_
  clear hs
  rintro _ w4 ⟨jA2,jc2,jcs2,rfl,hjr2,hM⟩ a hs
  replace hm:=hM _ rep_
  clear hM
  rw[ints_snoc',←List.replicate_succ']at hjr2
  refine gsce98_ ?_;clear hs hm a;intros;rename_i a hm hs
  exact⟨⟨k+1,jA2,jc2,jcs2⟩,by dsimp only;omega,by dsimp only;omega,hjr2,(sb_ hs),hm.sub (List.Sublist.cons _ (List.Sublist.refl _))⟩
 ·obtain rfl:k=4:=by omega
  refine gsce98_ ?_;clear hs hm a;intros;rename_i a hm hs
  exact gRetN tab hs rfl (.cons (.cells rfl rfl rfl rfl (hm.ro (k:=0) (n:=18) (g:=g6) mem_ (cutF_ok rfl))) (.cons (.tmp rfl) .nil)) ⟨y,oy,go,gq,R,jA,jc,jcs,rfl,yo,yv,oo,ov,hjr,hm.new (List.Sublist.cons _ (List.Sublist.cons_cons _ (List.Sublist.cons _ (List.Sublist.refl _)))),hm.fr⟩
theorem begin_c [HB](w0:World)(p:PV)(A:Option Addr)(c:Nat)(bs:List Int)(key:Int)(o:OV)(X:List Hp)(wB:World)(hM:Mm (own X) wB X wB)(hw:w0.heap.size≤wB.heap.size)(hp:St X p.ok wB)(hpv:p.val)(hA:Rd wB wB.heap.size A (ints bs))(hnc:p.ss.length≤c)(hg:LGap bs p.ss)(hkey:0≤key∧key≤65535)(ho:o.ok wB)(hov:o.val)(hnum:∀d∈o.f.ds,∀c∈d.xs,NumC c):Ret Tryz.prog 49 [p.v,.agg #[.slice A p.ss.length c,.int .u16 key],o.v] wB (fun u w'=>∃z:RV,u= .tuple #[z.v,.int .i64 0]∧z.inv w0 0 X w'∧z.r.p=p∧Pu wB w'):=by
 refine(beginN_c p A c bs key o wB hp.now hpv hA hnc hg hkey ho hov hnum).mono fun u w' ⟨y,oy,go,gq,R,jA,jc,jcs,hu,yo,yv,oo,ov,hjr,hN,hf⟩=>?_
 have hG:=gainE hM hf hN
 have hY:Mm (own X) wB (X++y.hps) w':=hG.sub (List.Sublist.append (List.Sublist.refl _) (List.Sublist.cons _ (List.sublist_append_left _ _)))
 have hR:Mm (own X) wB (X++R) w':=hG.sub (List.Sublist.append (List.Sublist.refl _) (List.Sublist.cons _ ((List.sublist_append_left _ _).trans (List.sublist_append_right _ _))))
 have hK:Mm (own X) wB (X++ksh go gq) w':=hG.sub (List.Sublist.append (List.Sublist.refl _) (List.Sublist.cons _ ((List.sublist_append_right _ _).trans (List.sublist_append_right _ _))))
 have hJ:Mm (own X) wB (X++[⟨jA,3,jcs⟩]) w':=hG.sub (List.Sublist.append (List.Sublist.refl _) (List.Sublist.cons_cons _ (List.nil_sublist _)))
 have hYn:New wB w' y.hps:=⟨fun x hx=>hN.me x (List.mem_cons_of_mem _ (List.mem_append_left _ hx)),hN.dj.sub (List.Sublist.cons _ (List.sublist_append_left _ _)),fun x hx g e=>hN.fresh x (List.mem_cons_of_mem _ (List.mem_append_left _ hx)) g e⟩
 refine⟨⟨⟨p,y,oy,KSN go gq⟩,none,0,0,[],ad jA,jc,kso⟩,hu,⟨⟨Nat.le_trans hw hf.size,hp.pu hM hf,hpv,St.of_on hY (on_new hYn.dj fun x hx g e=>Nat.le_trans hw (hYn.fresh x hx g e)),yo,yv,St.of_on hR oo,ov,St.of_on hK (KSN_on go gq),KSN_va go gq,fun g h1 h2=>hY.own2 h2 h1⟩,(fun _ _ _ h=>by cases h),rfl,rfl,St.of_on hJ (zrow_on hjr),rfl⟩,rfl,hf⟩
theorem chcell(r:Nat)(h:r<6):∃v:Int,([.int .i64 0,.int .i64 1,.int .i64 2,.int .i64 3,.int .i64 7,.int .i64 63]:List Value)[r]?=some (.int .i64 v):=by
 rcases(by omega:r=0∨r=1∨r=2∨r=3∨r=4∨r=5)with rfl|rfl|rfl|rfl|rfl|rfl
 ·exact⟨0,rfl⟩
 ·exact⟨1,rfl⟩
 ·exact⟨2,rfl⟩
 ·exact⟨3,rfl⟩
 ·exact⟨7,rfl⟩
 ·exact⟨63,rfl⟩
theorem cho_c(gd:Nat)(A:Option Addr)(n c at_:Nat)(xs:List Int)(wB:World)(h:Dk gd A n c at_ xs wB):
  Ret Tryz.prog 53 [pt gd] wB (fun u w'=>∃(th br:Int)(sg:Bool),u= .agg #[.int .i64 th,.int .i64 br,.bool sg]∧DkR gd A n c xs wB w'):=by
 refine enterR Tryz.func53 rfl rfl rfl fun a hs hm=>?_
 clear hm
 have hm:=h.in_
 refine gsce98_ ?_;clear hs hm a;intros;rename_i a hm hs
 obtain⟨g2,rfl⟩:=hs.pp 2
 refine cMid (fun a w=>∃(th br:Int)(sg:Bool)(a1:Nat),Sl Tryz.f53.ntmps [(2,pt g2)] a∧Mm (own [dk gd A n c at_]) wB [⟨some g2,124,[.int .i64 th,.int .i64 br,.bool sg]⟩,dk gd A n c a1] w) ?_ ?_
 ·with_reducible repeat(first|apply gThen|apply wp_seq)
  refine cDrawT (n:=12) (.s [0,3,7]<| .e [(1,.x<| .e [(2,.o 4<| .x<| .t 5<| .e [(6,.o 8<| .x<| .s [9,10]<| .o 11<| .d),(8,.x<| .t 9<| .o 6<| .t 10<| .o 11<| .d)]),(4,.x<| .e [(2,.t 5<| .e [(6,.o 8<| .x<| .s [9,10]<| .o 11<| .d),(8,.x<| .t 9<| .o 6<| .t 10<| .o 11<| .d)]),(8,.x<| .t 9<| .o 2<| .t 5<| .o 6<| .t 10<| .o 11<| .d)])]),(2,.o 1<| .x<| .o 4<| .x<| .t 5<| .e [(6,.o 8<| .x<| .s [9,10]<| .o 11<| .d),(8,.x<| .t 9<| .o 6<| .t 10<| .o 11<| .d)])]) [] hm rfl rfl ?_
  clear hm;intro t_ w1_ hm
  repeat' (first|(refine dg9546_ ?_;clear t_ hs hm a;intros;rename_i a hm hs t_)|refine tE t_ ?_|refine tC ?_ ?_|exact tN|intro t_|(refine oDo (i:=1) hs rfl (Wnt.none rfl) rfl rfl (by exact d_call hs rfl rfl rfl (pl 21 rfl) ((nxt_c gd A n c _ xs 4 _ (h.now hm mem_) (by omega) (by omega)))) ?_;clear hs;rintro _ w1 ⟨r1,rfl,b1,a1,k1,hf⟩ a hs;(replace hm:=hm.dkt rep_ k1 hf);(clear hf);replace t_:=tX t_;refine⟨(hm.sub sub_),?_⟩)|(refine oDo (i:=4) hs rfl (Wnt.none rfl) rfl rfl (by exact d_call hs rfl rfl rfl (pl 21 rfl) ((nxt_c gd A n c _ xs 6 _ (h.now hm mem_) (by omega) (by omega)))) ?_;clear hs;rintro _ w1 ⟨r2,rfl,b2,a2,k2,hf⟩ a hs;(replace hm:=hm.dkt rep_ k2 hf);(clear hf);(obtain⟨bv,hcell⟩:=chcell r2 (by omega));replace t_:=tX t_;refine⟨(hm.sub sub_),?_⟩)|(refine oDo (i:=8) hs rfl (Wnt.none rfl) rfl rfl (by exact d_call hs rfl rfl rfl (pl 21 rfl) ((nxt_c gd A n c _ xs 4 _ (h.now hm mem_) (by omega) (by omega)))) ?_;clear hs;rintro _ w1 ⟨r3,rfl,b3,a3,k3,hf⟩ a hs;(replace hm:=hm.dkt rep_ k3 hf);(clear hf);replace t_:=tX t_;refine⟨(hm.sub sub_),?_⟩)|(refine tD t_ ?_;(exact And.intro rfl ⟨_,_,_,_,(sb_ hs),hm.sub sub_⟩))|fail)
 clear hs hm a
 rintro a w ⟨th,br,sg,a1,hs,hm⟩
 refine gsce98_ ?_;clear hs hm a;intros;rename_i a hm hs
 exact gRetN tab hs rfl (.cons (.cells rfl rfl rfl rfl (hm.ro (k:=0) (n:=3) (g:=g2) mem_ (cutF_ok rfl))) .nil) ⟨th,br,sg,rfl,_,h.now hm mem_,Dk.out hm⟩
theorem out_c(gd:Nat)(A:Option Addr)(n c at_:Nat)(xs:List Int)(wB:World)(h:Dk gd A n c at_ xs wB):
  Ret Tryz.prog 51 [pt gd] wB (fun u w'=>∃(o:OV)(R:List Hp)(a1:Nat),u=o.v∧On R o.ok∧o.val∧(∀d∈o.f.ds,∀c∈d.xs,NumC c)∧Mm (own [dk gd A n c at_]) wB (dk gd A n c a1::R) w'):=by
 refine enterR Tryz.func51 rfl rfl rfl fun a hs hm=>?_
 clear hm
 have hm:=h.in_
 refine gsce98_ ?_;clear hs hm a;intros;rename_i w a hm hs
 refine st hs rfl rfl rfl (d_call hs rfl rfl rfl (pl 78 rfl) ((wds_c gd A n c _ xs 5 _ (h.now hm mem_) (by omega)))) ?_;clear hs a;rintro _ w1 ⟨a1,A1,c1,cs1,y1,rfl,r1,l1,b1,hk⟩ a hs
 replace hm:=hm.deck (R:=[⟨A1,23,cs1⟩]) hk rfl rep_
 clear hk
 simp only[List.cons_append,List.nil_append]at hm
 refine gsce98_ ?_;clear hs hm a;intros;rename_i w a hm hs
 refine st hs rfl rfl rfl (d_call hs rfl rfl rfl (pl 78 rfl) ((wds_c gd A n c _ xs 3 _ (h.now hm mem_) (by omega)))) ?_;clear hs a;rintro _ w1 ⟨a2,A2,c2,cs2,y2,rfl,r2,l2,b2,hk⟩ a hs
 replace hm:=hm.deck (R:=[⟨A2,23,cs2⟩]) hk rfl rep_
 clear hk
 simp only[List.cons_append,List.nil_append]at hm
 refine gsce98_ ?_;clear hs hm a;intros;rename_i w a hm hs
 refine st hs rfl rfl rfl (d_call hs rfl rfl rfl (pl 78 rfl) ((wds_c gd A n c _ xs 8 _ (h.now hm mem_) (by omega)))) ?_;clear hs a;rintro _ w1 ⟨a3,A3,c3,cs3,y3,rfl,r3,l3,b3,hk⟩ a hs
 replace hm:=hm.deck (R:=[⟨A3,23,cs3⟩]) hk rfl rep_
 clear hk
 simp only[List.cons_append,List.nil_append]at hm
 refine gsce98_ ?_;clear hs hm a;intros;rename_i w a hm hs
 refine st hs rfl rfl rfl (d_call hs rfl rfl rfl (pl 78 rfl) ((wds_c gd A n c _ xs 4 _ (h.now hm mem_) (by omega)))) ?_;clear hs a;rintro _ w1 ⟨a4,A4,c4,cs4,y4,rfl,r4,l4,b4,hk⟩ a hs
 replace hm:=hm.deck (R:=[⟨A4,23,cs4⟩]) hk rfl rep_
 clear hk
 simp only[List.cons_append,List.nil_append]at hm
 refine gsce98_ ?_;clear hs hm a;intros;rename_i w a hm hs
 refine st hs rfl rfl rfl (d_call hs rfl rfl rfl (pl 78 rfl) ((wds_c gd A n c _ xs 5 _ (h.now hm mem_) (by omega)))) ?_;clear hs a;rintro _ w1 ⟨a5,A5,c5,cs5,y5,rfl,r5,l5,b5,hk⟩ a hs
 replace hm:=hm.deck (R:=[⟨A5,23,cs5⟩]) hk rfl rep_
 clear hk
 simp only[List.cons_append,List.nil_append]at hm
 refine gsce98_ ?_;clear hs hm a;intros;rename_i w a hm hs
 refine st hs rfl rfl rfl (d_call hs rfl rfl rfl (pl 78 rfl) ((wds_c gd A n c _ xs 5 _ (h.now hm mem_) (by omega)))) ?_;clear hs a;rintro _ w1 ⟨a6,A6,c6,cs6,y6,rfl,r6,l6,b6,hk⟩ a hs
 replace hm:=hm.deck (R:=[⟨A6,23,cs6⟩]) hk rfl rep_
 clear hk
 simp only[List.cons_append,List.nil_append]at hm
 refine gsce98_ ?_;clear hs hm a;intros;rename_i a hm hs
 obtain⟨g10,rfl⟩:=hs.qq 10
 obtain⟨g15,rfl⟩:=hs.qq 15
 obtain⟨g2,rfl⟩:=hs.pp 2
 have q1:WV.fit ⟨ad A1,c1,y1⟩:=⟨r1.le,by dsimp only;omega,b1⟩
 have q2:WV.fit ⟨ad A2,c2,y2⟩:=⟨r2.le,by dsimp only;omega,b2⟩
 have q3:WV.fit ⟨ad A3,c3,y3⟩:=⟨r3.le,by dsimp only;omega,b3⟩
 have q4:WV.fit ⟨ad A4,c4,y4⟩:=⟨r4.le,by dsimp only;omega,b4⟩
 have q5:WV.fit ⟨ad A5,c5,y5⟩:=⟨r5.le,by dsimp only;omega,b5⟩
 have q6:WV.fit ⟨ad A6,c6,y6⟩:=⟨r6.le,by dsimp only;omega,b6⟩
 have kb:=obeg_c (some ⟨g10,0,none⟩) 2 [⟨ad A1,c1,y1⟩,⟨ad A2,c2,y2⟩] ⟨some ⟨g15,0,none⟩,2,[⟨ad A3,c3,y3⟩,⟨ad A4,c4,y4⟩]⟩ ⟨ad A5,c5,y5⟩ ⟨ad A6,c6,y6⟩ _ (hm.rd (g:=g10) mem_ (List.prefix_refl _)) (fun q hq=>by
  simp only[List.mem_cons,List.not_mem_nil,or_false]at hq
  rcases hq with rfl|rfl
  ·exact hm.rd_row mem_ r1
  ·exact hm.rd_row mem_ r2) (by show 2≤4;omega) (fun q hq=>by
  simp only[List.mem_cons,List.not_mem_nil,or_false]at hq
  rcases hq with rfl|rfl
  ·exact q1
  ·exact q2) ⟨hm.rd (g:=g15) mem_ (List.prefix_refl _),fun q hq=>by
  simp only[List.mem_cons,List.not_mem_nil,or_false]at hq
  rcases hq with rfl|rfl
  ·exact hm.rd_row mem_ r3
  ·exact hm.rd_row mem_ r4⟩ ⟨Nat.le_refl _,fun q hq=>by
  simp only[List.mem_cons,List.not_mem_nil,or_false]at hq
  rcases hq with rfl|rfl
  ·exact q3
  ·exact q4⟩ (hm.rd_row mem_ r5) q5 (hm.rd_row mem_ r6) q6
 unfold InL.v WV.v at kb
 dsimp only at kb
 refine st hs rfl rfl rfl (d_call hs rfl rfl rfl (pl 88 rfl) ((kb))) ?_;clear hs a;rintro _ w1 ⟨o,R,rfl,oo,hN,ov,ods,hf⟩ a hs
 replace hm:=gainE hm hf hN
 clear hf hN
 unfold OV.v at hs
 simp only[List.cons_append,List.nil_append]at hm
 refine gsce98_ ?_;clear hs hm a;intros;rename_i a hm hs
 refine gRetN tab hs rfl (.cons (.cells rfl rfl rfl rfl (hm.ro (k:=0) (n:=6) (g:=g2) mem_ (cutF_ok rfl))) .nil) ⟨o,R,a6,rfl,oo,ov,fun d hd z hz=>?_,hm.sub ?_⟩
 ·have h1:d.xs∈o.f.d'.ds:=List.mem_map.2 ⟨d,hd,rfl⟩
  rw[ods]at h1
  obtain⟨q,_,hq⟩:=List.mem_map.1 h1
  rw[←hq]at hz
  exact numsC_num z hz
 ·repeat(first|exact List.Sublist.cons_cons _ (List.Sublist.refl _)|apply List.Sublist.cons)
section
variable {P:Program} {a:Act} {w w0:World} {S:Nat→Prop} {M M1:List Hp} {Q:Exit→Act→World→Prop} {ops:Array Oper} {l:Array Bool} {n:Nat}
theorem wpAnyH_imp{Q:Exit→Act→World→Prop}{A B:World→Prop}(h:∀w,B w→A w):∀(n:Nat)(l:Array Bool)(a:Act)(w:World),wpAnyH P .any ops Q B n l a w→wpAnyH P .any ops Q A n l a w
 |0,_,_,_,hB=>hB
 |n+1,_,_,_,hB=>⟨hB.1,fun i hi=>wpOp_mono (fun _ _ hk=>⟨h _ hk.1,wpAnyH_imp h n _ _ _ hk.2⟩) (hB.2 i hi)⟩
theorem hRebase(hm:Mm S w0 M w)(k:Drawn P ops Q (fun w'=>Mm (own M) w M1 w') n l a w):Drawn P ops Q (fun w'=>Mm S w0 M1 w') n l a w:=
 ⟨wpAnyH_imp (fun _ h=>hm.trans h) n l a w k.h⟩
end
end Go.Proofs.YtbjffoojenpmfaaGreat
