/- Texts put together: Sgo, Sgq, Sgt, Sic, Sid, Sie, Sge, Sgf, Sgg, Sgh. -/
import Derived.Test.YtbjffoojenpmfaaGreatMgSOh
set_option maxRecDepth 20000
set_option maxHeartbeats 64000000
namespace Go.Proofs.YtbjffoojenpmfaaGreat
open Go.RowKit
def thd0:ThD:=⟨0,List.replicate 8 ⟨0,0⟩,0,0,-1,-1,0,0⟩
theorem zrep_cvs(n:Nat):zrep n [.int .u8 0,.int .u16 0]=cvs (List.replicate n ⟨0,0⟩):=zrep_map n CV.cs ⟨0,0⟩
theorem row_full{A:Option Nat}{n s:Nat}{xs:List Value}(hA:A≠none)(hl:xs.length=n*s)(hn:n≤maxLen):Row A n n s xs xs:=
 ⟨fun h=>absurd h hA,Nat.le_refl _,hn,hl,hl,by rw[←hl,List.take_length]⟩
theorem temp_c(wB:World):Ret Tryz.prog 142 [] wB (fun u w'=>∃q:ThO,u= .agg q.v.toArray∧q.ok∧q.d=thd0∧New wB w' [q.hp]∧Pu wB w'):=by
 refine enterR Tryz.func142 rfl rfl rfl fun a hs hm=>?_
 refine gsc373_ ?_;clear hs hm a;intros;rename_i a hm hs
 refine dv hs (Wnt.none rfl) rfl rfl (d_makeSlice (n:=8) hs rfl rfl rfl tab rfl rfl rfl rfl rfl (by omega) rfl hm) ?_
 clear hs hm
 rintro _ w1 ⟨g1,rfl,-,hm⟩ a hs
 refine gsc373_ ?_;clear hs hm a;intros;rename_i a hm hs
 obtain⟨g0,rfl⟩:=hs.pp 0
 have hz:zrep 8 [.int .u8 0,.int .u16 0]=cvs (List.replicate 8 ⟨0,0⟩):=zrep_cvs 8
 have hro:(⟨some g1,8,zrep 8 [.int .u8 0,.int .u16 0],thd0⟩:ThO).ok:=by
  show Row (some g1) 8 8 2 (cvs (List.replicate 8 ⟨0,0⟩)) (zrep 8 [.int .u8 0,.int .u16 0])
  rw[hz]
  exact row_full (fun e=>by cases e) (by rw[cvs_len,List.length_replicate]) (by unfold maxLen;omega)
 exact gRetN tab hs rfl (.cons (.cells rfl rfl rfl rfl (hm.ro (k:=0) (n:=8) (g:=g0) mem_ (cutF_ok rfl))) .nil) ⟨⟨some g1,8,_,thd0⟩,rfl,hro,rfl,hm.new (List.Sublist.cons_cons _ (List.nil_sublist _)),hm.fr⟩
theorem tnew_c(pc:Int)(c:CV)(wB:World):Ret Tryz.prog 140 [.int .i64 pc,.agg #[.int .u8 c.t,.int .u16 c.v]] wB (fun u w'=>∃q:ThO,u= .agg q.v.toArray∧q.ok∧q.d={thd0 with st:=1,pc:=pc,xs:=c::List.replicate 7 ⟨0,0⟩}∧New wB w' [q.hp]∧Pu wB w'):=by
 refine enterR Tryz.func140 rfl rfl rfl fun a hs hm=>?_
 refine gs87a7_ ?_;clear hs hm a;intros;rename_i a hm hs
 refine st hs rfl rfl rfl (d_call hs rfl rfl rfl (pl 142 rfl) ((temp_c _))) ?_;clear hs a;rintro _ w1 ⟨⟨qA,qc,qcs,qd⟩,rfl,hqo,hqd,hN,hf⟩ a hs
 replace hm:=gainE hm hf hN
 clear hN hf
 dsimp only at hqd
 subst hqd
 have hr:Row qA 8 qc 2 (cvs (List.replicate 8 ⟨0,0⟩)) qcs:=hqo
 clear hqo
 obtain⟨gq,rfl⟩:=hr.some_ (by omega)
 have hql:=hr.len
 have hle:=hr.le
 unfold ThO.v at hs
 unfold ThO.hp at hm
 dsimp only at hs hm
 unfold thd0 at hs
 dsimp only at hs
 rw[List.length_replicate]at hs
 refine gs87a7_ ?_;clear hs hm a;intros;rename_i a hm hs
 obtain⟨g3,rfl⟩:=hs.pp 3
 obtain⟨g4,rfl⟩:=hs.pp 4
 obtain⟨g5,rfl⟩:=hs.pp 5
 simp only[List.cons_append,List.nil_append]at hm
 have hsp:=hr.splice (o:=0) (ys:=c.cs) (by rw[CV.cs_len];omega)
 rw[CV.cs_len,show(cvs (List.replicate 8 ⟨0,0⟩)).take 0++c.cs++(cvs (List.replicate 8 ⟨0,0⟩)).drop (0+2)=cvs (c::List.replicate 7 ⟨0,0⟩)from rfl]at hsp
 refine cMid (fun a w=>∃g5:Nat,Sl Tryz.f140.ntmps [(4,pt g4),(5,pt g5)] a∧Mm (fun _=>False) wB [⟨some g5,52,[.int .i64 1,slv (some gq) 8 qc,.int .i64 pc,.int .i64 0,.int .i64 (-1),.int .i64 (-1),.int .i64 0,.int .u16 0]⟩,⟨some g4,52,[.int .i64 0,nS,.int .i64 0,.int .i64 0,.int .i64 0,.int .i64 0,.int .i64 0,.int .u16 0]⟩,⟨some gq,103,qcs.take 0++c.cs++qcs.drop (0+2)⟩] w) ?_ ?_
 ·with_reducible repeat(first|apply gThen|apply wp_seq)
  refine cDrawT (n:=10) (.s [0,2,3]<| .o 1<| .t 4<| .o 5<| .t 6<| .o 7<| .t 8<| .o 9<| .x<| .d) [⟨some g3,103,[.int .u8 c.t,.int .u16 c.v]⟩] hm rfl rfl ?_
  clear hm;intro t_ w1_ hm
  repeat' (first|(refine dgdadf_ ?_;clear t_ hs hm a;intros;rename_i a hm hs t_)|refine tE t_ ?_|refine tC ?_ ?_|exact tN|intro t_|(refine oDoN (i:=9) hs rfl (Wnt.none rfl) rfl (by exact d_store hs rfl rfl rfl tab rfl rfl rfl rfl hm rep_ (putG (by show 0+2≤_;omega))) ?_;clear hs;rintro-w1 hm a hs;replace t_:=tX t_;refine⟨(hm.sub sub_),?_⟩)|(refine tD t_ ?_;(exact And.intro rfl ⟨g5,(sb_ hs),hm.sub sub_⟩))|fail)
 clear hs hm a
 rintro a w ⟨g5,hs,hm⟩
 refine gs87a7_ ?_;clear hs hm a;intros;rename_i a hm hs
 exact gRetN tab hs rfl (.cons (.cells rfl rfl rfl rfl (hm.ro (k:=0) (n:=8) (g:=g4) mem_ (cutF_ok rfl))) .nil) ⟨⟨some gq,qc,_,{thd0 with st:=1,pc:=pc,xs:=c::List.replicate 7 ⟨0,0⟩}⟩,rfl,hsp,rfl,hm.new sub_,hm.fr⟩
theorem tcop_c(t:ThV)(wB:World)(hA:Rd wB wB.heap.size t.A (cvs t.d.xs))(hn:t.d.xs.length≤1000):Ret Tryz.prog 121 [.agg t.v.toArray] wB (fun u w'=>∃q:ThO,u= .agg q.v.toArray∧q.ok∧q.d=t.d∧New wB w' [q.hp]∧Pu wB w'):=by
 unfold ThV.v
 refine enterR Tryz.func121 rfl rfl rfl fun a hs hm=>?_
 refine gs5eea_ ?_;clear hs hm a;intros;rename_i a hm hs
 obtain⟨g1,rfl⟩:=hs.pp 1
 obtain⟨g2,rfl⟩:=hs.pp 2
 refine dv hs (Wnt.none rfl) rfl rfl (d_appendS (A:=none) (n:=0) (c:=0) (xs:=[]) (news:=cvs t.d.xs) hs rfl rfl rfl rfl tab rfl rfl rfl rfl rfl (hm.zero 103) mem_ (Row.empty 2) (cvs_len _) (hm.fr.rd' hA) (cvs_one _) (by show(0+t.d.xs.length)*4≤_;omega) (by omega)) ?_
 clear hs
 rintro _ w3 ⟨rA,rc,rcs,rfl,hrr,hM⟩ a hs
 replace hm:=hM _ rep_
 clear hM
 rw[Nat.zero_add,List.nil_append]at hrr
 rw[Nat.zero_add]at hs
 refine gs5eea_ ?_;clear hs hm a;intros;rename_i a hm hs
 exact gRetN tab hs rfl (.cons (.cells rfl rfl rfl rfl (hm.ro (k:=0) (n:=8) (g:=g2) mem_ (cutF_ok rfl))) .nil) ⟨⟨rA,rc,rcs,t.d⟩,rfl,hrr,rfl,hm.new sub_,hm.fr⟩
theorem tend_c(t:ThV)(trp cod:Int)(wB:World)(hA:Rd wB wB.heap.size t.A (cvs t.d.xs))(hn:t.d.xs.length≤1000):Ret Tryz.prog 109 [.agg t.v.toArray,.int .i64 trp,.int .u16 cod] wB (fun u w'=>∃q:ThO,u= .agg q.v.toArray∧q.ok∧q.d={t.d with st:=4,trp:=trp,cod:=cod}∧New wB w' [q.hp]∧Pu wB w'):=by
 have kc:=fun w'' (hf:Pu wB w'')=>tcop_c t w'' (hf.rd' hA) hn
 unfold ThV.v at*
 refine enterR Tryz.func109 rfl rfl rfl fun a hs hm=>?_
 refine gs87a7_ ?_;clear hs hm a;intros;rename_i a hm hs
 refine st hs rfl rfl rfl (d_call hs rfl rfl rfl (pl 121 rfl) ((kc _ hm.fr))) ?_;clear hs a;rintro _ w1 ⟨q,rfl,hqo,hqd,hN,hf⟩ a hs
 replace hm:=gainE hm hf hN
 clear hN hf
 obtain⟨qA,qc,qcs,qd⟩:=q
 dsimp only at hqd
 subst hqd
 unfold ThO.v at hs
 refine gs87a7_ ?_;clear hs hm a;intros;rename_i a hm hs
 obtain⟨g6,rfl⟩:=hs.pp 6
 obtain⟨g7,rfl⟩:=hs.pp 7
 exact gRetN tab hs rfl (.cons (.cells rfl rfl rfl rfl (hm.ro (k:=0) (n:=8) (g:=g6) mem_ (cutF_ok rfl))) .nil) ⟨⟨qA,qc,qcs,{t.d with st:=4,trp:=trp,cod:=cod}⟩,rfl,hqo,rfl,hm.new sub_,hm.fr⟩
structure RyX where
 js:List Int
 A:Option Nat
 c:Nat
 cs:List Value
theorem trdy_c(A:Option Addr)(c:Nat)(ts:List ThV)(wB:World)(hA:Rd wB wB.heap.size A (ts.flatMap ThV.v))(hn:ts.length≤1000):Ret Tryz.prog 89 [.slice A ts.length c] wB (fun u w'=>∃(B:Option Addr)(d:Nat)(js:List Int),u= .slice B js.length d∧Rd w' w'.heap.size B (ints js)∧(∀b o,B=some ⟨b,o,none⟩→wB.heap.size≤b)∧js.length≤ts.length∧(∀j∈js,∃(k:Nat)(h:k<ts.length),j=(k:Int)∧(ts[k]).d.st=1)∧Pu wB w'):=by
 refine enterR Tryz.func89 rfl rfl rfl fun a hs hm=>?_
 refine gs87a7_ ?_;clear hs hm a;intros;rename_i a hm hs
 replace hm:=hm.zero 3
 refine cLoop (X:=Nat × RyX) (fun X a w'=>X.1≤ts.length∧X.2.js.length≤X.1∧Sl Tryz.f89.ntmps [(0,.slice A ts.length c),(3,slv X.2.A X.2.js.length X.2.c),(6,.slice A ts.length c),(7,.int .i64 (ts.length:Int)),(8,.int .i64 (X.1:Int))] a∧Mm (fun _=>False) wB [⟨X.2.A,3,X.2.cs⟩] w'∧Row X.2.A X.2.js.length X.2.c 1 (ints X.2.js) X.2.cs∧(∀j∈X.2.js,∃(k:Nat)(h:k<ts.length),j=(k:Int)∧(ts[k]).d.st=1)) (fun X=>ts.length-X.1) (0,⟨[],none,0,[]⟩) ⟨Nat.zero_le _,Nat.le_refl _,(sb_ hs),hm.sub sub_,Row.empty 1,fun j hj=>by cases hj⟩ ?_
 clear hs hm a
 rintro⟨k,js,jA,jc,jcs⟩ a w' ⟨hk,hjk,hs,hm,hjr,hjs⟩
 dsimp only at*
 by_cases hlt:k<ts.length
 ·obtain⟨b1,o1,hAe,hb1,r1⟩:=hA.ro (by rw[flat_len ThV.v 8 ThV.len];omega)
  have q1:=r1.flat ThV.len hlt
  obtain⟨z,hz⟩:∃z,ts[k]=z:=⟨_,rfl⟩
  rw[hz]at q1
  unfold ThV.v at q1
  rw[hAe]at hs
  by_cases hst:z.d.st=1
  ·rw[hst]at q1
   refine gs87a7_ ?_;clear hs hm a;intros;rename_i a hm hs
   refine dv hs (Wnt.none rfl) rfl rfl (d_append (A:=jA) (n:=js.length) (c:=jc) (news:=[.int .i64 (k:Int)]) hs rfl rfl rfl rfl rfl tab rfl rfl rfl rfl rfl hm mem_ hjr rfl (hm.ro (n:=1) mem_ (cutF_ok rfl)) rfl (by show(js.length+1)*8≤_;omega) (by omega)) ?_
   clear hs
   rintro _ w4 ⟨jA2,jc2,jcs2,rfl,hjr2,hM⟩ a hs
   replace hm:=hM _ rep_
   clear hM
   rw[ints_snoc']at hjr2
   refine gs87a7_ ?_;clear hs hm a;intros;rename_i a hm hs
   rw[←hAe]at hs
   refine⟨(k+1,⟨js++[(k:Int)],jA2,jc2,jcs2⟩),by dsimp only;omega,⟨by dsimp only;omega,by dsimp only;rw[List.length_append,List.length_singleton];omega,?_,hm.sub sub_,?_,?_⟩⟩
   ·dsimp only
    rw[List.length_append,List.length_singleton]
    exact(sb_ hs)
   ·dsimp only
    rw[List.length_append,List.length_singleton]
    exact hjr2
   ·intro j hj
    dsimp only at hj
    rcases List.mem_append.1 hj with hj|hj
    ·exact hjs j hj
    ·rcases List.mem_singleton.1 hj with rfl
     exact⟨k,hlt,rfl,by rw[hz];exact hst⟩
  ·refine gs87a7_ ?_;clear hs hm a;intros;rename_i a hm hs
   rw[←hAe]at hs
   exact⟨(k+1,⟨js,jA,jc,jcs⟩),by dsimp only;omega,⟨by dsimp only;omega,by dsimp only;omega,(sb_ hs),hm.sub sub_,hjr,hjs⟩⟩
 ·refine gs87a7_ ?_;clear hs hm a;intros;rename_i a hm hs
  exact gRet1 hs rfl rfl ⟨jA.map fun g=>⟨g,0,none⟩,jc,js,rfl,hm.rd_row mem_ hjr,(fun b o e=>by
   cases jA with
   |none=>cases e
   |some g=>
    have e':g=b:=by simpa using congrArg (fun x=>x.map Addr.block) e
    subst e'
    exact(hm.ow _ (List.mem_cons_self ..) g rfl).resolve_right id),by omega,hjs,hm.fr⟩
theorem gpSgq0_{G H:Prop}(k:H)(s:Bx H→G:=by intro k_;(repeat(first|(refine ov_ ?_;(try clear hs a);intro a hs)|((with_reducible apply lCons);first|(refine dv hs gw_ rfl rfl da_ ?_;(try clear hs hm a);rintro _ w_ ⟨g_,rfl,-,hm⟩ a hs)|(refine stn hs rfl rfl ds_ ?_;(try clear hs hm a);rintro-w_ hm a hs))|refine sc_ ?_));have m_:=hm;have s_:=hs;clear hs;(try clear hm);revert m_ s_ a;(try revert w_);(repeat revert g_);exact k_.h):G:=s ⟨k⟩
theorem gpSgq1_{G H:Prop}(k:H)(s:Bx H→G:=by intro k_;(repeat(first|(refine ovR_ ?_;(try clear hs a);intro a hs)|((with_reducible apply lCons);first|(refine dv hs gw_ rfl rfl da_ ?_;(try clear hs hm a);rintro _ w_ ⟨g_,rfl,-,hm⟩ a hs)|(refine stn hs rfl rfl ds_ ?_;(try clear hs hm a);rintro-w_ hm a hs))|refine sc_ ?_));have m_:=hm;have s_:=hs;clear hs;(try clear hm);revert m_ s_ a;(try revert w_);(repeat revert g_);exact k_.h):G:=s ⟨k⟩
def txv(l:List UInt8):Value:= .string ⟨l.toArray⟩
section
variable {P:Program} {N:Nat} {L:List (Nat × Value)} {a:Act} {w:World} {o:Oper} {x y:Operand} {T:List (Nat × TI)}
theorem r_sidx{t:TypeId}{i:TI}{l:List UInt8}{k:Nat}{c:UInt8}(hs:Sl N L a)(ho:o.op= .index t x y)(hx:ev L x=some (txv l))(hy:ev L y=some (.int .i64 (k:Int)))(hT:TabOk P T)(hc:tlk T t=some i)(hd:i.d= .str)(hk:l[k]?=some c):RunV P a o w (.int .u8 (c.toNat:Int)):=by
 replace hx:=hs.ev hx;replace hy:=hs.ev hy
 unfold txv at hx
 have h1:(⟨l.toArray⟩:ByteArray)[k]?=some c:=by
  rw[←hk]
  have:(⟨l.toArray⟩:ByteArray).size=l.length:=by simp[ByteArray.size]
  by_cases h:k<l.length
  ·rw[List.getElem?_eq_getElem h,getElem?_pos _ k (by rw[this];exact h)]
   simp[ByteArray.getElem_eq_getElem_data]
  ·rw[List.getElem?_eq_none (by omega),getElem?_neg _ k (by rw[this];exact h)]
 unfold RunV execOp
 simp[ho,hx,hy,Instr.index,asIntOf,run_und ((hT _ _ hc).str hd),h1]
end
def kndF(c:Int):List UInt8:=if c=0 then[78]else if c=8 then[78]else if c=9 then[78]else if c=11 then[78]else if c=12 then[78]else if c=1 then[72,80,78]else if c=2 then[72,80,78]else if c=3 then[78,78]else if c=4 then[72]else if c=5 then[72,78]else if c=10 then[78,88]else if c=13 then[78,80,78]else if c=14 then[78,80,78]else[]
theorem kndF_len(c:Int):(kndF c).length≤3:=by
 have h:∀(p:Prop) [Decidable p](a b:List UInt8),a.length≤3→b.length≤3→(if p then a else b).length≤3:=fun p _ a b ha hb=>by split<;>assumption
 unfold kndF
 repeat(first|(refine h _ _ _ (by decide) ?_)|decide)
def fitB(k:UInt8)(t:Int):Bool:=if k=78 then decide (t=0)else if k=72 then decide (t=2)else if k=80 then decide (t=1)else true
def bufF(c:Int):Int:=if c=1 then 1 else if c=13 then 1 else if c=2 then 2 else if c=14 then 2 else 0
theorem knd_c(c:Int)(wB:World):Ret Tryz.prog 118 [.int .i64 c] wB (fun u w'=>u=txv (kndF c)∧Pu wB w'):=by
 refine enterR Tryz.func118 rfl rfl rfl fun a hs hm=>?_
 unfold kndF
 by_cases c0:c=0
 ·subst c0
  refine gs87a7_ ?_;clear hs hm a;intros;rename_i a hm hs
  exact gRet1 hs rfl rfl ⟨rfl,hm.fr⟩
 rw[if_neg c0]
 by_cases c8:c=8
 ·subst c8
  refine gs87a7_ ?_;clear hs hm a;intros;rename_i a hm hs
  exact gRet1 hs rfl rfl ⟨rfl,hm.fr⟩
 rw[if_neg c8]
 by_cases c9:c=9
 ·subst c9
  refine gs87a7_ ?_;clear hs hm a;intros;rename_i a hm hs
  exact gRet1 hs rfl rfl ⟨rfl,hm.fr⟩
 rw[if_neg c9]
 by_cases c11:c=11
 ·subst c11
  refine gs87a7_ ?_;clear hs hm a;intros;rename_i a hm hs
  exact gRet1 hs rfl rfl ⟨rfl,hm.fr⟩
 rw[if_neg c11]
 by_cases c12:c=12
 ·subst c12
  refine gs87a7_ ?_;clear hs hm a;intros;rename_i a hm hs
  exact gRet1 hs rfl rfl ⟨rfl,hm.fr⟩
 rw[if_neg c12]
 by_cases c1:c=1
 ·subst c1
  refine gs87a7_ ?_;clear hs hm a;intros;rename_i a hm hs
  exact gRet1 hs rfl rfl ⟨rfl,hm.fr⟩
 rw[if_neg c1]
 by_cases c2:c=2
 ·subst c2
  refine gs87a7_ ?_;clear hs hm a;intros;rename_i a hm hs
  exact gRet1 hs rfl rfl ⟨rfl,hm.fr⟩
 rw[if_neg c2]
 by_cases c3:c=3
 ·subst c3
  refine gs87a7_ ?_;clear hs hm a;intros;rename_i a hm hs
  exact gRet1 hs rfl rfl ⟨rfl,hm.fr⟩
 rw[if_neg c3]
 by_cases c4:c=4
 ·subst c4
  refine gs87a7_ ?_;clear hs hm a;intros;rename_i a hm hs
  exact gRet1 hs rfl rfl ⟨rfl,hm.fr⟩
 rw[if_neg c4]
 by_cases c5:c=5
 ·subst c5
  refine gs87a7_ ?_;clear hs hm a;intros;rename_i a hm hs
  exact gRet1 hs rfl rfl ⟨rfl,hm.fr⟩
 rw[if_neg c5]
 by_cases c10:c=10
 ·subst c10
  refine gs87a7_ ?_;clear hs hm a;intros;rename_i a hm hs
  exact gRet1 hs rfl rfl ⟨rfl,hm.fr⟩
 rw[if_neg c10]
 by_cases c13:c=13
 ·subst c13
  refine gs87a7_ ?_;clear hs hm a;intros;rename_i a hm hs
  exact gRet1 hs rfl rfl ⟨rfl,hm.fr⟩
 rw[if_neg c13]
 by_cases c14:c=14
 ·subst c14
  refine gs87a7_ ?_;clear hs hm a;intros;rename_i a hm hs
  exact gRet1 hs rfl rfl ⟨rfl,hm.fr⟩
 rw[if_neg c14]
 refine gs87a7_ ?_;clear hs hm a;intros;rename_i a hm hs
 exact gRet1 hs rfl rfl ⟨rfl,hm.fr⟩
theorem u8_eq{k:UInt8}{n:Nat}(hn:n<256):((k.toNat:Int)=(n:Int))↔k=UInt8.ofNat n:=by
 constructor
 ·intro h
  have h1:k.toNat=n:=by omega
  rw[←h1];simp
 ·rintro rfl
  rw[UInt8.toNat_ofNat'];omega
theorem fit_c(k:UInt8)(t:Int)(wB:World):Ret Tryz.prog 119 [.int .u8 (k.toNat:Int),.int .u8 t] wB (fun u w'=>u= .bool (fitB k t)∧Pu wB w'):=by
 unfold fitB
 by_cases h1:k=78
 ·subst h1
  rw[if_pos rfl]
  refine enterR Tryz.func119 rfl rfl rfl fun a hs hm=>?_
  refine gs87a7_ ?_;clear hs hm a;intros;rename_i a hm hs
  exact gRet1 hs rfl rfl ⟨rfl,hm.fr⟩
 ·rw[if_neg h1]
  have h1':¬(k.toNat:Int)=78:=fun e=>h1 ((u8_eq (n:=78) (by omega)).1 e)
  by_cases h2:k=72
  ·subst h2
   rw[if_pos rfl]
   refine enterR Tryz.func119 rfl rfl rfl fun a hs hm=>?_
   refine gs87a7_ ?_;clear hs hm a;intros;rename_i a hm hs
   exact gRet1 hs rfl rfl ⟨rfl,hm.fr⟩
  ·rw[if_neg h2]
   have h2':¬(k.toNat:Int)=72:=fun e=>h2 ((u8_eq (n:=72) (by omega)).1 e)
   by_cases h3:k=80
   ·subst h3
    rw[if_pos rfl]
    refine enterR Tryz.func119 rfl rfl rfl fun a hs hm=>?_
    refine gs87a7_ ?_;clear hs hm a;intros;rename_i a hm hs
    exact gRet1 hs rfl rfl ⟨rfl,hm.fr⟩
   ·rw[if_neg h3]
    have h3':¬(k.toNat:Int)=80:=fun e=>h3 ((u8_eq (n:=80) (by omega)).1 e)
    refine enterR Tryz.func119 rfl rfl rfl fun a hs hm=>?_
    generalize(k.toNat:Int)=z at*
    refine gs87a7_ ?_;clear hs hm a;intros;rename_i a hm hs
    exact gRet1 hs rfl rfl ⟨rfl,hm.fr⟩
theorem arg_c(c:Int)(wB:World)(hc:0≤c∧c≤15):Ret Tryz.prog 110 [.int .i64 c] wB (fun u w'=>u= .int .i64 ((kndF c).length:Int)∧Pu wB w'):=by
 have hk:=fun w=>knd_c c w
 generalize kndF c=l at*
 refine enterR Tryz.func110 rfl rfl rfl fun a hs hm=>?_
 repeat(first|(refine gpSgq0_ ?_;clear hs hm a;intros;rename_i a hm hs)|refine sc_ ?_|((with_reducible apply lCons);first|(refine dvc hs hm gw_ rfl rfl rfl rfl rfl (pl 118 rfl) (hk _) ?_;clear hs hm a;intro w hm a hs)))
 exact gRet1 hs rfl rfl ⟨rfl,hm.fr⟩
theorem buf_c(c:Int)(wB:World)(hc:0≤c∧c≤15):Ret Tryz.prog 111 [.int .i64 c] wB (fun u w'=>u= .int .i64 (bufF c)∧Pu wB w'):=by
 unfold bufF
 refine enterR Tryz.func111 rfl rfl rfl fun a hs hm=>?_
 by_cases c1:c=1
 ·subst c1
  refine gs87a7_ ?_;clear hs hm a;intros;rename_i a hm hs
  exact gRet1 hs rfl rfl ⟨rfl,hm.fr⟩
 rw[if_neg c1]
 by_cases c13:c=13
 ·subst c13
  refine gs87a7_ ?_;clear hs hm a;intros;rename_i a hm hs
  exact gRet1 hs rfl rfl ⟨rfl,hm.fr⟩
 rw[if_neg c13]
 by_cases c2:c=2
 ·subst c2
  refine gs87a7_ ?_;clear hs hm a;intros;rename_i a hm hs
  exact gRet1 hs rfl rfl ⟨rfl,hm.fr⟩
 rw[if_neg c2]
 by_cases c14:c=14
 ·subst c14
  refine gs87a7_ ?_;clear hs hm a;intros;rename_i a hm hs
  exact gRet1 hs rfl rfl ⟨rfl,hm.fr⟩
 rw[if_neg c14]
 refine gs87a7_ ?_;clear hs hm a;intros;rename_i a hm hs
 exact gRet1 hs rfl rfl ⟨rfl,hm.fr⟩
structure CN where
 t:Int
 v:Int
 r:Int
 o:Int
def CN.cs(c:CN):List Value:=[.int .u8 c.t,.int .u16 c.v,.int .i64 c.r,.int .i64 c.o]
theorem CN.cs_len(c:CN):c.cs.length=4:=rfl
def CN.a(c:CN):Value:= .agg #[.int .u8 c.t,.int .u16 c.v,.int .i64 c.r,.int .i64 c.o]
def cns(l:List CN):List Value:=l.flatMap CN.cs
theorem cns_len(l:List CN):(cns l).length=l.length*4:=flat_len CN.cs 4 CN.cs_len l
theorem cns_one(l:List CN):(cns l).all (·.oneCell')=true:=flat_one (fun _=>rfl) l
structure CN.val(c:CN):Prop where
 t:c.t=0∨c.t=2∨c.t=1
 v:0≤c.v∧c.v≤65535
 n:¬c.t=1→c.r=0∧c.o=0
 p:c.t=1→c.v=0∧-1≤c.r∧c.r≤3∧0≤c.o∧c.o≤65535∧(¬c.r=-1→c.o≤31)
theorem ccel_c(c:CN)(wB:World)(h:c.val):Ret Tryz.prog 117 [c.a] wB (fun u w'=>u= .bool true∧Pu wB w'):=by
 obtain⟨t,v,r,o⟩:=c
 obtain⟨ht,hv,hn,hp⟩:=h
 unfold CN.a
 dsimp only at*
 rcases ht with rfl|rfl|rfl
 ·obtain⟨rfl,rfl⟩:=hn (by decide)
  refine enterR Tryz.func117 rfl rfl rfl fun a hs hm=>?_
  refine gs87a7_ ?_;clear hs hm a;intros;rename_i a hm hs
  exact gRet1 hs rfl rfl ⟨rfl,hm.fr⟩
 ·obtain⟨rfl,rfl⟩:=hn (by decide)
  refine enterR Tryz.func117 rfl rfl rfl fun a hs hm=>?_
  refine gs87a7_ ?_;clear hs hm a;intros;rename_i a hm hs
  exact gRet1 hs rfl rfl ⟨rfl,hm.fr⟩
 ·obtain⟨rfl,h1,h2,h3,h4,h5⟩:=hp rfl
  by_cases hr:r=-1
  ·subst hr
   refine enterR Tryz.func117 rfl rfl rfl fun a hs hm=>?_
   refine gs87a7_ ?_;clear hs hm a;intros;rename_i a hm hs
   exact gRet1 hs rfl rfl ⟨rfl,hm.fr⟩
  ·replace h5:=h5 hr
   refine enterR Tryz.func117 rfl rfl rfl fun a hs hm=>?_
   refine gs87a7_ ?_;clear hs hm a;intros;rename_i a hm hs
   exact gRet1 hs rfl rfl ⟨rfl,hm.fr⟩
structure CnS where
 A:Option Addr
 c:Nat
 xs:List CN
def CnS.v(x:CnS):Value:= .slice x.A x.xs.length x.c
def CnS.ok(x:CnS)(w:World):Prop:=Rd w w.heap.size x.A (cns x.xs)
theorem CnS.ok.pu{x:CnS}{w w':World}(h:x.ok w)(hf:Pu w w'):x.ok w':=hf.rd' h
theorem ccls_c(x:CnS)(n:Int)(wB:World)(hx:x.ok wB)(h:∀c∈x.xs,c.val)(hn:(x.xs.length:Int)≤n)(hl:x.xs.length≤1000000):Ret Tryz.prog 96 [x.v,.int .i64 n] wB (fun u w'=>u= .bool true∧Pu wB w'):=by
 obtain⟨A,c,xs⟩:=x
 unfold CnS.ok at hx
 unfold CnS.v
 dsimp only at*
 refine enterR Tryz.func96 rfl rfl rfl fun a hs hm=>?_
 refine gsce98_ ?_;clear hs hm a;intros;rename_i a hm hs
 refine cLoop (X:=Nat) (fun k a w'=>k≤xs.length∧Sl Tryz.f96.ntmps [(0,.slice A xs.length c),(1,.int .i64 n),(7,.slice A xs.length c),(8,.int .i64 (xs.length:Int)),(9,.int .i64 (k:Int))] a∧Mm (fun _=>False) wB [] w') (fun k=>xs.length-k) 0 ⟨Nat.zero_le _,(sb_ hs),hm.sub (List.nil_sublist _)⟩ ?_
 clear hs hm a
 rintro k a w' ⟨hk,hs,hm⟩
 by_cases hlt:k<xs.length
 ·obtain⟨b1,o1,hA,hb1,r1⟩:=hx.ro (by rw[cns_len];omega)
  have q1:=r1.flat CN.cs_len hlt
  have hc:=h xs[k] (List.getElem_mem hlt)
  have kc:=fun w''=>ccel_c xs[k] w'' hc
  generalize xs[k]=z at*
  unfold CN.cs at q1
  unfold CN.a at kc
  rw[hA]at hs
  repeat(first|(refine gpSgq1_ ?_;clear hs hm a;intros;rename_i a hm hs)|refine sc_ ?_|((with_reducible apply lCons);first|(refine dvc hs hm gw_ rfl rfl rfl rfl rfl (pl 117 rfl) (kc _) ?_;clear hs hm a;intro w hm a hs)))
  rw[←hA]at hs
  exact⟨k+1,by omega,by omega,(sb_ hs),hm.sub (List.nil_sublist _)⟩
 ·have he:k=xs.length:=by omega
  subst he
  refine gsce98_ ?_;clear hs hm a;intros;rename_i a hm hs
  exact gRet1 hs rfl rfl ⟨rfl,hm.fr⟩
structure RqV where
 th:Int
 stop:Int
 trap:Int
 cnt:Int
 pc:Int
 call:Int
 a:CnS
 d:CnS
def RqV.v(x:RqV):Value:= .agg #[.int .i64 x.th,.int .i64 x.stop,.int .i64 x.trap,.int .i64 x.cnt,.int .i64 x.pc,.int .i64 x.call,.slice x.a.A x.a.xs.length x.a.c,.slice x.d.A x.d.xs.length x.d.c]
structure RqV.ok(x:RqV)(w:World):Prop where
 a:x.a.ok w
 d:x.d.ok w
theorem RqV.ok.pu{x:RqV}{w w':World}(h:x.ok w)(hf:Pu w w'):x.ok w':=⟨h.a.pu hf,h.d.pu hf⟩
structure RqV.val(x:RqV):Prop where
 th:0≤x.th∧x.th≤3
 stop:0≤x.stop∧x.stop≤3
 trap:0≤x.trap∧x.trap≤6
 cnt:0≤x.cnt∧x.cnt≤1099511627776
 pc:0≤x.pc∧x.pc≤255
 call:0≤x.call∧x.call≤15
 a:x.a.xs.length≤3
 d:x.d.xs.length≤16
 av:∀c∈x.a.xs,c.val
 dv:∀c∈x.d.xs,c.val
structure RqV.kin [HB](x:RqV):Prop where
 n:x.a.xs.length=(kndF x.call).length
 k:∀i (h:i<x.a.xs.length) (h':i<(kndF x.call).length),fitB (kndF x.call)[i] x.a.xs[i].t=true
 b:bufF x.call=2→∀c,x.a.xs[2]?=some c→c.v≤16
 h:x.call=12→∀c,x.a.xs[0]?=some c→c.v≤HB.h
theorem rqval_c(x:RqV)(wB:World)(hx:x.ok wB)(h:x.val):Ret Tryz.prog 126 [x.v] wB (fun u w'=>u= .bool true∧Pu wB w'):=by
 obtain⟨th,stop,trap,cnt,pc,call,a0,d0⟩:=x
 obtain⟨h1,h2,h3,h4,h5,h6,h7,h8,h9,h10⟩:=h
 obtain⟨x1,x2⟩:=hx
 dsimp only at*
 have ka:=fun w'' (hf:Pu wB w'')=>ccls_c a0 3 w'' (x1.pu hf) h9 (by omega) (by omega)
 have kd:=fun w'' (hf:Pu wB w'')=>ccls_c d0 16 w'' (x2.pu hf) h10 (by omega) (by omega)
 unfold CnS.v at ka kd
 unfold RqV.v
 dsimp only
 refine enterR Tryz.func126 rfl rfl rfl fun a hs hm=>?_
 refine gsce98_ ?_;clear hs hm a;intros;rename_i a hm hs
 simp only[List.append_eq,List.cons_append,List.nil_append]
 repeat(first|(refine gpSgq1_ ?_;clear hs hm a;intros;rename_i a hm hs)|refine sc_ ?_|((with_reducible apply lCons);first|(refine dvc hs hm gw_ rfl rfl rfl rfl rfl (pl 96 rfl) (ka _ hm.fr) ?_;clear hs hm a;intro w hm a hs)|(refine dvc hs hm gw_ rfl rfl rfl rfl rfl (pl 96 rfl) (kd _ hm.fr) ?_;clear hs hm a;intro w hm a hs)))
 exact gRet1 hs rfl rfl ⟨rfl,hm.fr⟩
theorem gpSgt0_{G H:Prop}(k:H)(s:Bx H→G:=by intro k_;(repeat(first|(refine ov_ ?_;(try clear hs a);intro a hs)|((with_reducible apply lCons);first|(refine dv hs gw_ rfl rfl da_ ?_;(try clear hs hm a);rintro _ w_ ⟨g_,rfl,-,hm⟩ a hs)|(refine stn hs rfl rfl ds_ ?_;(try clear hs hm a);rintro-w_ hm a hs))|refine sc_ ?_));have m_:=hm;have s_:=hs;clear hs;(try clear hm);revert m_ s_ a;(try revert w_);(repeat revert g_);exact k_.h):G:=s ⟨k⟩
structure RsV where
 val:CN
 d:CnS
 spawn:Int
 wait:Bool
def RsV.v(x:RsV):Value:= .agg #[.int .u8 x.val.t,.int .u16 x.val.v,.int .i64 x.val.r,.int .i64 x.val.o,.slice x.d.A x.d.xs.length x.d.c,.int .i64 x.spawn,.bool x.wait]
def RsV.ok(x:RsV)(w:World):Prop:=x.d.ok w
theorem RsV.ok.pu{x:RsV}{w w':World}(h:x.ok w)(hf:Pu w w'):x.ok w':=CnS.ok.pu (x:=x.d) h hf
structure RsV.fit(x:RsV):Prop where
 v:x.val.val
 d:x.d.xs.length≤16
 dv:∀c∈x.d.xs,c.val
 sp:-1≤x.spawn∧x.spawn≤3
def failF(n:Int)(ok:Bool):Int:=if ok=true then n else 65535
def valR(n:Int)(ok:Bool):RsV:=⟨⟨0,IntKind.u16.wrap (failF n ok),0,0⟩,⟨none,0,[]⟩,-1,false⟩
theorem nilC_ok(c:Nat)(w:World):CnS.ok ⟨none,c,[]⟩ w:=fun h=>by cases h
theorem CN.num_val{n:Int}(h:0≤n∧n≤65535):CN.val ⟨0,n,0,0⟩:=⟨.inl rfl,h,fun _=>⟨rfl,rfl⟩,(fun e=>by cases e)⟩
theorem valR_ok(n:Int)(ok:Bool)(w:World):(valR n ok).ok w:=nilC_ok 0 w
theorem valR_fit(n:Int)(ok:Bool):(valR n ok).fit:=⟨CN.num_val (u16_bd _),Nat.zero_le _,(fun c hc=>by cases hc),(by show(-1:Int)≤-1∧(-1:Int)≤3;omega)⟩
theorem vlu_c(n:Int)(ok:Bool)(wB:World):Ret Tryz.prog 123 [.int .i64 n,.bool ok] wB (fun u w'=>u=(valR n ok).v∧Pu wB w'):=by
 cases ok
 ·refine enterR Tryz.func123 rfl rfl rfl fun a hs hm=>?_
  refine gs5eea_ ?_;clear hs hm a;intros;rename_i a hm hs
  exact gRetN tab hs rfl (.cons (.cells rfl rfl rfl rfl (hm.ro (k:=0) (n:=7) mem_ (cutF_ok rfl))) .nil) ⟨rfl,hm.fr⟩
 ·refine enterR Tryz.func123 rfl rfl rfl fun a hs hm=>?_
  refine gs5eea_ ?_;clear hs hm a;intros;rename_i a hm hs
  exact gRetN tab hs rfl (.cons (.cells rfl rfl rfl rfl (hm.ro (k:=0) (n:=7) mem_ (cutF_ok rfl))) .nil) ⟨rfl,hm.fr⟩
theorem rsval_c(x:RsV)(wB:World)(hx:x.ok wB)(h:x.fit):Ret Tryz.prog 127 [x.v] wB (fun u w'=>u= .bool true∧Pu wB w'):=by
 obtain⟨c0,d0,sp,wt⟩:=x
 obtain⟨h1,h2,h3,h4⟩:=h
 unfold RsV.ok at hx
 dsimp only at*
 have kc:=fun w''=>ccel_c c0 w'' h1
 have kd:=fun w'' (hf:Pu wB w'')=>ccls_c d0 16 w'' (hx.pu hf) h3 (by omega) (by omega)
 unfold CnS.v at kd
 unfold CN.a at kc
 unfold RsV.v
 dsimp only
 refine enterR Tryz.func127 rfl rfl rfl fun a hs hm=>?_
 repeat(first|(refine gpSgt0_ ?_;clear hs hm a;intros;rename_i a hm hs)|refine sc_ ?_|((with_reducible apply lCons);first|(refine dvc hs hm gw_ rfl rfl rfl rfl rfl (pl 117 rfl) (kc _) ?_;clear hs hm a;intro w hm a hs)|(refine dvc hs hm gw_ rfl rfl rfl rfl rfl (pl 96 rfl) (kd _ hm.fr) ?_;clear hs hm a;intro w hm a hs)))
 exact gRet1 hs rfl rfl ⟨rfl,hm.fr⟩
def le0:LnO:=⟨none,0,[],⟨-1,false,[]⟩⟩
def lz0:LnO:=⟨none,0,[],⟨0,false,[]⟩⟩
def lnC(k:Nat):List Value:=(List.replicate k le0++List.replicate (4-k) lz0).flatMap LnO.v
def ln4:List Value:=(List.replicate 4 le0).flatMap LnO.v
theorem le0_val(i:Nat):le0.d.val i:=⟨fun _=>⟨rfl,rfl⟩,(fun h=>absurd rfl h),(fun c hc=>by cases hc)⟩
theorem ln4_row(g:Nat):Row (some g) (List.replicate 4 le0).length 4 3 ((List.replicate 4 le0).flatMap LnO.v) ln4:=row_lit (g:=g) (k:=4) rfl (by omega)
theorem le0_ok:∀y∈List.replicate 4 le0,y.ok:=fun y hy=>by
 rw[List.eq_of_mem_replicate hy]
 exact Row.empty 2
theorem empty_c(wB:World):Ret Tryz.prog 62 [] wB (fun u w'=>∃g,u=slv (some g) 4 4∧New wB w' [⟨some g,61,ln4⟩]∧Pu wB w'):=by
 refine enterR Tryz.func62 rfl rfl rfl fun a hs hm=>?_
 refine gsdfd4_ ?_;clear hs hm a;intros;rename_i a hm hs
 refine dv hs (Wnt.none rfl) rfl rfl (d_makeSlice (n:=4) hs rfl rfl rfl tab rfl rfl rfl rfl rfl (by omega) rfl hm) ?_
 clear hs hm
 rintro _ w1 ⟨g1,rfl,-,hm⟩ a hs
 refine gsdfd4_ ?_;clear hs hm a;intros;rename_i a hm hs
 refine cLoop (X:=Nat) (fun k a w'=>k≤4∧Sl Tryz.f62.ntmps [(1,.slice (some ⟨g1,0,none⟩) 4 4),(5,.int .i64 4),(6,.int .i64 (k:Int))] a∧Mm (fun _=>False) wB [⟨some g1,61,lnC k⟩] w') (fun k=>4-k) 0 ⟨Nat.zero_le _,(sb_ hs),hm⟩ ?_
 clear hs hm a
 rintro k a w' ⟨hk,hs,hm⟩
 rcases(by omega:k=0∨k=1∨k=2∨k=3∨k=4)with rfl|rfl|rfl|rfl|rfl
 ·refine gsdfd4_ ?_;clear hs hm a;intros;rename_i a hm hs
  exact⟨1,by omega,by omega,(sb_ hs),hm⟩
 ·refine gsdfd4_ ?_;clear hs hm a;intros;rename_i a hm hs
  exact⟨2,by omega,by omega,(sb_ hs),hm⟩
 ·refine gsdfd4_ ?_;clear hs hm a;intros;rename_i a hm hs
  exact⟨3,by omega,by omega,(sb_ hs),hm⟩
 ·refine gsdfd4_ ?_;clear hs hm a;intros;rename_i a hm hs
  exact⟨4,by omega,by omega,(sb_ hs),hm⟩
 ·refine gsdfd4_ ?_;clear hs hm a;intros;rename_i a hm hs
  exact gRet1 hs rfl rfl ⟨g1,rfl,hm.new sub_,hm.fr⟩
theorem gpSid0_{G H:Prop}(k:H)(s:Bx H→G:=by intro k_;(repeat(first|(refine ovR_ ?_;(try clear hs a);intro a hs)|((with_reducible apply lCons);first|(refine dv hs gw_ rfl rfl (by first|exact da_|exact d_makeSlice hs rfl rfl rfl tab rfl rfl rfl rfl rfl (by omega) rfl hm) ?_;(try clear hs hm a);rintro _ w_ ⟨g_,rfl,-,hm⟩ a hs)|(refine stn hs rfl rfl ds_ ?_;(try clear hs hm a);rintro-w_ hm a hs))|refine sc_ ?_));have m_:=hm;have s_:=hs;clear hs;(try clear hm);revert m_ s_ a;(try revert w_);(repeat revert g_);exact k_.h):G:=s ⟨k⟩
theorem cvs_set{xs:List CV}{m:Nat}{v:Int}(h:m<xs.length):(cvs xs).set (m*2+1) (.int .u16 v)=cvs (xs.set m ⟨(xs[m]).t,v⟩):=
 flat_set CV.cs 2 CV.cs_len xs m 1 xs[m] (.int .u16 v) (List.getElem?_eq_getElem h) (by omega) ⟨(xs[m]).t,v⟩ rfl
theorem ldm_c [HB](p:PV)(A:Option Addr)(c:Nat)(bs:List Int)(key:Int)(wB:World)(hp:p.ok wB)(hpv:p.val)(hA:Rd wB wB.heap.size A (ints bs))(hnc:p.ss.length≤c)(hg:LGap bs p.ss):Ret Tryz.prog 100 [p.v,.agg #[.slice A p.ss.length c,.int .u16 key]] wB (fun u w'=>∃y:MeO,u= .tuple #[y.v,.int .i64 0]∧y.ok∧y.val∧New wB w' y.hps∧Pu wB w'):=by
 obtain⟨cA,cc,code,sA,sc,ss,dA,dc,ws⟩:=p
 obtain⟨h1,h2,h3,h4⟩:=hp
 obtain⟨v1,v2,v3,v4,v5,v6⟩:=hpv
 dsimp only at*
 have hs1:=v1.one
 have hs4:=v1.four
 have hbl:=hg.len
 have kv:=fun w'' (hf:Pu wB w'')=>lv_c A ss.length c bs key sA sc ss w'' rfl hnc (hf.rd' hA) (hf.rd' h2) v1 hg
 obtain⟨bb,ob,rfl,hbb,rB⟩:=hA.ro (by rw[ints_len];omega)
 obtain⟨b2,o2,rfl,hb2,rS⟩:=h2.ro (by rw[ints_len];omega)
 obtain⟨b3,o3,rfl,hb3,rD⟩:=h3.ro (by rw[List.length_map];omega)
 unfold PV.v
 dsimp only
 refine enterR Tryz.func100 rfl rfl rfl fun a hs hm=>?_
 repeat(first|(refine gpSid0_ ?_;clear hs hm a;intros;rename_i a hm hs)|refine sc_ ?_|((with_reducible apply lCons);first|(refine dvc hs hm gw_ rfl rfl rfl rfl rfl (pl 39 rfl) (kv _ hm.fr) ?_;clear hs hm a;intro w hm a hs)))
 obtain⟨g2,rfl⟩:=hs.pp 2
 obtain⟨g3,rfl⟩:=hs.pp 3
 obtain⟨g4,rfl⟩:=hs.pp 4
 refine cMid (fun a w=>∃(gc gl g6:Nat),Sl Tryz.f100.ntmps [(2,pt g2),(3,pt g3),(4,pt g4),(6,pt g6)] a∧Mm (fun _=>False) wB [⟨some g6,29,[.slice (some ⟨gc,0,none⟩) 512 512,.slice (some ⟨gl,0,none⟩) 4 4]⟩,⟨some gc,103,cvs (List.replicate 512 ⟨0,0⟩)⟩,⟨some gl,61,ln4⟩,⟨some g4,29,[nS,nS]⟩,⟨some g3,25,[.slice (some ⟨bb,ob,none⟩) ss.length c,.int .u16 key]⟩,⟨some g2,38,[.slice cA code.length cc,.slice (some ⟨b2,o2,none⟩) ss.length sc,.slice (some ⟨b3,o3,none⟩) ws.length dc]⟩] w) ?_ ?_
 ·with_reducible repeat(first|apply gThen|apply wp_seq)
  refine cDrawT (n:=5) (.e [(0,.x<| .e [(1,.x<| .t 2<| .o 3<| .o 4<| .d),(3,.o 1<| .x<| .t 2<| .o 4<| .d)]),(1,.x<| .e [(0,.x<| .t 2<| .o 3<| .o 4<| .d),(3,.o 0<| .x<| .t 2<| .o 4<| .d)]),(3,.e [(0,.x<| .o 1<| .x<| .t 2<| .o 4<| .d),(1,.x<| .o 0<| .x<| .t 2<| .o 4<| .d)])]) [] hm rfl rfl ?_
  clear hm;intro t_ w1_ hm
  repeat' (first|(refine dg9546_ ?_;clear t_ hs hm a;intros;rename_i a hm hs t_)|refine tE t_ ?_|refine tC ?_ ?_|exact tN|intro t_|(refine oDo (i:=0) hs rfl (Wnt.none rfl) rfl rfl (by exact d_makeSlice (n:=512) hs rfl rfl rfl tab rfl rfl rfl rfl rfl (by omega) rfl hm) ?_;clear hs;rintro _ w1 ⟨gc,rfl,-,hm⟩ a hs;(rw[zrep_cvs]at hm);replace t_:=tX t_;refine⟨(hm.sub sub_),?_⟩)|(refine oDo (i:=1) hs rfl (Wnt.none rfl) rfl rfl (by exact d_call hs rfl rfl rfl (pl 62 rfl) ((empty_c _))) ?_;clear hs;rintro _ w1 ⟨gl,rfl,hN,hf⟩ a hs;(replace hm:=hm.gain hf hN);(clear hf hN);(simp only[List.cons_append,List.nil_append]at hm);replace t_:=tX t_;refine⟨(hm.sub sub_),?_⟩)|(refine tD t_ ?_;(obtain⟨g6,rfl⟩:=hs.pp 6);(first|exact And.intro rfl ⟨gc,gl,g6,(sb_ hs),hm.sel [0,1,2,3,4,5] (by decide) rfl⟩|exact And.intro rfl ⟨gc,gl,g6,(sb_ hs),hm.sel [0,2,1,3,4,5] (by decide) rfl⟩|exact And.intro rfl ⟨gc,gl,g6,(sb_ hs),hm.sel [1,0,2,3,4,5] (by decide) rfl⟩|exact And.intro rfl ⟨gc,gl,g6,(sb_ hs),hm.sel [1,2,0,3,4,5] (by decide) rfl⟩|exact And.intro rfl ⟨gc,gl,g6,(sb_ hs),hm.sel [2,0,1,3,4,5] (by decide) rfl⟩|exact And.intro rfl ⟨gc,gl,g6,(sb_ hs),hm.sel [2,1,0,3,4,5] (by decide) rfl⟩))|fail)
 clear hs hm a
 rintro a w ⟨gc,gl,g6,hs,hm⟩
 refine gsdfd4_ ?_;clear hs hm a;intros;rename_i a hm hs
 refine cLoop (X:=Nat × List CV) (fun X a w'=>X.1≤ws.length∧X.2.length=512∧(∀z∈X.2,z.val)∧Sl Tryz.f100.ntmps [(2,pt g2),(3,pt g3),(4,pt g4),(6,pt g6),(30,.slice (some ⟨b3,o3,none⟩) ws.length dc),(31,.int .i64 (ws.length:Int)),(32,.int .i64 (X.1:Int))] a∧Mm (fun _=>False) wB [⟨some g6,29,[.slice (some ⟨gc,0,none⟩) 512 512,.slice (some ⟨gl,0,none⟩) 4 4]⟩,⟨some gc,103,cvs X.2⟩,⟨some gl,61,ln4⟩,⟨some g4,29,[nS,nS]⟩,⟨some g3,25,[.slice (some ⟨bb,ob,none⟩) ss.length c,.int .u16 key]⟩,⟨some g2,38,[.slice cA code.length cc,.slice (some ⟨b2,o2,none⟩) ss.length sc,.slice (some ⟨b3,o3,none⟩) ws.length dc]⟩] w') (fun X=>ws.length-X.1) (0,List.replicate 512 ⟨0,0⟩) ⟨Nat.zero_le _,List.length_replicate,(fun z hz=>by rw[List.eq_of_mem_replicate hz];exact⟨.inl rfl,by dsimp only;omega,by dsimp only;omega⟩),(sb_ hs),hm⟩ ?_
 clear hs hm a
 rintro⟨r,xs⟩ a w' ⟨hr,hxl,hxv,hs,hm⟩
 dsimp only at hr hxl hxv hs hm
 by_cases hlt:r<ws.length
 ·have hcell:(ws.map WV.v)[r]?=some (.slice (ws[r]).A (ws[r]).xs.length (ws[r]).c):=by rw[List.getElem?_map,List.getElem?_eq_getElem hlt];rfl
  have hfit:=v3 r hlt (by omega)
  have hq1:=h4 _ (List.getElem_mem hlt)
  have hq2:=v4 _ (List.getElem_mem hlt)
  have e2:=ints_some (xs:=ss) (k:=r) (by omega)
  have e1:=ints_some (xs:=bs) (k:=r) (by omega)
  have hgb:=hg.b r (by omega)
  rw[getI (l:=bs) (k:=r) (by omega),getI (l:=ss) (k:=r) (by omega)]at hgb
  generalize ws[r]=q at hcell hfit hq1 hq2
  generalize ss[r]'_=sk at*
  generalize bs[r]'_=bk at*
  refine gsdfd4_ ?_;clear hs hm a;intros;rename_i a hm hs
  refine cLoop (X:=Nat × List CV) (fun X a w'=>X.1≤q.xs.length∧X.2.length=512∧(∀z∈X.2,z.val)∧Sl Tryz.f100.ntmps [(2,pt g2),(3,pt g3),(4,pt g4),(6,pt g6),(7,.int .i64 (r:Int)),(30,.slice (some ⟨b3,o3,none⟩) ws.length dc),(31,.int .i64 (ws.length:Int)),(32,.int .i64 (r:Int)),(46,.slice q.A q.xs.length q.c),(47,.int .i64 (q.xs.length:Int)),(48,.int .i64 (X.1:Int))] a∧Mm (fun _=>False) wB [⟨some g6,29,[.slice (some ⟨gc,0,none⟩) 512 512,.slice (some ⟨gl,0,none⟩) 4 4]⟩,⟨some gc,103,cvs X.2⟩,⟨some gl,61,ln4⟩,⟨some g4,29,[nS,nS]⟩,⟨some g3,25,[.slice (some ⟨bb,ob,none⟩) ss.length c,.int .u16 key]⟩,⟨some g2,38,[.slice cA code.length cc,.slice (some ⟨b2,o2,none⟩) ss.length sc,.slice (some ⟨b3,o3,none⟩) ws.length dc]⟩] w') (fun X=>q.xs.length-X.1) (0,xs) ⟨Nat.zero_le _,hxl,hxv,(sb_ hs),hm⟩ ?_
  clear hs hm a
  rintro⟨i,ys⟩ a w' ⟨hi,hyl,hyv,hs,hm⟩
  dsimp only at hi hyl hyv hs hm
  by_cases hlt2:i<q.xs.length
  ·obtain⟨b4,o4,hqA,hb4,rQ⟩:=hq1.ro (by unfold wds;rw[List.length_map];omega)
   have e3:(wds q.xs)[i]?=some (.int .u16 (q.xs[i])):=by unfold wds;rw[List.getElem?_map,List.getElem?_eq_getElem hlt2];rfl
   have hvb:=hq2 _ (List.getElem_mem hlt2)
   generalize q.xs[i]'_=v at e3 hvb
   obtain⟨m,hm1⟩:∃m:Nat,bk+(i:Int)=(m:Int):=⟨(bk+(i:Int)).toNat,by omega⟩
   have hm2:m<512:=by omega
   have hm3:m*2+1<(cvs ys).length:=by rw[cvs_len];omega
   rw[hqA]at hs
   refine gsdfd4_ ?_;clear hs hm a;intros;rename_i a hm hs
   refine cMid (fun a w=>Sl Tryz.f100.ntmps [(2,pt g2),(3,pt g3),(4,pt g4),(6,pt g6),(7,.int .i64 (r:Int)),(30,.slice (some ⟨b3,o3,none⟩) ws.length dc),(31,.int .i64 (ws.length:Int)),(32,.int .i64 (r:Int)),(46,.slice q.A q.xs.length q.c),(47,.int .i64 (q.xs.length:Int)),(48,.int .i64 (i:Int))] a∧Mm (fun _=>False) wB [⟨some g6,29,[.slice (some ⟨gc,0,none⟩) 512 512,.slice (some ⟨gl,0,none⟩) 4 4]⟩,⟨some gc,103,(cvs ys).set (m*2+1) (.int .u16 v)⟩,⟨some gl,61,ln4⟩,⟨some g4,29,[nS,nS]⟩,⟨some g3,25,[.slice (some ⟨bb,ob,none⟩) ss.length c,.int .u16 key]⟩,⟨some g2,38,[.slice cA code.length cc,.slice (some ⟨b2,o2,none⟩) ss.length sc,.slice (some ⟨b3,o3,none⟩) ws.length dc]⟩] w) ?_ ?_
   ·with_reducible repeat(first|apply gThen|apply wp_seq)
    refine cDrawT (n:=13) (.s [0,1,2,3,4,5,6,7,8,9,10,11]<| .o 12<| .d) [⟨some g6,29,[.slice (some ⟨gc,0,none⟩) 512 512,.slice (some ⟨gl,0,none⟩) 4 4]⟩,⟨some g3,25,[.slice (some ⟨bb,ob,none⟩) ss.length c,.int .u16 key]⟩] hm rfl rfl ?_
    clear hm;intro t_ w1_ hm
    repeat' (first|(refine dg9546_ ?_;clear t_ hs hm a;intros;rename_i a hm hs t_)|refine tE t_ ?_|refine tC ?_ ?_|exact tN|intro t_|(refine tD t_ ?_;(rw[←hqA]at hs);(exact And.intro rfl ⟨(sb_ hs),hm⟩))|fail)
   clear hs hm a
   rintro a w ⟨hs,hm⟩
   rw[cvs_set (by omega)]at hm
   refine gsdfd4_ ?_;clear hs hm a;intros;rename_i a hm hs
   refine⟨(i+1,ys.set m ⟨(ys[m]'(by omega)).t,v⟩),by dsimp only;omega,by dsimp only;omega,by dsimp only;rw[List.length_set];exact hyl,fun z hz=>?_,(sb_ hs),hm⟩
   dsimp only at hz
   rcases List.mem_or_eq_of_mem_set hz with hz|rfl
   ·exact hyv z hz
   ·exact⟨(hyv _ (List.getElem_mem (by omega))).1,hvb.1,hvb.2⟩
  ·obtain rfl:i=q.xs.length:=by omega
   refine gsdfd4_ ?_;clear hs hm a;intros;rename_i a hm hs
   exact⟨(r+1,ys),by dsimp only;omega,by dsimp only;omega,hyl,hyv,(sb_ hs),hm⟩
 ·obtain rfl:r=ws.length:=by omega
  refine gsdfd4_ ?_;clear hs hm a;intros;rename_i a hm hs
  have hz:=(((hm.zero 103).zero 103).zero 103).zero 103
  refine gRetN tab hs rfl (.cons (.cells rfl rfl rfl rfl (hm.ro (k:=0) (n:=2) (g:=g4) mem_ (cutF_ok rfl))) (.cons (.tmp rfl) .nil)) ⟨⟨some gc,512,cvs xs,xs,some gl,4,ln4,List.replicate 4 le0⟩,?_,⟨?_,ln4_row gl,le0_ok⟩,⟨hxl,rfl,hxv,fun i hi=>?_⟩,?_,hm.fr⟩
  ·unfold MeO.v slv
   dsimp only
   rw[hxl]
   rfl
  ·dsimp only
   rw[hxl]
   exact row_full (fun e=>by cases e) (by rw[cvs_len,hxl]) (by unfold maxLen;omega)
  ·dsimp only
   rw[List.getElem_replicate]
   exact le0_val i
  ·exact(hz.sel [5,6,0,1,2,3] (by decide) rfl).new (List.Sublist.refl _)
theorem gpSie0_{G H:Prop}(k:H)(s:Bx H→G:=by intro k_;(repeat(first|(refine ov701a_ ?_;(try clear hs a);intro a hs)|((with_reducible apply lCons);first|(refine dv hs gw_ rfl rfl (by first|exact da_|exact d_makeSlice hs rfl rfl rfl tab rfl rfl rfl rfl rfl (by omega) rfl hm) ?_;(try clear hs hm a);rintro _ w_ ⟨g_,rfl,-,hm⟩ a hs)|(refine stn hs rfl rfl ds_ ?_;(try clear hs hm a);rintro-w_ hm a hs))|refine sc_ ?_));have m_:=hm;have s_:=hs;clear hs;(try clear hm);revert m_ s_ a;(try revert w_);(repeat revert g_);exact k_.h):G:=s ⟨k⟩
theorem thn_val [HB](st:Int)(h:0≤st∧st≤4):({thd0 with st:=st}:ThD).val 0:=⟨h,rfl,by unfold thd0;dsimp only;omega,by unfold thd0;dsimp only;omega,by have:=HB.ge;unfold thd0;dsimp only;omega,by unfold thd0;dsimp only;omega,by unfold thd0;dsimp only;omega,by unfold thd0;dsimp only;omega,fun c hc=>by
 rw[List.eq_of_mem_replicate hc]
 exact⟨.inl rfl,by dsimp only;omega,by dsimp only;omega⟩⟩
theorem start_c [HB](p:PV)(A:Option Addr)(c:Nat)(bs:List Int)(key:Int)(wB:World)(hp:p.ok wB)(hpv:p.val)(hA:Rd wB wB.heap.size A (ints bs))(hnc:p.ss.length≤c)(hg:LGap bs p.ss)(hkey:0≤key∧key≤65535):Ret Tryz.prog 82 [p.v,.agg #[.slice A p.ss.length c,.int .u16 key]] wB (fun u w'=>∃y:MO,u= .tuple #[y.v,.int .i64 0]∧y.ok∧y.d.val p.ss 0∧New wB w' y.hps∧Pu wB w'):=by
 have kck:=fun w'' (hf:Pu wB w'')=>chk_c p w'' (hp.pu hf) hpv
 have kld:=fun w'' (hf:Pu wB w'')=>ldm_c p A c bs key w'' (hp.pu hf) hpv (hf.rd' hA) hnc hg
 have h4:=hpv.sz.four
 have kv:=fun w'' (hf:Pu wB w'')=>lv_c A p.ss.length c bs key p.sA p.sc p.ss w'' rfl hnc (hf.rd' hA) (hf.rd' hp.s) hpv.sz hg
 have hbl:=hg.len
 obtain⟨cA,cc,code,sA,sc,ss,dA,dc,ws⟩:=p
 unfold PV.v at*
 dsimp only at*
 refine enterR Tryz.func82 rfl rfl rfl fun a hs hm=>?_
 repeat(first|(refine gpSie0_ ?_;clear hs hm a;intros;rename_i a hm hs)|refine sc_ ?_|((with_reducible apply lCons);first|(refine dvc hs hm gw_ rfl rfl rfl rfl rfl (pl 38 rfl) (kck _ hm.fr) ?_;clear hs hm a;intro w hm a hs)|(refine dvc hs hm gw_ rfl rfl rfl rfl rfl (pl 39 rfl) (kv _ hm.fr) ?_;clear hs hm a;intro w hm a hs)))
 refine st hs rfl rfl rfl (d_call hs rfl rfl rfl (pl 100 rfl) ((kld _ hm.fr))) ?_;clear hs a;rintro _ w1 ⟨y,rfl,hyo,hyv,hN,hf⟩ a hs
 replace hm:=gainE hm hf hN
 clear hN hf
 unfold MeO.v at hs
 simp only[List.cons_append,List.nil_append]at hm
 refine gs088d_ ?_;clear hs hm a;intros;rename_i a hm hs
 obtain⟨g2,rfl⟩:=hs.pp 2
 obtain⟨g3,rfl⟩:=hs.pp 3
 obtain⟨g4,rfl⟩:=hs.pp 4
 obtain⟨g7,rfl⟩:=hs.pp 7
 replace hm:=hm.zero 3
 refine cMid (fun a w=>∃(g9:Nat)(bA:Option Nat)(bc:Nat)(bcs:List Value),Row bA ss.length bc 1 (ints bs) bcs∧Sl Tryz.f82.ntmps [(4,pt g4),(9,pt g9)] a∧Mm (fun _=>False) wB ([⟨some g9,32,[slv bA ss.length bc,.int .u16 key,slv y.cA y.xs.length y.cc,slv y.lA y.ls.length y.lc,nS]⟩,⟨bA,3,bcs⟩,⟨some g4,32,[nS,.int .u16 0,nS,nS,nS]⟩]++y.hps) w) ?_ ?_
 ·with_reducible repeat(first|apply gThen|apply wp_seq)
  refine cDrawT (n:=10) (.s [0,1,3,4,6]<| .e [(2,.x<| .s [5,7]<| .o 8<| .o 9<| .d),(8,.o 2<| .x<| .s [5,7]<| .o 9<| .d)]) [⟨some g7,29,[slv y.cA y.xs.length y.cc,slv y.lA y.ls.length y.lc]⟩,⟨some g3,25,[.slice A ss.length c,.int .u16 key]⟩] hm rfl rfl ?_
  clear hm;intro t_ w1_ hm
  repeat' (first|(refine dg149e_ ?_;clear t_ hs hm a;intros;rename_i a hm hs t_)|refine tE t_ ?_|refine tC ?_ ?_|exact tN|intro t_|(refine oDo (i:=2) hs rfl (Wnt.none rfl) rfl rfl (by exact d_appendS (A:=none) (n:=0) (c:=0) (xs:=[]) (news:=ints bs) hs rfl rfl rfl rfl tab rfl rfl rfl rfl rfl hm mem_ (Row.empty 1) (by rw[ints_len,hbl];exact(Nat.mul_one _).symm) (hm.fr.rd' hA) (ints_one _) (by show(0+ss.length)*8≤_;omega) (by omega)) ?_;clear hs;rintro _ w1 ⟨bA,bc,bcs,rfl,hbr,hM⟩ a hs;(replace hm:=hM _ rep_);(clear hM);(rw[Nat.zero_add,List.nil_append]at hbr);(rw[Nat.zero_add]at hs);replace t_:=tX t_;refine⟨(hm.sub sub_),?_⟩)|(refine tD t_ ?_;(obtain⟨g9,rfl⟩:=hs.pp 9);(exact And.intro rfl ⟨g9,bA,bc,bcs,hbr,(sb_ hs),hm.sub (List.Sublist.cons_cons _ (List.Sublist.cons_cons _ (List.Sublist.cons _ (List.Sublist.cons_cons _ (List.Sublist.cons _ (List.Sublist.cons _ (List.Sublist.refl _)))))))⟩))|fail)
 clear hs hm a
 rintro a w ⟨g9,bA,bc,bcs,hbr,hs,hm⟩
 refine gs088d_ ?_;clear hs hm a;intros;rename_i a hm hs
 replace hm:=((hm.zero 52).perm (List.Perm.swap _ _ _))
 refine cLoop (X:=MtX) (fun X a w'=>X.rs.length≤4∧Sl Tryz.f82.ntmps [(4,pt g4),(9,pt g9),(38,.int .i64 (X.rs.length:Int))] a∧Mm (fun _=>False) wB (([⟨some g9,32,[slv bA ss.length bc,.int .u16 key,slv y.cA y.xs.length y.cc,slv y.lA y.ls.length y.lc,slv X.tA X.rs.length X.tc]⟩,⟨X.tA,52,X.tcs⟩,⟨bA,3,bcs⟩,⟨some g4,32,[nS,.int .u16 0,nS,nS,nS]⟩]++y.hps)++X.rs.map ThO.hp) w'∧Row X.tA X.rs.length X.tc 8 (X.rs.flatMap ThO.v) X.tcs∧(∀r∈X.rs,r.ok)∧(∀r∈X.rs,r.d.val 0)) (fun X=>4-X.rs.length) ⟨[],none,0,[]⟩ ⟨Nat.zero_le _,(sb_ hs),by rw[List.map_nil,List.append_nil];exact hm,Row.empty 8,(fun r hr=>by cases hr),(fun r hr=>by cases hr)⟩ ?_
 clear hs hm a
 rintro⟨rs,tA,tc,tcs⟩ a w' ⟨hlen,hs,hm,hlr,hok,hov⟩
 dsimp only at hlen hs hm hlr hok hov
 by_cases hlt:rs.length<4
 ·refine gs088d_ ?_;clear hs hm a;intros;rename_i a hm hs
  refine dv hs (Wnt.none rfl) rfl rfl (d_makeSlice (n:=8) hs rfl rfl rfl tab rfl rfl rfl rfl rfl (by omega) rfl hm) ?_
  clear hs hm
  rintro _ w2 ⟨g41,rfl,-,hm⟩ a hs
  rw[zrep_cvs]at hm
  obtain⟨rcs,hrcs⟩:∃rcs,rcs=cvs (List.replicate 8 ⟨0,0⟩):=⟨_,rfl⟩
  rw[←hrcs]at hm
  have hro:Row (some g41) 8 8 2 (cvs (List.replicate 8 ⟨0,0⟩)) rcs:=by
   rw[hrcs]
   exact row_full (fun e=>by cases e) (by rw[cvs_len,List.length_replicate]) (by unfold maxLen;omega)
  refine gs088d_ ?_;clear hs hm a;intros;rename_i a hm hs
  obtain⟨g11,rfl⟩:=hs.pp 11
  refine cMid (fun a w=>∃st:Int,(0≤st∧st≤4)∧Sl Tryz.f82.ntmps [(4,pt g4),(9,pt g9),(11,pt g11),(38,.int .i64 (rs.length:Int))] a∧Mm (fun _=>False) wB (⟨some g11,52,[.int .i64 st,.slice (some ⟨g41,0,none⟩) 8 8,.int .i64 0,.int .i64 0,.int .i64 (-1),.int .i64 (-1),.int .i64 0,.int .u16 0]⟩::⟨some g41,103,rcs⟩::(([⟨some g9,32,[slv bA ss.length bc,.int .u16 key,slv y.cA y.xs.length y.cc,slv y.lA y.ls.length y.lc,slv tA rs.length tc]⟩,⟨tA,52,tcs⟩,⟨bA,3,bcs⟩,⟨some g4,32,[nS,.int .u16 0,nS,nS,nS]⟩]++y.hps)++rs.map ThO.hp)) w) ?_ ?_
  ·by_cases h0:rs.length=0
   ·with_reducible repeat(first|apply gThen|apply wp_seq)
    refine gs088d_ ?_;clear hs hm a;intros;rename_i a hm hs
    exact And.intro rfl ⟨1,by omega,(sb_ hs),hm⟩
   ·with_reducible repeat(first|apply gThen|apply wp_seq)
    refine gs088d_ ?_;clear hs hm a;intros;rename_i a hm hs
    exact And.intro rfl ⟨0,by omega,(sb_ hs),hm⟩
  clear hs hm a
  rintro a w ⟨st,hst,hs,hm⟩
  obtain⟨r,hr⟩:∃r:ThO,r=⟨some g41,8,rcs,{thd0 with st:=st}⟩:=⟨_,rfl⟩
  have hrv:r.v=[.int .i64 st,.slice (some ⟨g41,0,none⟩) 8 8,.int .i64 0,.int .i64 0,.int .i64 (-1),.int .i64 (-1),.int .i64 0,.int .u16 0]:=by rw[hr];rfl
  have hrok:r.ok:=by rw[hr];exact hro
  have hrd:r.d.val 0:=by rw[hr];exact thn_val st hst
  have hrh:r.hp=⟨some g41,103,rcs⟩:=by rw[hr];rfl
  refine gs088d_ ?_;clear hs hm a;intros;rename_i a hm hs
  refine dv hs (Wnt.none rfl) rfl rfl (d_append (A:=tA) (n:=rs.length) (c:=tc) (news:=[.int .i64 st,.slice (some ⟨g41,0,none⟩) 8 8,.int .i64 0,.int .i64 0,.int .i64 (-1),.int .i64 (-1),.int .i64 0,.int .u16 0]) hs rfl rfl rfl rfl rfl tab rfl rfl rfl rfl rfl hm mem_ hlr rfl (hm.ro (n:=8) mem_ (cutF_ok rfl)) rfl (by show(rs.length+1)*80≤_;omega) (by omega)) ?_
  clear hs
  rintro _ w4 ⟨tA2,tc2,tcs2,rfl,hlr2,hM⟩ a hs
  replace hm:=hM _ rep_
  clear hM
  rw[←hrv,th_snoc]at hlr2
  refine gs088d_ ?_;clear hs hm a;intros;rename_i a hm hs
  rw[←hrh]at hm
  replace hm:=hm.sub (List.Sublist.cons _ (List.Sublist.cons _ (List.Sublist.refl _)))
  refine⟨⟨rs++[r],tA2,tc2,tcs2⟩,by dsimp only;rw[List.length_append,List.length_singleton];omega,by dsimp only;rw[List.length_append,List.length_singleton];omega,?_,?_,?_,?_,?_⟩
  ·dsimp only
   rw[List.length_append,List.length_singleton]
   exact(sb_ hs)
  ·dsimp only
   rw[List.length_append,List.length_singleton]
   exact th_perm hm
  ·dsimp only
   rw[List.length_append,List.length_singleton]
   exact hlr2
  ·intro z hz
   rcases List.mem_append.1 hz with hz|hz
   ·exact hok z hz
   ·rcases List.mem_singleton.1 hz with rfl;exact hrok
  ·intro z hz
   rcases List.mem_append.1 hz with hz|hz
   ·exact hov z hz
   ·rcases List.mem_singleton.1 hz with rfl;exact hrd
 ·have hln:rs.length=4:=by omega
  refine gs088d_ ?_;clear hs hm a;intros;rename_i a hm hs
  refine gRetN tab hs rfl (.cons (.cells rfl rfl rfl rfl (hm.ro (k:=0) (n:=5) (g:=g4) mem_ (cutF_ok rfl))) (.cons (.tmp rfl) .nil)) ⟨⟨bA,bc,bcs,bs,key,y,tA,tc,tcs,rs⟩,?_,⟨by dsimp only;rw[hbl];exact hbr,hyo,hlr,hok⟩,⟨hg,hkey,hyv.n,?_,?_,hyv.cv,?_,?_⟩,hm.new ?_,hm.fr⟩
  ·unfold MO.v
   dsimp only
   rw[hbl]
   rfl
  ·unfold MO.d
   dsimp only
   rw[List.length_map]
   exact hyv.l
  ·show(rs.map ThO.d).length=4
   rw[List.length_map]
   exact hln
  ·intro i hi
   unfold MO.d at hi ⊢
   dsimp only at hi ⊢
   rw[List.getElem_map]
   exact hyv.ll i (by rwa[List.length_map]at hi)
  ·intro z hz
   unfold MO.d at hz
   dsimp only at hz
   obtain⟨r,hr,rfl⟩:=List.mem_map.1 hz
   exact hov r hr
  ·unfold MO.hps
   dsimp only
   exact zbd11_
theorem pcp_c(x:MV)(wB:World)(hx:x.ok wB)(hsm:x.d.sm):Ret Tryz.prog 23 [x.v] wB (fun u w'=>∃y:MO,u=y.v∧y.ok∧y.d=x.d∧New wB w' y.hps∧Pu wB w'):=by
 have hb1:x.bs.length≤1000:=hsm.b
 have ht1:x.ts.length≤1000:=by have:=hsm.t;unfold MV.d at this;dsimp only at this;rwa[List.length_map]at this
 unfold MV.v
 refine enterR Tryz.func23 rfl rfl rfl fun a hs hm=>?_
 refine gsce98_ ?_;clear hs hm a;intros;rename_i a hm hs
 obtain⟨g1,rfl⟩:=hs.pp 1
 obtain⟨g2,rfl⟩:=hs.pp 2
 refine cMid (fun a w=>∃(g3:Nat)(bA:Option Nat)(bc:Nat)(bcs:List Value)(y:MeO),Row bA x.bs.length bc 1 (ints x.bs) bcs∧y.ok∧y.d=(x.xs,x.ls.map LnV.d)∧Sl Tryz.f23.ntmps [(1,pt g1),(2,pt g2),(3,pt g3)] a∧Mm (fun _=>False) wB ([⟨some g3,32,[slv bA x.bs.length bc,.int .u16 x.key,slv y.cA y.xs.length y.cc,slv y.lA y.ls.length y.lc,nS]⟩,⟨bA,3,bcs⟩,⟨some g2,32,[nS,.int .u16 0,nS,nS,nS]⟩,⟨some g1,32,(x.cl [.slice x.tA x.ts.length x.tc])⟩]++y.hps) w) ?_ ?_
 ·skip
  refine cDrawT (n:=9) (.s [0,1,3,4]<| .e [(2,.x<| .e [(5,.x<| .t 6<| .o 7<| .o 8<| .d),(7,.o 5<| .x<| .t 6<| .o 8<| .d)]),(7,.o 2<| .x<| .o 5<| .x<| .t 6<| .o 8<| .d)]) [⟨some g1,32,(x.cl [.slice x.tA x.ts.length x.tc])⟩] hm rfl rfl ?_
  clear hm;intro t_ w1_ hm
  repeat' (first|(refine dg9546_ ?_;clear t_ hs hm a;intros;rename_i a hm hs t_)|refine tE t_ ?_|refine tC ?_ ?_|exact tN|intro t_|(refine oDo (i:=2) hs rfl (Wnt.none rfl) rfl rfl (by exact d_call hs rfl rfl rfl (pl 34 rfl) ((lyc_c x.bA x.bs.length x.bc x.bs x.key _ rfl (hm.fr.rd' hx.b) (by omega)))) ?_;clear hs;rintro _ w1 ⟨bA,bc,bcs,rfl,hbr,hN,hf⟩ a hs;(replace hm:=hm.gain hf hN);(clear hN hf);replace t_:=tX t_;refine⟨(hm.sub sub_),?_⟩)|(refine oDo (i:=5) hs rfl (Wnt.none rfl) rfl rfl (by exact d_call hs rfl rfl rfl (pl 35 rfl) ((mmc_c x _ (hx.pu hm.fr) hsm))) ?_;clear hs;rintro _ w1 ⟨y,rfl,hyo,hyd,hN,hf⟩ a hs;(replace hm:=gainE hm hf hN);(clear hN hf);(unfold MeO.v at hs);replace t_:=tX t_;refine⟨(hm.sub sub_),?_⟩)|(refine tD t_ ?_;(obtain⟨g3,rfl⟩:=hs.pp 3);(first|exact And.intro rfl ⟨g3,bA,bc,bcs,y,hbr,hyo,hyd,(sb_ hs),hm⟩|exact And.intro rfl ⟨g3,bA,bc,bcs,y,hbr,hyo,hyd,(sb_ hs),hm.perm (List.Perm.swap _ _ _)⟩))|fail)
 clear hs hm a
 rintro a w ⟨g3,bA,bc,bcs,y,hbr,hyo,hyd,hs,hm⟩
 refine gsce98_ ?_;clear hs hm a;intros;rename_i a hm hs
 replace hm:=((hm.zero 52).perm (List.Perm.swap _ _ _)).sub (List.Sublist.cons_cons _ (List.Sublist.cons_cons _ (List.Sublist.cons_cons _ (List.Sublist.cons_cons _ (List.Sublist.cons _ (List.Sublist.refl _))))))
 refine cLoop (X:=MtX) (fun X a w'=>X.rs.length≤x.ts.length∧Sl Tryz.f23.ntmps [(2,pt g2),(3,pt g3),(14,.slice x.tA x.ts.length x.tc),(15,.int .i64 (x.ts.length:Int)),(16,.int .i64 (X.rs.length:Int))] a∧Mm (fun _=>False) wB (([⟨some g3,32,[slv bA x.bs.length bc,.int .u16 x.key,slv y.cA y.xs.length y.cc,slv y.lA y.ls.length y.lc,slv X.tA X.rs.length X.tc]⟩,⟨X.tA,52,X.tcs⟩,⟨bA,3,bcs⟩,⟨some g2,32,[nS,.int .u16 0,nS,nS,nS]⟩]++y.hps)++X.rs.map ThO.hp) w'∧Row X.tA X.rs.length X.tc 8 (X.rs.flatMap ThO.v) X.tcs∧X.rs.map ThO.d=(x.ts.take X.rs.length).map ThV.d∧∀r∈X.rs,r.ok) (fun X=>x.ts.length-X.rs.length) ⟨[],none,0,[]⟩ ⟨Nat.zero_le _,(sb_ hs),by rw[List.map_nil,List.append_nil];exact hm,Row.empty 8,rfl,fun r hr=>by cases hr⟩ ?_
 clear hs hm a
 rintro⟨rs,tA,tc,tcs⟩ a w' ⟨hlen,hs,hm,hlr,hab,hok⟩
 dsimp only at hlen hs hm hlr hab hok
 by_cases hlt:rs.length<x.ts.length
 ·obtain⟨b1,o1,hA,hb1,r1⟩:=hx.t.ro (by rw[flat_len ThV.v 8 ThV.len];omega)
  obtain⟨q,hq⟩:∃q,x.ts[rs.length]=q:=⟨_,rfl⟩
  have hqm:q∈x.ts:=by rw[←hq];exact List.getElem_mem hlt
  have r2:=r1.flat ThV.len hlt
  rw[hq]at r2
  unfold ThV.v at r2
  have hqr:=hx.tt q hqm
  have hqn:q.d.xs.length≤1000:=hsm.tt q.d (List.mem_map.2 ⟨q,hqm,rfl⟩)
  rw[hA]at hs
  refine gsce98_ ?_;clear hs hm a;intros;rename_i a hm hs
  obtain⟨g5,rfl⟩:=hs.pp 5
  refine st hs rfl rfl rfl (d_call hs rfl rfl rfl (pl 36 rfl) ((clc_c q.A q.d.xs.length q.c (cvs q.d.xs) _ (cvs_len _) (hm.fr.rd' hqr) (cvs_one _) (by omega)))) ?_;clear hs a;rintro _ w3 ⟨rA,rc,rcs,rfl,hrr,hN,hf⟩ a hs
  replace hm:=hm.gain hf hN
  clear hN hf
  obtain⟨r,hr⟩:∃r:ThO,r=⟨rA,rc,rcs,q.d⟩:=⟨_,rfl⟩
  have hrv:r.v=[.int .i64 q.d.st,slv rA q.d.xs.length rc,.int .i64 q.d.pc,.int .i64 q.d.cnt,.int .i64 q.d.han,.int .i64 q.d.sav,.int .i64 q.d.trp,.int .u16 q.d.cod]:=by rw[hr];rfl
  have hro:r.ok:=by rw[hr];exact hrr
  have hrd:r.d=q.d:=by rw[hr]
  have hrh:r.hp=⟨rA,103,rcs⟩:=by rw[hr];rfl
  refine gsce98_ ?_;clear hs hm a;intros;rename_i a hm hs
  refine dv hs (Wnt.none rfl) rfl rfl (d_append (A:=tA) (n:=rs.length) (c:=tc) (news:=[.int .i64 q.d.st,slv rA q.d.xs.length rc,.int .i64 q.d.pc,.int .i64 q.d.cnt,.int .i64 q.d.han,.int .i64 q.d.sav,.int .i64 q.d.trp,.int .u16 q.d.cod]) hs rfl rfl rfl rfl rfl tab rfl rfl rfl rfl rfl hm mem_ hlr rfl (hm.ro (n:=8) mem_ (cutF_ok rfl)) rfl (by show(rs.length+1)*80≤_;omega) (by omega)) ?_
  clear hs
  rintro _ w4 ⟨tA2,tc2,tcs2,rfl,hlr2,hM⟩ a hs
  replace hm:=hM _ rep_
  clear hM
  rw[←hrv,th_snoc]at hlr2
  refine gsce98_ ?_;clear hs hm a;intros;rename_i a hm hs
  rw[←hrh]at hm
  rw[←hA]at hs
  replace hm:=hm.sub (List.Sublist.cons _ (List.Sublist.cons_cons _ (List.Sublist.cons _ (List.Sublist.refl _))))
  refine⟨⟨rs++[r],tA2,tc2,tcs2⟩,by dsimp only;rw[List.length_append,List.length_singleton];omega,by dsimp only;rw[List.length_append,List.length_singleton];omega,?_,?_,?_,th_take hab hlt (by rw[hrd,hq]),?_⟩
  ·dsimp only
   rw[List.length_append,List.length_singleton]
   exact(sb_ hs)
  ·dsimp only
   rw[List.length_append,List.length_singleton]
   exact th_perm hm
  ·dsimp only
   rw[List.length_append,List.length_singleton]
   exact hlr2
  ·intro z hz
   rcases List.mem_append.1 hz with hz|hz
   ·exact hok z hz
   ·rcases List.mem_singleton.1 hz with rfl;exact hro
 ·have hln:rs.length=x.ts.length:=by omega
  refine gsce98_ ?_;clear hs hm a;intros;rename_i a hm hs
  rw[hln,List.take_length]at hab
  refine gRetN tab hs rfl (.cons (.cells rfl rfl rfl rfl (hm.ro (k:=0) (n:=5) (g:=g2) mem_ (cutF_ok rfl))) .nil) ⟨⟨bA,bc,bcs,x.bs,x.key,y,tA,tc,tcs,rs⟩,rfl,⟨hbr,hyo,hlr,hok⟩,?_,hm.new ?_,hm.fr⟩
  ·unfold MO.d MV.d
   dsimp only
   rw[hab]
   have h1:=congrArg Prod.fst hyd
   have h2:=congrArg Prod.snd hyd
   unfold MeO.d at h1 h2
   dsimp only at h1 h2
   rw[h1,h2]
  ·unfold MO.hps
   dsimp only
   exact zbd11_
theorem gpSgf0_{G H:Prop}(k:H)(s:Bx H→G:=by intro k_;(repeat(first|(refine oqc4ee_ ?_;(try clear hs a);intro a hs)|((with_reducible apply lCons);first|(refine dv hs gw_ rfl rfl da_ ?_;(try clear hs hm a);rintro _ w_ ⟨g_,rfl,-,hm⟩ a hs)|(refine stn hs rfl rfl ds_ ?_;(try clear hs hm a);rintro-w_ hm a hs))|((with_reducible apply qNil);(try clear hm);intro w_ hm)|refine cQ_ ?_|refine sc_ ?_));have m_:=hm;have s_:=hs;clear hs;(try clear hm);revert m_ s_ a;(try revert w_);(repeat revert g_);exact k_.h):G:=s ⟨k⟩
theorem gcSgf1_{G H:Prop}(k:H)(s:Bx H→G:=by intro k_;(repeat(first|(refine oqc4ee_ ?_;(try clear hs a);intro a hs)|((with_reducible apply lCons);first|(refine dv hs gw_ rfl rfl da_ ?_;(try clear hs hm a);rintro _ w_ ⟨g_,rfl,-,hm⟩ a hs)|(refine stn hs rfl rfl ds_ ?_;(try clear hs hm a);rintro-w_ hm a hs))|((with_reducible apply qNil);(try clear hm);intro w_ hm)|refine cQ_ ?_|refine sc_ ?_|((with_reducible apply lCons);first|(refine dvc hs hm gw_ rfl rfl rfl rfl rfl (pl 37 rfl) (k2 _ hm.fr) ?_;(try clear hs hm a);intro w_ hm a hs))|((with_reducible apply qCons);first|(refine qwc hs gw_ rfl rfl rfl rfl rfl (pl 37 rfl) (fun w hm=>k2 _ hm.fr) ?_;(try clear hs a);intro a hs))));(first|(have m_:=hm;have s_:=hs;clear hs;(try clear hm);revert m_ s_ a)|((first|refine rexc_ hs hm ?_|refine rexl_ hs hm ?_|refine rexg_ hs hm ?_|refine rexq_ hs hm ?_);intro a hm hs;revert hm hs a));(try revert w_);(repeat revert g_);exact k_.h):G:=s ⟨k⟩
theorem gcSgf2_{G H:Prop}(k:H)(s:Bx H→G:=by intro k_;(repeat(first|(refine oqR_ ?_;(try clear hs a);intro a hs)|((with_reducible apply lCons);first|(refine dv hs gw_ rfl rfl da_ ?_;(try clear hs hm a);rintro _ w_ ⟨g_,rfl,-,hm⟩ a hs)|(refine stn hs rfl rfl ds_ ?_;(try clear hs hm a);rintro-w_ hm a hs))|((with_reducible apply qNil);(try clear hm);intro w_ hm)|refine cQ_ ?_|refine sc_ ?_|((with_reducible apply lCons);first|(refine dvc hs hm gw_ rfl rfl rfl rfl rfl (pl 37 rfl) (k1 _ hm.fr) ?_;(try clear hs hm a);intro w_ hm a hs))|((with_reducible apply qCons);first|(refine qwc hs gw_ rfl rfl rfl rfl rfl (pl 37 rfl) (fun w hm=>k1 _ hm.fr) ?_;(try clear hs a);intro a hs))));(first|(have m_:=hm;have s_:=hs;clear hs;(try clear hm);revert m_ s_ a)|((first|refine rexc_ hs hm ?_|refine rexl_ hs hm ?_|refine rexg_ hs hm ?_|refine rexq_ hs hm ?_);intro a hm hs;revert hm hs a));(try revert w_);(repeat revert g_);exact k_.h):G:=s ⟨k⟩
theorem wsm_c(A:Option Addr)(c:Nat)(B:Option Addr)(d:Nat)(l:List CV)(wB:World)(hA:Rd wB wB.heap.size A (cvs l))(hB:Rd wB wB.heap.size B (cvs l))(hn:l.length≤1000000):Ret Tryz.prog 37 [.slice A l.length c,.slice B l.length d] wB (fun u w'=>u= .bool true∧Pu wB w'):=by
 refine enterR Tryz.func37 rfl rfl rfl fun a hs hm=>?_
 refine gqb114_ ?_;clear hs hm a;intros;rename_i a hm hs
 obtain⟨wS,hwS⟩:∃u:World,u=wB:=⟨wB,rfl⟩
 have hF0:=hm.fr
 refine cLoop (X:=Nat) (fun k a w'=>Sl Tryz.f37.ntmps [(0,.slice A l.length c),(1,.slice B l.length d),(12,.int .i64 (l.length:Int)),(13,.int .i64 (k:Int))] a∧Pu wB w'∧k≤l.length) (fun k=>l.length-k) 0 ⟨(sb_ hs),hF0,Nat.zero_le _⟩ ?_
 clear hs hm a hF0
 rintro k a w' ⟨hs,hF,hk⟩
 have hm:=Mm.nil (fun _=>False) w'
 by_cases hlt:k<l.length
 ·obtain⟨b1,o1,rfl,hb1,r1⟩:=(hF.rd' hA).ro (by rw[cvs_len];omega)
  obtain⟨b2,o2,rfl,hb2,r2⟩:=(hF.rd' hB).ro (by rw[cvs_len];omega)
  unfold cvs at r1 r2
  have k1:=r1.flat CV.cs_len hlt
  have k2:=r2.flat CV.cs_len hlt
  obtain⟨x,hx⟩:∃z,l[k]=z:=⟨_,rfl⟩
  rw[hx]at k1 k2
  unfold CV.cs at k1 k2
  refine gqb114_ ?_;clear hs hm a;intros;rename_i a hm hs
  have hbq:(x.t==x.t&&(x.v==x.v&&true))=true:=by simp
  rw[hbq]at hs
  refine gqb114_ ?_;clear hs hm a;intros;rename_i a hm hs
  exact⟨k+1,by omega,(sb_ hs),hF.pu hm.fr,by omega⟩
 refine gqb114_ ?_;clear hs hm a;intros;rename_i a hm hs
 exact gRet1 hs rfl rfl ⟨rfl,hF.pu hm.fr⟩
theorem lysm_c(A:Option Addr)(c:Nat)(B:Option Addr)(d:Nat)(l:List Int)(key:Int)(wB:World)(hA:Rd wB wB.heap.size A (ints l))(hB:Rd wB wB.heap.size B (ints l))(hn:l.length≤1000000):Ret Tryz.prog 24 [.agg #[.slice A l.length c,.int .u16 key],.agg #[.slice B l.length d,.int .u16 key]] wB (fun u w'=>u= .bool true∧Pu wB w'):=by
 refine enterR Tryz.func24 rfl rfl rfl fun a hs hm=>?_
 refine gqb114_ ?_;clear hs hm a;intros;rename_i a hm hs
 obtain⟨g2,rfl⟩:=hs.pp 2
 obtain⟨g3,rfl⟩:=hs.pp 3
 refine cLoop (X:=Nat) (fun k a w'=>Sl Tryz.f24.ntmps [(2,pt g2),(3,pt g3),(22,.int .i64 (l.length:Int)),(23,.int .i64 (k:Int))] a∧Mm (fun _=>False) wB [⟨some g3,25,[.slice B l.length d,.int .u16 key]⟩,⟨some g2,25,[.slice A l.length c,.int .u16 key]⟩] w'∧k≤l.length) (fun k=>l.length-k) 0 ⟨(sb_ hs),hm,Nat.zero_le _⟩ ?_
 clear hs hm a
 rintro k a w' ⟨hs,hm,hk⟩
 by_cases hlt:k<l.length
 ·obtain⟨b1,o1,rfl,hb1,r1⟩:=hA.ro (by rw[ints_len];omega)
  obtain⟨b2,o2,rfl,hb2,r2⟩:=hB.ro (by rw[ints_len];omega)
  have e1:=ints_some (xs:=l) (k:=k) hlt
  generalize l[k]=z at e1
  refine gqb114_ ?_;clear hs hm a;intros;rename_i a hm hs
  exact z0359_
 refine gqb114_ ?_;clear hs hm a;intros;rename_i a hm hs
 exact gRet1 hs rfl rfl ⟨rfl,hm.fr⟩
theorem msm_c(x y:MV)(wB:World)(hx:x.ok wB)(hy:y.ok wB)(he:x.d=y.d)(hsm:x.d.sm):Ret Tryz.prog 25 [x.me,y.me] wB (fun u w'=>u= .bool true∧Pu wB w'):=by
 have hc1:x.xs.length≤1000:=hsm.c
 have hec:y.xs=x.xs:=(congrArg MD.xs he).symm
 have hel:y.ls.map LnV.d=x.ls.map LnV.d:=(congrArg MD.ls he).symm
 have hll:y.ls.length=x.ls.length:=by have:=congrArg List.length hel;rwa[List.length_map,List.length_map]at this
 have hl1:x.ls.length≤1000:=by have:=hsm.l;unfold MV.d at this;dsimp only at this;rwa[List.length_map]at this
 have hyc:=hy.c
 rw[hec]at hyc
 have k1:=fun w'' (hf:Pu wB w'')=>wsm_c x.cA x.cc y.cA y.cc x.xs w'' (hf.rd' hx.c) (hf.rd' hyc) (by omega)
 unfold MV.me
 rw[hec,hll]
 refine enterR Tryz.func25 rfl rfl rfl fun a hs hm=>?_
 repeat(first|(refine gpSgf0_ ?_;clear hs hm a;intros;rename_i a hm hs)|refine sc_ ?_|((with_reducible apply lCons);first|(refine dvc hs hm gw_ rfl rfl rfl rfl rfl (pl 37 rfl) (k1 _ hm.fr) ?_;clear hs hm a;intro w hm a hs))|((with_reducible apply qCons);first|(refine qwc hs gw_ rfl rfl rfl rfl rfl (pl 37 rfl) (fun w hm=>k1 _ hm.fr) ?_;clear hs a;intro a hs)))
 obtain⟨g2,rfl⟩:=hs.pp 2
 obtain⟨g3,rfl⟩:=hs.pp 3
 refine cLoop (X:=Nat) (fun k a w'=>Sl Tryz.f25.ntmps [(2,pt g2),(3,pt g3),(25,.int .i64 (x.ls.length:Int)),(26,.int .i64 (k:Int))] a∧Mm (fun _=>False) wB [⟨some g3,29,[.slice y.cA x.xs.length y.cc,.slice y.lA x.ls.length y.lc]⟩,⟨some g2,29,[.slice x.cA x.xs.length x.cc,.slice x.lA x.ls.length x.lc]⟩] w'∧k≤x.ls.length) (fun k=>x.ls.length-k) 0 ⟨(sb_ hs),hm,Nat.zero_le _⟩ ?_
 clear hs hm a
 rintro k a w' ⟨hs,hm,hk⟩
 by_cases hlt:k<x.ls.length
 ·obtain⟨b1,o1,hA1,hb1,r1⟩:=hx.l.ro (by rw[flat_len LnV.v 3 LnV.len];omega)
  obtain⟨b2,o2,hA2,hb2,r2⟩:=hy.l.ro (by rw[flat_len LnV.v 3 LnV.len];omega)
  rw[hA1,hA2]at hm
  have q1:=r1.flat LnV.len hlt
  have q2:=r2.flat LnV.len (show k<y.ls.length by omega)
  have hd:(y.ls[k]'(by omega)).d=(x.ls[k]).d:=by
   have:=congrArg (fun l=>l[k]?) hel
   simpa[List.getElem?_map,List.getElem?_eq_getElem hlt,List.getElem?_eq_getElem (show k<y.ls.length by omega)]using this
  have hxl:=hx.ll _ (List.getElem_mem hlt)
  have hyl:=hy.ll _ (List.getElem_mem (show k<y.ls.length by omega))
  have hxn:(x.ls[k]).d.xs.length≤1000:=hsm.ll _ (List.mem_map.2 ⟨_,List.getElem_mem hlt,rfl⟩)
  generalize x.ls[k]=p at*
  generalize y.ls[k]'(_)=p2 at*
  obtain⟨A1,c1,d1⟩:=p
  obtain⟨A2,c2,d2⟩:=p2
  dsimp only at hd hxl hyl hxn
  subst hd
  have k2:=fun w'' (hf:Pu wB w'')=>wsm_c A1 c1 A2 c2 d2.xs w'' (hf.rd' hxl) (hf.rd' hyl) (by omega)
  unfold LnV.v at q1 q2
  dsimp only at q1 q2
  refine gsd389_ ?_;clear hs hm a;intros;rename_i a hm hs
  refine cMid (fun a w=>∃g6 g7:Nat,Sl Tryz.f25.ntmps [(2,pt g2),(3,pt g3),(25,.int .i64 (x.ls.length:Int)),(26,.int .i64 (k:Int)),(6,pt g6),(7,pt g7)] a∧Mm (fun _=>False) wB [⟨some g7,61,[.int .i64 d2.tag,.bool d2.d,.slice A2 d2.xs.length c2]⟩,⟨some g6,61,[.int .i64 d2.tag,.bool d2.d,.slice A1 d2.xs.length c1]⟩,⟨some g3,29,[.slice y.cA x.xs.length y.cc,.slice (some ⟨b2,o2,none⟩) x.ls.length y.lc]⟩,⟨some g2,29,[.slice x.cA x.xs.length x.cc,.slice (some ⟨b1,o1,none⟩) x.ls.length x.lc]⟩] w) ?_ ?_
  ·skip
   refine cDrawT (n:=14) (.s [0,1,2,3,4,5,6,7,8,9]<| .e [(10,.o 11<| .o 12<| .o 13<| .d),(11,.o 10<| .o 12<| .o 13<| .d)]) [⟨some g3,29,[.slice y.cA x.xs.length y.cc,.slice (some ⟨b2,o2,none⟩) x.ls.length y.lc]⟩,⟨some g2,29,[.slice x.cA x.xs.length x.cc,.slice (some ⟨b1,o1,none⟩) x.ls.length x.lc]⟩] hm rfl rfl ?_
   clear hm;intro t_ w1_ hm
   repeat' (first|(refine dg81ac_ ?_;clear t_ hs hm a;intros;rename_i a hm hs t_)|refine tE t_ ?_|refine tC ?_ ?_|exact tN|intro t_|(refine tD t_ ?_;(obtain⟨g6,rfl⟩:=hs.pp 6);(obtain⟨g7,rfl⟩:=hs.pp 7);(first|exact And.intro rfl ⟨g6,g7,(sb_ hs),hm⟩|exact And.intro rfl ⟨g6,g7,(sb_ hs),hm.perm (List.Perm.swap _ _ _)⟩))|fail)
  clear hs hm a
  rintro a w ⟨g6,g7,hs,hm⟩
  refine gcSgf1_ ?_;clear hs hm a;intros;rename_i a hm hs
  rw[show(d2.d==d2.d)=true by simp]at hs
  refine gcSgf1_ ?_;clear hs hm a;intros;rename_i a hm hs
  rw[hA1,hA2]
  exact zd36a_
 refine gqb114_ ?_;clear hs hm a;intros;rename_i a hm hs
 exact gRet1 hs rfl rfl ⟨rfl,hm.fr⟩
theorem tsm_c(A:Option Addr)(c:Nat)(B:Option Addr)(d:Nat)(t:ThD)(wB:World)(hA:Rd wB wB.heap.size A (cvs t.xs))(hB:Rd wB wB.heap.size B (cvs t.xs))(hn:t.xs.length≤1000000):Ret Tryz.prog 26 [.agg (ThV.v ⟨A,c,t⟩).toArray,.agg (ThV.v ⟨B,d,t⟩).toArray] wB (fun u w'=>u= .bool true∧Pu wB w'):=by
 have k1:=fun w'' (hf:Pu wB w'')=>wsm_c A c B d t.xs w'' (hf.rd' hA) (hf.rd' hB) hn
 unfold ThV.v
 obtain⟨st,xs,pc,cnt,han,sav,trp,cod⟩:=t
 dsimp only at k1 ⊢
 refine enterR Tryz.func26 rfl rfl rfl fun a hs hm=>?_
 refine gcSgf2_ ?_;clear hs hm a;intros;rename_i a hm hs
 try rw[ddT]at hs
 refine gcSgf2_ ?_;clear hs hm a;intros;rename_i a hm hs
 try rw[ddT]at hs
 refine gcSgf2_ ?_;clear hs hm a;intros;rename_i a hm hs
 try rw[ddT]at hs
 refine gcSgf2_ ?_;clear hs hm a;intros;rename_i a hm hs
 try rw[ddT]at hs
 refine gcSgf2_ ?_;clear hs hm a;intros;rename_i a hm hs
 try rw[ddT]at hs
 refine gcSgf2_ ?_;clear hs hm a;intros;rename_i a hm hs
 try rw[ddT]at hs
 refine gcSgf2_ ?_;clear hs hm a;intros;rename_i a hm hs
 try rw[ddT]at hs
 refine gcSgf2_ ?_;clear hs hm a;intros;rename_i a hm hs
 exact gRet1 hs rfl rfl ⟨rfl,hm.fr⟩
theorem rsm_c(x y:MV)(wB:World)(hx:x.ok wB)(hy:y.ok wB)(he:x.d=y.d)(hsm:x.d.sm):Ret Tryz.prog 15 [x.v,y.v] wB (fun u w'=>u= .bool true∧Pu wB w'):=by
 have heb:y.bs=x.bs:=(congrArg MD.bs he).symm
 have hek:y.key=x.key:=(congrArg MD.key he).symm
 have hec:y.xs=x.xs:=(congrArg MD.xs he).symm
 have hel:y.ls.map LnV.d=x.ls.map LnV.d:=(congrArg MD.ls he).symm
 have hll:y.ls.length=x.ls.length:=by have:=congrArg List.length hel;rwa[List.length_map,List.length_map]at this
 have het:y.ts.map ThV.d=x.ts.map ThV.d:=(congrArg MD.ts he).symm
 have htl:y.ts.length=x.ts.length:=by have:=congrArg List.length het;rwa[List.length_map,List.length_map]at this
 have ht1:x.ts.length≤1000:=by have:=hsm.t;unfold MV.d at this;dsimp only at this;rwa[List.length_map]at this
 have hb1:x.bs.length≤1000:=hsm.b
 have hyb:=hy.b
 rw[heb]at hyb
 have k1:=fun w'' (hf:Pu wB w'')=>lysm_c x.bA x.bc y.bA y.bc x.bs x.key w'' (hf.rd' hx.b) (hf.rd' hyb) (by omega)
 have k2:=fun w'' (hf:Pu wB w'')=>msm_c x y w'' (hx.pu hf) (hy.pu hf) he hsm
 unfold MV.v
 unfold MV.me at k2
 rw[hec,hll]at k2
 rw[heb,hek,hec,hll,htl]
 refine enterR Tryz.func15 rfl rfl rfl fun a hs hm=>?_
 repeat(first|(refine gpSgf0_ ?_;clear hs hm a;intros;rename_i a hm hs)|refine sc_ ?_|((with_reducible apply lCons);first|(refine dvc hs hm gw_ rfl rfl rfl rfl rfl (pl 24 rfl) (k1 _ hm.fr) ?_;clear hs hm a;intro w hm a hs)|(refine dvc hs hm gw_ rfl rfl rfl rfl rfl (pl 25 rfl) (k2 _ hm.fr) ?_;clear hs hm a;intro w hm a hs))|((with_reducible apply qCons);first|(refine qwc hs gw_ rfl rfl rfl rfl rfl (pl 24 rfl) (fun w hm=>k1 _ hm.fr) ?_;clear hs a;intro a hs)|(refine qwc hs gw_ rfl rfl rfl rfl rfl (pl 25 rfl) (fun w hm=>k2 _ hm.fr) ?_;clear hs a;intro a hs)))
 obtain⟨g2,rfl⟩:=hs.pp 2
 obtain⟨g3,rfl⟩:=hs.pp 3
 refine cLoop (X:=Nat) (fun k a w'=>Sl Tryz.f15.ntmps [(2,pt g2),(3,pt g3),(31,.int .i64 (x.ts.length:Int)),(32,.int .i64 (k:Int))] a∧Mm (fun _=>False) wB [⟨some g3,32,[.slice y.bA x.bs.length y.bc,.int .u16 x.key,.slice y.cA x.xs.length y.cc,.slice y.lA x.ls.length y.lc,.slice y.tA x.ts.length y.tc]⟩,⟨some g2,32,(x.cl [.slice x.tA x.ts.length x.tc])⟩] w'∧k≤x.ts.length) (fun k=>x.ts.length-k) 0 ⟨(sb_ hs),hm,Nat.zero_le _⟩ ?_
 clear hs hm a k1 k2
 rintro k a w' ⟨hs,hm,hk⟩
 by_cases hlt:k<x.ts.length
 ·obtain⟨b1,o1,hA1,hb1,r1⟩:=hx.t.ro (by rw[flat_len ThV.v 8 ThV.len];omega)
  obtain⟨b2,o2,hA2,hb2,r2⟩:=hy.t.ro (by rw[flat_len ThV.v 8 ThV.len];omega)
  rw[hA1,hA2]at hm
  have q1:=r1.flat ThV.len hlt
  have q2:=r2.flat ThV.len (show k<y.ts.length by omega)
  have hd:(y.ts[k]'(by omega)).d=(x.ts[k]).d:=by
   have:=congrArg (fun l=>l[k]?) het
   simpa[List.getElem?_map,List.getElem?_eq_getElem hlt,List.getElem?_eq_getElem (show k<y.ts.length by omega)]using this
  have hxl:=hx.tt _ (List.getElem_mem hlt)
  have hyl:=hy.tt _ (List.getElem_mem (show k<y.ts.length by omega))
  have hxn:(x.ts[k]).d.xs.length≤1000:=hsm.tt _ (List.mem_map.2 ⟨_,List.getElem_mem hlt,rfl⟩)
  generalize x.ts[k]=p at*
  generalize y.ts[k]'(_)=p2 at*
  obtain⟨A1,c1,d1⟩:=p
  obtain⟨A2,c2,d2⟩:=p2
  dsimp only at hd hxl hyl hxn
  subst hd
  have k3:=fun w'' (hf:Pu wB w'')=>tsm_c A1 c1 A2 c2 d2 w'' (hf.rd' hxl) (hf.rd' hyl) (by omega)
  unfold ThV.v at q1 q2 k3
  dsimp only at q1 q2 k3
  repeat(first|(refine gpSgf0_ ?_;clear hs hm a;intros;rename_i a hm hs)|refine sc_ ?_|((with_reducible apply lCons);first|(refine dvc hs hm gw_ rfl rfl rfl rfl rfl (pl 26 rfl) (k3 _ hm.fr) ?_;clear hs hm a;intro w hm a hs))|((with_reducible apply qCons);first|(refine qwc hs gw_ rfl rfl rfl rfl rfl (pl 26 rfl) (fun w hm=>k3 _ hm.fr) ?_;clear hs a;intro a hs)))
  rw[hA1,hA2]
  exact z0359_
 refine gqb114_ ?_;clear hs hm a;intros;rename_i a hm hs
 exact gRet1 hs rfl rfl ⟨rfl,hm.fr⟩
def canT(q:ThD):Bool:=decide (q.st=1)&&(!decide (q.han=-1)&&decide (q.sav=-1))
def canS(d:MD)(t:Int):Bool:=decide (0≤t)&&((d.ts[t.toNat]?).map canT).getD false
def depF(l:List ThD):Nat:=(l.filter fun q=>!decide (q.sav=-1)).length
theorem depF_snoc(l:List ThD)(q:ThD):depF (l++[q])=depF l+if q.sav=-1 then 0 else 1:=by
 unfold depF
 rw[List.filter_append,List.length_append]
 congr 1
 by_cases h:q.sav=-1
 ·rw[if_pos h,List.filter_cons,decide_eq_true h];rfl
 ·rw[if_neg h,List.filter_cons,decide_eq_false h];rfl
theorem canS_out{d:MD}{t:Int}(h:t<0∨(d.ts.length:Int)≤t):canS d t=false:=by
 unfold canS
 rcases h with h|h
 ·rw[decide_eq_false (by omega),Bool.false_and]
 ·rw[List.getElem?_eq_none (by omega),Option.map_none,Option.getD_none,Bool.and_false]
theorem canS_at{d:MD}{k:Nat}{q:ThD}(h:d.ts[k]?=some q):canS d (k:Int)=canT q:=by
 unfold canS
 rw[decide_eq_true (by omega),Int.toNat_natCast,h]
 rfl
theorem MV.d_ts(x:MV){k:Nat}(h:k<x.ts.length):x.d.ts[k]?=some (x.ts[k]).d:=by
 unfold MV.d
 dsimp only
 rw[List.getElem?_map,List.getElem?_eq_getElem h]
 rfl
theorem MV.d_len(x:MV):x.d.ts.length=x.ts.length:=by
 unfold MV.d
 dsimp only
 rw[List.length_map]
theorem rcan_c(x:MV)(t:Int)(wB:World)(hx:x.ok wB)(hsm:x.d.sm):Ret Tryz.prog 14 [x.v,.int .i64 t] wB (fun u w'=>u= .bool (canS x.d t)∧Pu wB w'):=by
 have ht1:x.ts.length≤1000:=by have:=hsm.t;rwa[MV.d_len]at this
 have hdl:=x.d_len
 unfold MV.v
 by_cases h0:t<0
 ·rw[canS_out (.inl h0)]
  refine enterR Tryz.func14 rfl rfl rfl fun a hs hm=>?_
  refine gqb0e8_ ?_;clear hs hm a;intros;rename_i a hm hs
  exact gRet1 hs rfl rfl ⟨rfl,hm.fr⟩
 by_cases h1:(x.ts.length:Int)≤t
 ·rw[canS_out (.inr (by omega))]
  refine enterR Tryz.func14 rfl rfl rfl fun a hs hm=>?_
  refine gqb0e8_ ?_;clear hs hm a;intros;rename_i a hm hs
  exact gRet1 hs rfl rfl ⟨rfl,hm.fr⟩
 obtain⟨k,rfl⟩:∃k:Nat,t=(k:Int):=⟨t.toNat,by omega⟩
 have hlt:k<x.ts.length:=by omega
 rw[canS_at (x.d_ts hlt)]
 obtain⟨b1,o1,hA1,hb1,r1⟩:=hx.t.ro (by rw[flat_len ThV.v 8 ThV.len];omega)
 have q1:=r1.flat ThV.len hlt
 generalize x.ts[k]=p at*
 obtain⟨A1,c1,st,xs,pc,cnt,han,sav,trp,cod⟩:=p
 unfold ThV.v at q1
 dsimp only at q1
 rw[hA1]
 unfold canT
 dsimp only
 refine enterR Tryz.func14 rfl rfl rfl fun a hs hm=>?_
 by_cases e1:st=1
 case neg=>
  rw[decide_eq_false e1,Bool.false_and]
  refine gqb0e8_ ?_;clear hs hm a;intros;rename_i a hm hs
  exact gRet1 hs rfl rfl ⟨rfl,hm.fr⟩
 rw[decide_eq_true e1,Bool.true_and]
 by_cases e2:han=-1
 ·rw[decide_eq_true e2,Bool.not_true,Bool.false_and]
  refine gqb0e8_ ?_;clear hs hm a;intros;rename_i a hm hs
  exact gRet1 hs rfl rfl ⟨rfl,hm.fr⟩
 rw[decide_eq_false e2,Bool.not_false,Bool.true_and]
 by_cases e3:sav=-1
 ·rw[decide_eq_true e3]
  refine gqb0e8_ ?_;clear hs hm a;intros;rename_i a hm hs
  exact gRet1 hs rfl rfl ⟨rfl,hm.fr⟩
 ·rw[decide_eq_false e3]
  refine gqb0e8_ ?_;clear hs hm a;intros;rename_i a hm hs
  exact gRet1 hs rfl rfl ⟨rfl,hm.fr⟩
theorem rdep_c(x:MV)(wB:World)(hx:x.ok wB)(hsm:x.d.sm):Ret Tryz.prog 17 [x.v] wB (fun u w'=>u= .int .i64 (depF x.d.ts:Int)∧Pu wB w'):=by
 have ht1:x.ts.length≤1000:=by have:=hsm.t;rwa[MV.d_len]at this
 have hdl:=x.d_len
 have hdb:∀l:List ThD,depF l≤l.length:=fun l=>List.length_filter_le _ _
 unfold MV.v
 refine enterR Tryz.func17 rfl rfl rfl fun a hs hm=>?_
 refine gsce98_ ?_;clear hs hm a;intros;rename_i a hm hs
 have hF:=hm.fr
 refine cLoop (X:=Nat) (fun k a w'=>Sl Tryz.f17.ntmps [(3,.int .i64 (depF (x.d.ts.take k):Int)),(7,.slice x.tA x.ts.length x.tc),(8,.int .i64 (x.ts.length:Int)),(9,.int .i64 (k:Int))] a∧Pu wB w'∧k≤x.ts.length) (fun k=>x.ts.length-k) 0 ⟨(sb_ hs),hF,Nat.zero_le _⟩ ?_
 clear hs hm a hF
 rintro k a w' ⟨hs,hF,hk⟩
 have hm:=Mm.nil (fun _=>False) w'
 by_cases hlt:k<x.ts.length
 ·obtain⟨b1,o1,hA1,hb1,r1⟩:=(hF.rd' hx.t).ro (by rw[flat_len ThV.v 8 ThV.len];omega)
  have q1:=r1.flat ThV.len hlt
  have hdk:=x.d_ts hlt
  have hsn:x.d.ts.take (k+1)=x.d.ts.take k++[(x.ts[k]).d]:=by
   rw[List.take_add_one,hdk]
   rfl
  have hds:=depF_snoc (x.d.ts.take k) (x.ts[k]).d
  rw[←hsn]at hds
  have hdb1:=hdb (x.d.ts.take k)
  rw[List.length_take]at hdb1
  generalize x.ts[k]=p at*
  obtain⟨A1,c1,st,xs,pc,cnt,han,sav,trp,cod⟩:=p
  unfold ThV.v at q1
  dsimp only at q1 hds
  rw[hA1]at hs
  by_cases e3:sav=-1
  ·rw[if_pos e3]at hds
   replace hds:depF (x.d.ts.take (k+1))=depF (x.d.ts.take k):=hds
   refine gsce98_ ?_;clear hs hm a;intros;rename_i a hm hs
   rw[←hds,←hA1]at hs
   exact⟨k+1,by omega,(sb_ hs),hF.pu hm.fr,by omega⟩
  ·rw[if_neg e3]at hds
   obtain⟨n1,hn1⟩:∃n,depF (x.d.ts.take k)=n:=⟨_,rfl⟩
   rw[hn1]at hs hds hdb1
   refine gsce98_ ?_;clear hs hm a;intros;rename_i a hm hs
   rw[←hA1]at hs
   exact⟨k+1,by omega,hs.sub (Has.all ⟨(by rw[hds];rfl),rfl,rfl,rfl,trivial⟩),hF.pu hm.fr,by omega⟩
 obtain rfl:k=x.ts.length:=by omega
 rw[List.take_of_length_le (by omega)]at hs
 refine gsce98_ ?_;clear hs hm a;intros;rename_i a hm hs
 exact gRet1 hs rfl rfl ⟨rfl,hF.pu hm.fr⟩
theorem pcan_c(x:MV)(t:Int)(wB:World)(hx:x.ok wB)(hsm:x.d.sm):Ret Tryz.prog 13 [x.v,.int .i64 t] wB (fun u w'=>u= .bool (canS x.d t)∧Pu wB w'):=by
 have ht1:x.ts.length≤1000:=by have:=hsm.t;rwa[MV.d_len]at this
 have hdl:=x.d_len
 unfold MV.v
 by_cases h0:t<0
 ·rw[canS_out (.inl h0)]
  refine enterR Tryz.func13 rfl rfl rfl fun a hs hm=>?_
  refine gqb0e8_ ?_;clear hs hm a;intros;rename_i a hm hs
  exact gRet1 hs rfl rfl ⟨rfl,hm.fr⟩
 by_cases h1:(x.ts.length:Int)≤t
 ·rw[canS_out (.inr (by omega))]
  refine enterR Tryz.func13 rfl rfl rfl fun a hs hm=>?_
  refine gqb0e8_ ?_;clear hs hm a;intros;rename_i a hm hs
  exact gRet1 hs rfl rfl ⟨rfl,hm.fr⟩
 obtain⟨k,rfl⟩:∃k:Nat,t=(k:Int):=⟨t.toNat,by omega⟩
 have hlt:k<x.ts.length:=by omega
 rw[canS_at (x.d_ts hlt)]
 obtain⟨b1,o1,hA1,hb1,r1⟩:=hx.t.ro (by rw[flat_len ThV.v 8 ThV.len];omega)
 have q1:=r1.flat ThV.len hlt
 generalize x.ts[k]=p at*
 obtain⟨A1,c1,st,xs,pc,cnt,han,sav,trp,cod⟩:=p
 unfold ThV.v at q1
 dsimp only at q1
 rw[hA1]
 unfold canT
 dsimp only
 refine enterR Tryz.func13 rfl rfl rfl fun a hs hm=>?_
 by_cases e1:st=1
 case neg=>
  rw[decide_eq_false e1,Bool.false_and]
  refine gqb0e8_ ?_;clear hs hm a;intros;rename_i a hm hs
  exact gRet1 hs rfl rfl ⟨rfl,hm.fr⟩
 rw[decide_eq_true e1,Bool.true_and]
 by_cases e2:han=-1
 ·rw[decide_eq_true e2,Bool.not_true,Bool.false_and]
  refine gqb0e8_ ?_;clear hs hm a;intros;rename_i a hm hs
  exact gRet1 hs rfl rfl ⟨rfl,hm.fr⟩
 rw[decide_eq_false e2,Bool.not_false,Bool.true_and]
 by_cases e3:sav=-1
 ·rw[decide_eq_true e3]
  refine gqb0e8_ ?_;clear hs hm a;intros;rename_i a hm hs
  exact gRet1 hs rfl rfl ⟨rfl,hm.fr⟩
 ·rw[decide_eq_false e3]
  refine gqb0e8_ ?_;clear hs hm a;intros;rename_i a hm hs
  exact gRet1 hs rfl rfl ⟨rfl,hm.fr⟩
theorem pdep_c(x:MV)(wB:World)(hx:x.ok wB)(hsm:x.d.sm):Ret Tryz.prog 16 [x.v] wB (fun u w'=>u= .int .i64 (depF x.d.ts:Int)∧Pu wB w'):=by
 have ht1:x.ts.length≤1000:=by have:=hsm.t;rwa[MV.d_len]at this
 have hdl:=x.d_len
 have hdb:∀l:List ThD,depF l≤l.length:=fun l=>List.length_filter_le _ _
 unfold MV.v
 refine enterR Tryz.func16 rfl rfl rfl fun a hs hm=>?_
 refine gsce98_ ?_;clear hs hm a;intros;rename_i a hm hs
 have hF:=hm.fr
 refine cLoop (X:=Nat) (fun k a w'=>Sl Tryz.f16.ntmps [(3,.int .i64 (depF (x.d.ts.take k):Int)),(7,.slice x.tA x.ts.length x.tc),(8,.int .i64 (x.ts.length:Int)),(9,.int .i64 (k:Int))] a∧Pu wB w'∧k≤x.ts.length) (fun k=>x.ts.length-k) 0 ⟨(sb_ hs),hF,Nat.zero_le _⟩ ?_
 clear hs hm a hF
 rintro k a w' ⟨hs,hF,hk⟩
 have hm:=Mm.nil (fun _=>False) w'
 by_cases hlt:k<x.ts.length
 ·obtain⟨b1,o1,hA1,hb1,r1⟩:=(hF.rd' hx.t).ro (by rw[flat_len ThV.v 8 ThV.len];omega)
  have q1:=r1.flat ThV.len hlt
  have hdk:=x.d_ts hlt
  have hsn:x.d.ts.take (k+1)=x.d.ts.take k++[(x.ts[k]).d]:=by
   rw[List.take_add_one,hdk]
   rfl
  have hds:=depF_snoc (x.d.ts.take k) (x.ts[k]).d
  rw[←hsn]at hds
  have hdb1:=hdb (x.d.ts.take k)
  rw[List.length_take]at hdb1
  generalize x.ts[k]=p at*
  obtain⟨A1,c1,st,xs,pc,cnt,han,sav,trp,cod⟩:=p
  unfold ThV.v at q1
  dsimp only at q1 hds
  rw[hA1]at hs
  by_cases e3:sav=-1
  ·rw[if_pos e3]at hds
   replace hds:depF (x.d.ts.take (k+1))=depF (x.d.ts.take k):=hds
   refine gsce98_ ?_;clear hs hm a;intros;rename_i a hm hs
   rw[←hds,←hA1]at hs
   exact⟨k+1,by omega,(sb_ hs),hF.pu hm.fr,by omega⟩
  ·rw[if_neg e3]at hds
   obtain⟨n1,hn1⟩:∃n,depF (x.d.ts.take k)=n:=⟨_,rfl⟩
   rw[hn1]at hs hds hdb1
   refine gsce98_ ?_;clear hs hm a;intros;rename_i a hm hs
   rw[←hA1]at hs
   exact⟨k+1,by omega,hs.sub (Has.all ⟨(by rw[hds];rfl),rfl,rfl,rfl,trivial⟩),hF.pu hm.fr,by omega⟩
 obtain rfl:k=x.ts.length:=by omega
 rw[List.take_of_length_le (by omega)]at hs
 refine gsce98_ ?_;clear hs hm a;intros;rename_i a hm hs
 exact gRet1 hs rfl rfl ⟨rfl,hF.pu hm.fr⟩
theorem gcSgh0_{G H:Prop}(k:H)(s:Bx H→G:=by intro k_;(repeat(first|(refine ov_ ?_;(try clear hs a);intro a hs)|((with_reducible apply lCons);first|(refine dv hs gw_ rfl rfl da_ ?_;(try clear hs hm a);rintro _ w_ ⟨g_,rfl,-,hm⟩ a hs)|(refine stn hs rfl rfl ds_ ?_;(try clear hs hm a);rintro-w_ hm a hs))|refine sc_ ?_|((with_reducible apply lCons);first|(refine dvc hs hm gw_ rfl rfl rfl rfl rfl (pl 14 rfl) (kc _ hm.fr) ?_;(try clear hs hm a);intro w_ hm a hs))));(first|(have m_:=hm;have s_:=hs;clear hs;(try clear hm);revert m_ s_ a)|((first|refine rexc_ hs hm ?_|refine rexl_ hs hm ?_|refine rexg_ hs hm ?_|refine rexq_ hs hm ?_);intro a hm hs;revert hm hs a));(try revert w_);(repeat revert g_);exact k_.h):G:=s ⟨k⟩
theorem gcSgh1_{G H:Prop}(k:H)(s:Bx H→G:=by intro k_;(repeat(first|(refine ov_ ?_;(try clear hs a);intro a hs)|((with_reducible apply lCons);first|(refine dv hs gw_ rfl rfl da_ ?_;(try clear hs hm a);rintro _ w_ ⟨g_,rfl,-,hm⟩ a hs)|(refine stn hs rfl rfl ds_ ?_;(try clear hs hm a);rintro-w_ hm a hs))|refine sc_ ?_|((with_reducible apply lCons);first|(refine dvc hs hm gw_ rfl rfl rfl rfl rfl (pl 13 rfl) (kc _ hm.fr) ?_;(try clear hs hm a);intro w_ hm a hs))));(first|(have m_:=hm;have s_:=hs;clear hs;(try clear hm);revert m_ s_ a)|((first|refine rexc_ hs hm ?_|refine rexl_ hs hm ?_|refine rexg_ hs hm ?_|refine rexq_ hs hm ?_);intro a hm hs;revert hm hs a));(try revert w_);(repeat revert g_);exact k_.h):G:=s ⟨k⟩
def delT(q:ThD):ThD:={q with sav:=q.pc,pc:=q.han}
def delF(d:MD)(t:Int):MD:=if canS d t=true then{d with ts:=match d.ts[t.toNat]? with
  |some q=>d.ts.set t.toNat (delT q)
  |none=>d.ts}else d
theorem MO.d_ts(y:MO){k:Nat}(h:k<y.ts.length):y.d.ts[k]?=some (y.ts[k]).d:=by
 unfold MO.d
 dsimp only
 rw[List.getElem?_map,List.getElem?_eq_getElem h]
 rfl
theorem MO.d_len(y:MO):y.d.ts.length=y.ts.length:=by
 unfold MO.d
 dsimp only
 rw[List.length_map]
theorem rdel_c(x:MV)(t:Int)(wB:World)(hx:x.ok wB)(hsm:x.d.sm):Ret Tryz.prog 12 [x.v,.int .i64 t] wB (fun u w'=>∃y:MO,u= .tuple #[y.v,.bool (canS x.d t)]∧y.ok∧y.d=delF x.d t∧New wB w' y.hps∧Pu wB w'):=by
 have ht1:x.ts.length≤1000:=by have:=hsm.t;rwa[MV.d_len]at this
 have hdl:=x.d_len
 have kc:=fun w'' (hf:Pu wB w'')=>rcan_c x t w'' (hx.pu hf) hsm
 have kp:=fun w'' (hf:Pu wB w'')=>rcp_c x w'' (hx.pu hf) hsm
 unfold MV.v at*
 refine enterR Tryz.func12 rfl rfl rfl fun a hs hm=>?_
 refine gs87a7_ ?_;clear hs hm a;intros;rename_i a hm hs
 obtain⟨g2,rfl⟩:=hs.pp 2
 obtain⟨g4,rfl⟩:=hs.pp 4
 refine st hs rfl rfl rfl (d_call hs rfl rfl rfl (pl 19 rfl) ((kp _ hm.fr))) ?_;clear hs a;rintro _ w1 ⟨y,rfl,hyo,hyd,hN,hf⟩ a hs
 replace hm:=gainE hm hf hN
 clear hN hf
 unfold MO.v at hs
 cases hcf:canS x.d t
 ·rw[hcf]at kc
  refine gcSgh0_ ?_;clear hs hm a;intros;rename_i a hm hs
  refine gRetN tab hs rfl (.cons (.cells rfl rfl rfl rfl (hm.ro (k:=0) (n:=5) (g:=g4) mem_ (cutF_ok rfl))) (.cons (.tmp rfl) .nil)) ⟨y,rfl,hyo,by rw[hyd];unfold delF;rw[hcf,if_neg (by decide)],hm.new ?_,hm.fr⟩
  exact z12cd_
 ·rw[hcf]at kc
  have h0:0≤t∧t<(x.ts.length:Int):=by
   refine Classical.byContradiction fun e=>?_
   rw[canS_out (d:=x.d) (by omega)]at hcf
   cases hcf
  obtain⟨k,rfl⟩:∃k:Nat,t=(k:Int):=⟨t.toNat,by omega⟩
  have hyl:y.ts.length=x.ts.length:=by rw[←MO.d_len,hyd,hdl]
  have hlt:k<y.ts.length:=by omega
  have hxk:=MO.d_ts y hlt
  rw[hyd]at hxk
  obtain⟨q,hq⟩:∃q,y.ts[k]=q:=⟨_,rfl⟩
  have hqk:y.ts[k]?=some q:=by rw[List.getElem?_eq_getElem hlt,hq]
  rw[hq]at hxk
  obtain⟨bA,bc,bcs,bs,key,m,tA,tc,tcs,ts⟩:=y
  dsimp only at hs hm hyl hlt hq hqk
  have hot:=hyo.t
  dsimp only at hot
  obtain⟨gt,rfl⟩:=hot.some_ (by omega)
  have hcl:tcs.length=tc*8:=hot.len
  have hle:=hot.le
  have hget:∀j,j<8→(ts.flatMap ThO.v)[k*8+j]?=(ThO.v q)[j]?:=fun j hj=>by rw[flat_get ThO.v 8 ThO.len ts k j hlt hj,hq]
  have e2:tcs[k*8+2]?=some (.int .i64 q.d.pc):=hot.get (by rw[hget 2 (by omega)];rfl)
  have e4:tcs[k*8+4]?=some (.int .i64 q.d.han):=hot.get (by rw[hget 4 (by omega)];rfl)
  have l5:k*8+5<tcs.length:=by omega
  have l2:k*8+2<(tcs.set (k*8+5) (.int .i64 q.d.pc)).length:=by rw[List.length_set];omega
  refine gcSgh0_ ?_;clear hs hm a;intros;rename_i a hm hs
  obtain⟨g6,rfl⟩:=hs.pp 6
  unfold MO.hps at hm
  dsimp only at hm
  simp only[List.cons_append,List.nil_append]at hm
  obtain⟨tcs2,htc2⟩:∃z,(tcs.set (k*8+5) (.int .i64 q.d.pc)).set (k*8+2) (.int .i64 q.d.han)=z:=⟨_,rfl⟩
  refine cMid (fun a w=>Sl Tryz.f12.ntmps [(4,pt g4),(6,pt g6)] a∧Mm (fun _=>False) wB (⟨some g6,32,[slv bA bs.length bc,.int .u16 key,slv m.cA m.xs.length m.cc,slv m.lA m.ls.length m.lc,slv (some gt) ts.length tc]⟩::⟨some g4,32,[nS,.int .u16 0,nS,nS,nS]⟩::⟨some gt,52,tcs2⟩::⟨bA,3,bcs⟩::(m.hps++ts.map ThO.hp)) w) ?_ ?_
  ·with_reducible repeat(first|apply gThen|apply wp_seq)
   refine cDrawTB (n:=16) (.s [0,1,2,3,4,5,6,7,8,9,10,11]<| .o 12<| .s [13,14]<| .o 15<| .d) 12 [⟨some gt,52,tcs⟩] hm rfl rfl ?_
   clear hm;intro t_ w1_ hm
   repeat' (first|(refine dg2657_ ?_;clear t_ hs hm a;intros;rename_i a hm hs t_)|refine tEB t_ ?_|refine tCB ?_ ?_|exact tNB|intro t_|(refine tDB t_ ?_;(subst htc2);(exact And.intro rfl ⟨(sb_ hs),hm.sub (List.Sublist.cons_cons _ (List.Sublist.cons_cons _ (List.Sublist.cons _ (List.Sublist.refl _))))⟩))|fail)
  ·rintro a w ⟨hs,hm⟩
   refine gs87a7_ ?_;clear hs hm a;intros;rename_i a hm hs
   obtain⟨q',hq'⟩:∃q':ThO,q'={q with d:=delT q.d}:=⟨_,rfl⟩
   have hl':(ts.set k q').length=ts.length:=List.length_set
   have hps':(ts.set k q').map ThO.hp=ts.map ThO.hp:=by
    rw[List.map_set]
    refine List.ext_getElem? fun i=>?_
    rw[List.getElem?_set]
    split
    ·next e=>
     subst e
     rw[List.length_map,if_pos hlt,List.getElem?_map,hqk,hq']
     rfl
    ·rfl
   have hq5:ts.flatMap ThO.v=ts.flatMap ThO.v:=rfl
   have hr5:((ts.flatMap ThO.v).set (k*8+5) (.int .i64 q.d.pc)).set (k*8+2) (.int .i64 q.d.han)=(ts.set k q').flatMap ThO.v:=by
    rw[flat_set ThO.v 8 ThO.len ts k 5 q (.int .i64 q.d.pc) hqk (by omega) {q with d:={q.d with sav:=q.d.pc}} rfl]
    rw[flat_set ThO.v 8 ThO.len _ k 2 {q with d:={q.d with sav:=q.d.pc}} (.int .i64 q.d.han) (by rw[List.getElem?_set_self hlt]) (by omega) q' (by rw[hq'];rfl),List.set_set]
   refine gRetN tab hs rfl (.cons (.cells rfl rfl rfl rfl (hm.ro (k:=0) (n:=5) (g:=g4) mem_ (cutF_ok rfl))) (.cons (.tmp rfl) .nil)) ⟨⟨bA,bc,bcs,bs,key,m,some gt,tc,tcs2,ts.set k q'⟩,?_,⟨hyo.b,hyo.m,?_,?_⟩,?_,?_,hm.fr⟩
   ·unfold MO.v
    dsimp only
    rw[hl']
    rfl
   ·dsimp only
    rw[hl',←hr5,←htc2]
    exact(hot.set _ _).set _ _
   ·intro z hz
    dsimp only at hz
    rcases List.mem_or_eq_of_mem_set hz with h|h
    ·exact hyo.tt z h
    ·subst h
     rw[hq']
     exact hyo.tt q (List.mem_of_getElem? hqk)
   ·unfold delF
    rw[hcf,if_pos rfl,←hyd]
    unfold MO.d
    dsimp only
    rw[Int.toNat_natCast,List.getElem?_map,hqk,Option.map_some,List.map_set,hq']
   ·unfold MO.hps
    dsimp only
    rw[hps']
    exact hm.new (List.Sublist.cons _ (List.Sublist.cons _ (List.Sublist.refl _)))
theorem pdel_c(x:MV)(t:Int)(wB:World)(hx:x.ok wB)(hsm:x.d.sm):Ret Tryz.prog 11 [x.v,.int .i64 t] wB (fun u w'=>∃y:MO,u= .tuple #[y.v,.bool (canS x.d t)]∧y.ok∧y.d=delF x.d t∧New wB w' y.hps∧Pu wB w'):=by
 have ht1:x.ts.length≤1000:=by have:=hsm.t;rwa[MV.d_len]at this
 have hdl:=x.d_len
 have kc:=fun w'' (hf:Pu wB w'')=>pcan_c x t w'' (hx.pu hf) hsm
 have kp:=fun w'' (hf:Pu wB w'')=>pcp_c x w'' (hx.pu hf) hsm
 unfold MV.v at*
 refine enterR Tryz.func11 rfl rfl rfl fun a hs hm=>?_
 refine gs87a7_ ?_;clear hs hm a;intros;rename_i a hm hs
 obtain⟨g2,rfl⟩:=hs.pp 2
 obtain⟨g4,rfl⟩:=hs.pp 4
 refine st hs rfl rfl rfl (d_call hs rfl rfl rfl (pl 23 rfl) ((kp _ hm.fr))) ?_;clear hs a;rintro _ w1 ⟨y,rfl,hyo,hyd,hN,hf⟩ a hs
 replace hm:=gainE hm hf hN
 clear hN hf
 unfold MO.v at hs
 cases hcf:canS x.d t
 ·rw[hcf]at kc
  refine gcSgh1_ ?_;clear hs hm a;intros;rename_i a hm hs
  refine gRetN tab hs rfl (.cons (.cells rfl rfl rfl rfl (hm.ro (k:=0) (n:=5) (g:=g4) mem_ (cutF_ok rfl))) (.cons (.tmp rfl) .nil)) ⟨y,rfl,hyo,by rw[hyd];unfold delF;rw[hcf,if_neg (by decide)],hm.new ?_,hm.fr⟩
  exact z12cd_
 ·rw[hcf]at kc
  have h0:0≤t∧t<(x.ts.length:Int):=by
   refine Classical.byContradiction fun e=>?_
   rw[canS_out (d:=x.d) (by omega)]at hcf
   cases hcf
  obtain⟨k,rfl⟩:∃k:Nat,t=(k:Int):=⟨t.toNat,by omega⟩
  have hyl:y.ts.length=x.ts.length:=by rw[←MO.d_len,hyd,hdl]
  have hlt:k<y.ts.length:=by omega
  have hxk:=MO.d_ts y hlt
  rw[hyd]at hxk
  obtain⟨q,hq⟩:∃q,y.ts[k]=q:=⟨_,rfl⟩
  have hqk:y.ts[k]?=some q:=by rw[List.getElem?_eq_getElem hlt,hq]
  rw[hq]at hxk
  obtain⟨bA,bc,bcs,bs,key,m,tA,tc,tcs,ts⟩:=y
  dsimp only at hs hm hyl hlt hq hqk
  have hot:=hyo.t
  dsimp only at hot
  obtain⟨gt,rfl⟩:=hot.some_ (by omega)
  have hcl:tcs.length=tc*8:=hot.len
  have hle:=hot.le
  have hget:∀j,j<8→(ts.flatMap ThO.v)[k*8+j]?=(ThO.v q)[j]?:=fun j hj=>by rw[flat_get ThO.v 8 ThO.len ts k j hlt hj,hq]
  have e2:tcs[k*8+2]?=some (.int .i64 q.d.pc):=hot.get (by rw[hget 2 (by omega)];rfl)
  have e4:tcs[k*8+4]?=some (.int .i64 q.d.han):=hot.get (by rw[hget 4 (by omega)];rfl)
  have l5:k*8+5<tcs.length:=by omega
  have l2:k*8+2<(tcs.set (k*8+5) (.int .i64 q.d.pc)).length:=by rw[List.length_set];omega
  refine gcSgh1_ ?_;clear hs hm a;intros;rename_i a hm hs
  obtain⟨g6,rfl⟩:=hs.pp 6
  unfold MO.hps at hm
  dsimp only at hm
  simp only[List.cons_append,List.nil_append]at hm
  obtain⟨tcs2,htc2⟩:∃z,(tcs.set (k*8+5) (.int .i64 q.d.pc)).set (k*8+2) (.int .i64 q.d.han)=z:=⟨_,rfl⟩
  refine cMid (fun a w=>Sl Tryz.f11.ntmps [(4,pt g4),(6,pt g6)] a∧Mm (fun _=>False) wB (⟨some g6,32,[slv bA bs.length bc,.int .u16 key,slv m.cA m.xs.length m.cc,slv m.lA m.ls.length m.lc,slv (some gt) ts.length tc]⟩::⟨some g4,32,[nS,.int .u16 0,nS,nS,nS]⟩::⟨some gt,52,tcs2⟩::⟨bA,3,bcs⟩::(m.hps++ts.map ThO.hp)) w) ?_ ?_
  ·with_reducible repeat(first|apply gThen|apply wp_seq)
   refine cDrawTB (n:=16) (.s [0,1,2,3,4,5,6,7,8,9,10,11]<| .o 12<| .s [13,14]<| .o 15<| .d) 12 [⟨some gt,52,tcs⟩] hm rfl rfl ?_
   clear hm;intro t_ w1_ hm
   repeat' (first|(refine dg2657_ ?_;clear t_ hs hm a;intros;rename_i a hm hs t_)|refine tEB t_ ?_|refine tCB ?_ ?_|exact tNB|intro t_|(refine tDB t_ ?_;(subst htc2);(exact And.intro rfl ⟨(sb_ hs),hm.sub (List.Sublist.cons_cons _ (List.Sublist.cons_cons _ (List.Sublist.cons _ (List.Sublist.refl _))))⟩))|fail)
  ·rintro a w ⟨hs,hm⟩
   refine gs87a7_ ?_;clear hs hm a;intros;rename_i a hm hs
   obtain⟨q',hq'⟩:∃q':ThO,q'={q with d:=delT q.d}:=⟨_,rfl⟩
   have hl':(ts.set k q').length=ts.length:=List.length_set
   have hps':(ts.set k q').map ThO.hp=ts.map ThO.hp:=by
    rw[List.map_set]
    refine List.ext_getElem? fun i=>?_
    rw[List.getElem?_set]
    split
    ·next e=>
     subst e
     rw[List.length_map,if_pos hlt,List.getElem?_map,hqk,hq']
     rfl
    ·rfl
   have hq5:ts.flatMap ThO.v=ts.flatMap ThO.v:=rfl
   have hr5:((ts.flatMap ThO.v).set (k*8+5) (.int .i64 q.d.pc)).set (k*8+2) (.int .i64 q.d.han)=(ts.set k q').flatMap ThO.v:=by
    rw[flat_set ThO.v 8 ThO.len ts k 5 q (.int .i64 q.d.pc) hqk (by omega) {q with d:={q.d with sav:=q.d.pc}} rfl]
    rw[flat_set ThO.v 8 ThO.len _ k 2 {q with d:={q.d with sav:=q.d.pc}} (.int .i64 q.d.han) (by rw[List.getElem?_set_self hlt]) (by omega) q' (by rw[hq'];rfl),List.set_set]
   refine gRetN tab hs rfl (.cons (.cells rfl rfl rfl rfl (hm.ro (k:=0) (n:=5) (g:=g4) mem_ (cutF_ok rfl))) (.cons (.tmp rfl) .nil)) ⟨⟨bA,bc,bcs,bs,key,m,some gt,tc,tcs2,ts.set k q'⟩,?_,⟨hyo.b,hyo.m,?_,?_⟩,?_,?_,hm.fr⟩
   ·unfold MO.v
    dsimp only
    rw[hl']
    rfl
   ·dsimp only
    rw[hl',←hr5,←htc2]
    exact(hot.set _ _).set _ _
   ·intro z hz
    dsimp only at hz
    rcases List.mem_or_eq_of_mem_set hz with h|h
    ·exact hyo.tt z h
    ·subst h
     rw[hq']
     exact hyo.tt q (List.mem_of_getElem? hqk)
   ·unfold delF
    rw[hcf,if_pos rfl,←hyd]
    unfold MO.d
    dsimp only
    rw[Int.toNat_natCast,List.getElem?_map,hqk,Option.map_some,List.map_set,hq']
   ·unfold MO.hps
    dsimp only
    rw[hps']
    exact hm.new (List.Sublist.cons _ (List.Sublist.cons _ (List.Sublist.refl _)))
end Go.Proofs.YtbjffoojenpmfaaGreat
