/- Texts put together: Pg4, Pg5, Tac2. -/
import Derived.Test.YtbjffoojenpmfaaGreatMgSOd
set_option maxRecDepth 20000
set_option maxHeartbeats 64000000
namespace Go.Proofs.YtbjffoojenpmfaaGreat
open Go.RowKit
theorem gpPg40_{G H:Prop}(k:H)(s:Bx H→G:=by intro k_;(repeat(first|(refine ov47e8_ ?_;(try clear hs a);intro a hs)|((with_reducible apply lCons);first|(refine dv hs gw_ rfl rfl da_ ?_;(try clear hs hm a);rintro _ w_ ⟨g_,rfl,-,hm⟩ a hs)|(refine stn hs rfl rfl ds_ ?_;(try clear hs hm a);rintro-w_ hm a hs))|refine sc_ ?_));have m_:=hm;have s_:=hs;clear hs;(try clear hm);revert m_ s_ a;(try revert w_);(repeat revert g_);exact k_.h):G:=s ⟨k⟩
theorem gcPg41_{G H:Prop}(k:H)(s:Bx H→G:=by intro k_;(repeat(first|(refine ov47e8_ ?_;(try clear hs a);intro a hs)|((with_reducible apply lCons);first|(refine dv hs gw_ rfl rfl da_ ?_;(try clear hs hm a);rintro _ w_ ⟨g_,rfl,-,hm⟩ a hs)|(refine stn hs rfl rfl ds_ ?_;(try clear hs hm a);rintro-w_ hm a hs))|refine sc_ ?_|((with_reducible apply lCons);first|(refine dvc hs hm gw_ rfl rfl rfl rfl rfl (pl 80 rfl) (hli _ _ _) ?_;(try clear hs hm a);intro w_ hm a hs)|(refine dvc hs hm gw_ rfl rfl rfl rfl rfl (pl 98 rfl) (hmv _ _ _) ?_;(try clear hs hm a);intro w_ hm a hs)|(refine dvc hs hm gw_ rfl rfl rfl rfl rfl (pl 81 rfl) (hsy _ _) ?_;(try clear hs hm a);intro w_ hm a hs))));(first|(have m_:=hm;have s_:=hs;clear hs;(try clear hm);revert m_ s_ a)|((first|refine rexc_ hs hm ?_|refine rexl_ hs hm ?_|refine rexg_ hs hm ?_|refine rexq_ hs hm ?_);intro a hm hs;revert hm hs a));(try revert w_);(repeat revert g_);exact k_.h):G:=s ⟨k⟩
theorem in_li{ns:Int}(r m:Int)(h1:0≤r∧r<8)(h2:0≤m∧m≤65535):InV ⟨1,r,0,0,m⟩ ns:=by
 refine⟨by dsimp only;omega,⟨by dsimp only;omega,by dsimp only;omega,fun e=>?_⟩,⟨by dsimp only;omega,by dsimp only;omega,fun e=>?_⟩,⟨by dsimp only;omega,by dsimp only;omega,fun e=>?_⟩,⟨by dsimp only;omega,by dsimp only;omega,fun e=>?_⟩,fun e=>?_,fun e=>?_⟩<;>first|rfl|(dsimp only at e;exact absurd e (by decide))|(dsimp only at e ⊢;omega)
theorem in_lea{ns:Int}(r m:Int)(h1:0≤r∧r<8)(h2:0≤m∧m<ns)(h3:ns≤4):InV ⟨15,r,0,0,m⟩ ns:=by
 refine⟨by dsimp only;omega,⟨by dsimp only;omega,by dsimp only;omega,fun e=>?_⟩,⟨by dsimp only;omega,by dsimp only;omega,fun e=>?_⟩,⟨by dsimp only;omega,by dsimp only;omega,fun e=>?_⟩,⟨by dsimp only;omega,by dsimp only;omega,fun e=>?_⟩,fun e=>?_,fun e=>?_⟩<;>first|rfl|(dsimp only at e;exact absurd e (by decide))|(dsimp only at e ⊢;omega)
theorem in_sys{ns:Int}(m:Int)(h2:0≤m∧m≤15):InV ⟨23,0,0,0,m⟩ ns:=by
 refine⟨by dsimp only;omega,⟨by dsimp only;omega,by dsimp only;omega,fun e=>?_⟩,⟨by dsimp only;omega,by dsimp only;omega,fun e=>?_⟩,⟨by dsimp only;omega,by dsimp only;omega,fun e=>?_⟩,⟨by dsimp only;omega,by dsimp only;omega,fun e=>?_⟩,fun e=>?_,fun e=>?_⟩<;>first|rfl|(dsimp only at e;exact absurd e (by decide))|(dsimp only at e ⊢;omega)
theorem in_jnz{ns:Int}(r m:Int)(h1:0≤r∧r<8)(h2:0≤m∧m≤65535):InV ⟨20,r,0,0,m⟩ ns:=by
 refine⟨by dsimp only;omega,⟨by dsimp only;omega,by dsimp only;omega,fun e=>?_⟩,⟨by dsimp only;omega,by dsimp only;omega,fun e=>?_⟩,⟨by dsimp only;omega,by dsimp only;omega,fun e=>?_⟩,⟨by dsimp only;omega,by dsimp only;omega,fun e=>?_⟩,fun e=>?_,fun e=>?_⟩<;>first|rfl|(dsimp only at e;exact absurd e (by decide))|(dsimp only at e ⊢;omega)
theorem in_mov{ns:Int}(a b:Int)(h1:0≤a∧a<8)(h2:0≤b∧b<8):InV ⟨2,a,b,0,0⟩ ns:=by
 refine⟨by dsimp only;omega,⟨by dsimp only;omega,by dsimp only;omega,fun e=>?_⟩,⟨by dsimp only;omega,by dsimp only;omega,fun e=>?_⟩,⟨by dsimp only;omega,by dsimp only;omega,fun e=>?_⟩,⟨by dsimp only;omega,by dsimp only;omega,fun e=>?_⟩,fun e=>?_,fun e=>?_⟩<;>first|rfl|(dsimp only at e;exact absurd e (by decide))|(dsimp only at e ⊢;omega)
theorem uses_alu{op:Int}(h:op=3∨op=4∨op=5∨op=9∨op=10∨op=11∨op=13∨op=14):usesF op=(true,true,true,false):=by
 rcases h with rfl|rfl|rfl|rfl|rfl|rfl|rfl|rfl<;>rfl
theorem in_alu{ns:Int}(op a b c:Int)(h:op=3∨op=4∨op=5∨op=9∨op=10∨op=11∨op=13∨op=14)(h1:0≤a∧a<8)(h2:0≤b∧b<8)(h3:0≤c∧c<8):InV ⟨op,a,b,c,0⟩ ns:=by
 have hu:=uses_alu h
 refine⟨by dsimp only;omega,⟨h1.1,h1.2,fun e=>?_⟩,⟨h2.1,h2.2,fun e=>?_⟩,⟨h3.1,h3.2,fun e=>?_⟩,⟨by dsimp only;omega,by dsimp only;omega,fun _=>rfl⟩,fun e=>?_,fun e=>?_⟩
 ·dsimp only at e;rw[hu]at e;cases e
 ·dsimp only at e;rw[hu]at e;cases e
 ·dsimp only at e;rw[hu]at e;cases e
 ·dsimp only at e;omega
 ·dsimp only at e;omega
theorem in_st{ns:Int}(a b m:Int)(h1:0≤a∧a<8)(h2:0≤b∧b<8)(h3:0≤m∧m≤65535):InV ⟨17,a,b,0,m⟩ ns:=by
 refine⟨by dsimp only;omega,⟨by dsimp only;omega,by dsimp only;omega,fun e=>?_⟩,⟨by dsimp only;omega,by dsimp only;omega,fun e=>?_⟩,⟨by dsimp only;omega,by dsimp only;omega,fun e=>?_⟩,⟨by dsimp only;omega,by dsimp only;omega,fun e=>?_⟩,fun e=>?_,fun e=>?_⟩<;>first|rfl|(dsimp only at e;exact absurd e (by decide))|(dsimp only at e ⊢;omega)
theorem in_ld{ns:Int}(a b m:Int)(h1:0≤a∧a<8)(h2:0≤b∧b<8)(h3:0≤m∧m≤65535):InV ⟨16,a,b,0,m⟩ ns:=by
 refine⟨by dsimp only;omega,⟨by dsimp only;omega,by dsimp only;omega,fun e=>?_⟩,⟨by dsimp only;omega,by dsimp only;omega,fun e=>?_⟩,⟨by dsimp only;omega,by dsimp only;omega,fun e=>?_⟩,⟨by dsimp only;omega,by dsimp only;omega,fun e=>?_⟩,fun e=>?_,fun e=>?_⟩<;>first|rfl|(dsimp only at e;exact absurd e (by decide))|(dsimp only at e ⊢;omega)
def PtR(gd:Nat)(A:Option Addr)(n c at_:Nat)(ns:Int)(wB:World)(u:Value)(w':World):Prop:=
 ∃(a1:Nat)(pA:Option Nat)(pc:Nat)(pcs:List Value)(l:List In),u=slv pA l.length pc∧Row pA l.length pc 5 (l.flatMap inV) pcs∧1≤l.length∧l.length≤6∧(∀i∈l,InV i ns)∧Mm (own [dk gd A n c at_]) wB [⟨pA,54,pcs⟩,dk gd A n c a1] w'
theorem row_lit{g k s:Nat}{cs:List Value}(h:cs.length=k*s)(hk:k≤1000):Row (some g) k k s cs cs:=
 ⟨(fun e=>by cases e),Nat.le_refl _,by unfold maxLen;omega,h,h,by rw[←h,List.take_length]⟩
theorem alucell(r:Nat)(h:r<8):∃z:Int,(z=3∨z=4∨z=5∨z=9∨z=10∨z=11∨z=13∨z=14)∧([.int .i64 3,.int .i64 4,.int .i64 5,.int .i64 10,.int .i64 13,.int .i64 14,.int .i64 11,.int .i64 9]:List Value)[r]?=some (.int .i64 z):=by
 rcases(by omega:r=0∨r=1∨r=2∨r=3∨r=4∨r=5∨r=6∨r=7)with rfl|rfl|rfl|rfl|rfl|rfl|rfl|rfl
 ·exact⟨3,by omega,rfl⟩
 ·exact⟨4,by omega,rfl⟩
 ·exact⟨5,by omega,rfl⟩
 ·exact⟨10,by omega,rfl⟩
 ·exact⟨13,by omega,rfl⟩
 ·exact⟨14,by omega,rfl⟩
 ·exact⟨11,by omega,rfl⟩
 ·exact⟨9,by omega,rfl⟩
theorem part_c(gd:Nat)(A:Option Addr)(n c at_:Nat)(xs:List Int)(b o m d:Nat)(ss:List Int)(mo at1:Int)(wB:World)(h:Dk gd A n c at_ xs wB)(hl:ss.length=m)(hr:Ro wB b o (ints ss))(hno:¬own [dk gd A n c at_] b)(hss:SzOk ss)(hmo:1≤mo∧mo≤70)(hat:0≤at1∧at1≤70):
  Ret Tryz.prog 79 [pt gd,.slice (some ⟨b,o,none⟩) m d,.int .i64 mo,.int .i64 at1] wB (fun u w'=>PtR gd A n c at_ (m:Int) wB u w'):=by
 obtain⟨s1,s4,sbd⟩:=hss
 have hli:=fun r k w=>li_c r k w
 have hmv:=fun r k w=>mov_c r k w
 have hsy:=fun k w=>sys_c k w
 refine enterR Tryz.func79 rfl rfl rfl fun a hs hm=>?_
 clear hm
 have hm:=h.in_
 refine gsb785_ ?_;clear hs hm a;intros;rename_i a hm hs
 refine st hs rfl rfl rfl (d_call hs rfl rfl rfl (pl 21 rfl) ((nxt_c gd A n c _ xs m _ (h.now hm mem_) (by omega) (by omega)))) ?_;clear hs a;rintro _ w1 ⟨r1,rfl,b1,a1,k1,hf⟩ a hs
 replace hm:=hm.dkt rep_ k1 hf
 clear hf
 have e1:=ints_some (xs:=ss) (k:=r1) (by omega)
 have hs1:=sbd ss[r1] (List.getElem_mem _)
 generalize ss[r1]'(_)=sz at*
 refine gsb785_ ?_;clear hs hm a;intros;rename_i a hm hs
 obtain⟨q,hq⟩:∃q,q=min 5 (sz+1):=⟨_,rfl⟩
 rw[←hq]at hs
 have hq2:1≤q∧q≤5:=by omega
 clear hq
 refine st hs rfl rfl rfl (d_call hs rfl rfl rfl (pl 21 rfl) ((nxt_c gd A n c _ xs q _ (h.now hm mem_) (by omega) (by omega)))) ?_;clear hs a;rintro _ w1 ⟨r2,rfl,b2,a2,k2,hf⟩ a hs
 replace hm:=hm.dkt rep_ k2 hf
 clear hf
 repeat(first|(refine gpPg40_ ?_;clear hs hm a;intros;rename_i a hm hs)|refine sc_ ?_|((with_reducible apply lCons);first|(refine dvc hs hm gw_ rfl rfl rfl rfl rfl (pl 80 rfl) (hli _ _ _) ?_;clear hs hm a;intro w hm a hs)))
 obtain⟨g11,rfl⟩:=hs.qq 11
 refine st hs rfl rfl rfl (d_call hs rfl rfl rfl (pl 21 rfl) ((nxt_c gd A n c _ xs 20 _ (h.now hm mem_) (by omega) (by omega)))) ?_;clear hs a;rintro _ w1 ⟨r3,rfl,b3,a3,k3,hf⟩ a hs
 replace hm:=hm.dkt rep_ k3 hf
 clear hf
 have hbuf:Row (some g11) 2 2 5 ([⟨15,1,0,0,(r1:Int)⟩,⟨1,2,0,0,(r2:Int)⟩].flatMap inV) [.int .i64 15,.int .i64 1,.int .i64 0,.int .i64 0,.int .i64 (r1:Int),.int .i64 1,.int .i64 2,.int .i64 0,.int .i64 0,.int .i64 (r2:Int)]:=row_lit rfl (by omega)
 replace hs:Sl Tryz.f79.ntmps [(0,pt gd),(1,.slice (some ⟨b,o,none⟩) m d),(2,.int .i64 mo),(3,.int .i64 at1),(9,.int .i64 (r1:Int)),(11,.slice (some ⟨g11,0,none⟩) 2 2),(30,.int .i64 (r3:Int))] a:=(sb_ hs)
 replace hm:Mm (own [dk gd A n c at_]) wB [⟨some g11,54,[.int .i64 15,.int .i64 1,.int .i64 0,.int .i64 0,.int .i64 (r1:Int),.int .i64 1,.int .i64 2,.int .i64 0,.int .i64 0,.int .i64 (r2:Int)]⟩,dk gd A n c a3] _:=hm
 rcases(by omega:r3=0∨r3=1∨r3=2∨r3=3∨r3=4∨r3=5∨r3=6∨r3=7∨r3=8∨r3=9∨r3=10∨r3=11∨r3=12∨r3=13∨r3=14∨r3=15∨r3=16∨r3=17∨r3=18∨r3=19)with rfl|rfl|rfl|rfl|rfl|rfl|rfl|rfl|rfl|rfl|rfl|rfl|rfl|rfl|rfl|rfl|rfl|rfl|rfl|rfl
 ·refine gsb785_ ?_;clear hs hm a;intros;rename_i a hm hs
  refine st hs rfl rfl rfl (d_call hs rfl rfl rfl (pl 21 rfl) ((nxt_c gd A n c _ xs 3 _ (h.now hm mem_) (by omega) (by omega)))) ?_;clear hs a;rintro _ w1 ⟨r4,rfl,b4,a4,k4,hf⟩ a hs
  replace hm:=hm.dkt rep_ k4 hf
  clear hf
  refine gsb785_ ?_;clear hs hm a;intros;rename_i a hm hs
  refine st hs rfl rfl rfl (d_call hs rfl rfl rfl (pl 58 rfl) ((wrd_c gd A n c _ xs _ (h.now hm mem_)))) ?_;clear hs a;rintro _ w1 ⟨z,rfl,hz,a5,k5,hf⟩ a hs
  replace hm:=hm.dkt rep_ k5 hf
  clear hf
  refine gsb785_ ?_;clear hs hm a;intros;rename_i a hm hs
  rw[wrap_idP (v:=z) (by omega)]at hs
  refine gcPg41_ ?_;clear hs hm a;intros;rename_i a hm hs
  obtain⟨g8,rfl⟩:=hs.qq 8
  refine gRet1 hs rfl rfl ⟨_,some g8,1,_,[⟨1,3+(r4:Int),0,0,z⟩],rfl,row_lit rfl (by show 1≤1000;omega),by show 1≤1;omega,by show 1≤6;omega,fun i hi=>?_,hm.sub sub_⟩
  simp only[List.mem_cons,List.not_mem_nil,or_false]at hi
  rcases hi with rfl<;>first|exact in_li _ _ (by omega) (by omega)|exact in_lea _ _ (by omega) (by omega) (by omega)|exact in_sys _ (by omega)|exact in_jnz _ _ (by omega) (by omega)|exact in_mov _ _ (by omega) (by omega)|exact in_st _ _ _ (by omega) (by omega) (by omega)|exact in_ld _ _ _ (by omega) (by omega) (by omega)|exact in_alu _ _ _ _ (by omega) (by omega) (by omega) (by omega)
 ·skip
  refine gsb785_ ?_;clear hs hm a;intros;rename_i a hm hs
  refine cMid (fun a w=>∃(g8:Nat)(l:List In)(a9:Nat)(cs:List Value),cs=l.flatMap inV∧l.length=1∧(∀i∈l,InV i (m:Int))∧Sl Tryz.f79.ntmps [(8,.slice (some ⟨g8,0,none⟩) 1 1)] a∧Mm (own [dk gd A n c at_]) wB [⟨some g8,54,cs⟩,dk gd A n c a9] w) ?_ ?_
  ·skip
   refine cDrawT (n:=17) (.s [1,5,8,11]<| .e [(0,.o 2<| .x<| .t 3<| .e [(4,.o 6<| .x<| .t 7<| .o 9<| .x<| .t 10<| .o 12<| .x<| .s [13,14]<| .o 15<| .t 16<| .d),(6,.x<| .t 7<| .e [(4,.o 9<| .x<| .t 10<| .o 12<| .x<| .s [13,14]<| .o 15<| .t 16<| .d),(9,.x<| .t 10<| .e [(4,.o 12<| .x<| .s [13,14]<| .o 15<| .t 16<| .d),(12,.x<| .t 13<| .o 4<| .t 14<| .o 15<| .t 16<| .d)])])]),(2,.x<| .e [(0,.t 3<| .e [(4,.o 6<| .x<| .t 7<| .o 9<| .x<| .t 10<| .o 12<| .x<| .s [13,14]<| .o 15<| .t 16<| .d),(6,.x<| .t 7<| .e [(4,.o 9<| .x<| .t 10<| .o 12<| .x<| .s [13,14]<| .o 15<| .t 16<| .d),(9,.x<| .t 10<| .e [(4,.o 12<| .x<| .s [13,14]<| .o 15<| .t 16<| .d),(12,.x<| .t 13<| .o 4<| .t 14<| .o 15<| .t 16<| .d)])])]),(6,.x<| .t 7<| .e [(0,.t 3<| .e [(4,.o 9<| .x<| .t 10<| .o 12<| .x<| .s [13,14]<| .o 15<| .t 16<| .d),(9,.x<| .t 10<| .e [(4,.o 12<| .x<| .s [13,14]<| .o 15<| .t 16<| .d),(12,.x<| .t 13<| .o 4<| .t 14<| .o 15<| .t 16<| .d)])]),(9,.x<| .t 10<| .e [(0,.t 3<| .e [(4,.o 12<| .x<| .s [13,14]<| .o 15<| .t 16<| .d),(12,.x<| .t 13<| .o 4<| .t 14<| .o 15<| .t 16<| .d)]),(12,.x<| .t 13<| .o 0<| .t 3<| .o 4<| .t 14<| .o 15<| .t 16<| .d)])])])]) [] hm rfl rfl ?_
   clear hm;intro t_ w1_ hm
   repeat' (first|(refine dg2c00_ ?_;clear t_ hs hm a;intros;rename_i a hm hs t_)|refine tE t_ ?_|refine tC ?_ ?_|exact tN|intro t_|(refine oDo (i:=2) hs rfl (Wnt.none rfl) rfl rfl (by exact d_call hs rfl rfl rfl (pl 21 rfl) ((nxt_c gd A n c _ xs 8 _ (h.now hm mem_) (by omega) (by omega)))) ?_;clear hs;rintro _ w1 ⟨r4,rfl,b4,a4,k4,hf⟩ a hs;(replace hm:=hm.dkt rep_ k4 hf);(clear hf);(obtain⟨z,hz,hcell⟩:=alucell r4 (by omega));replace t_:=tX t_;refine⟨(hm.sub sub_),?_⟩)|(refine oDo (i:=6) hs rfl (Wnt.none rfl) rfl rfl (by exact d_call hs rfl rfl rfl (pl 21 rfl) ((nxt_c gd A n c _ xs 3 _ (h.now hm mem_) (by omega) (by omega)))) ?_;clear hs;rintro _ w1 ⟨r5,rfl,b5,a5,k5,hf⟩ a hs;(replace hm:=hm.dkt rep_ k5 hf);(clear hf);replace t_:=tX t_;refine⟨(hm.sub sub_),?_⟩)|(refine oDo (i:=9) hs rfl (Wnt.none rfl) rfl rfl (by exact d_call hs rfl rfl rfl (pl 21 rfl) ((nxt_c gd A n c _ xs 3 _ (h.now hm mem_) (by omega) (by omega)))) ?_;clear hs;rintro _ w1 ⟨r6,rfl,b6,a6,k6,hf⟩ a hs;(replace hm:=hm.dkt rep_ k6 hf);(clear hf);replace t_:=tX t_;refine⟨(hm.sub sub_),?_⟩)|(refine oDo (i:=12) hs rfl (Wnt.none rfl) rfl rfl (by exact d_call hs rfl rfl rfl (pl 21 rfl) ((nxt_c gd A n c _ xs 3 _ (h.now hm mem_) (by omega) (by omega)))) ?_;clear hs;rintro _ w1 ⟨r7,rfl,b7,a7,k7,hf⟩ a hs;(replace hm:=hm.dkt rep_ k7 hf);(clear hf);replace t_:=tX t_;refine⟨(hm.sub sub_),?_⟩)|(refine tD t_ ?_;(obtain⟨g8,rfl⟩:=hs.qq 8);(refine And.intro rfl ⟨g8,[⟨z,3+(r5:Int),3+(r6:Int),3+(r7:Int),0⟩],_,_,rfl,rfl,fun i hi=>?_,(sb_ hs),hm.sub sub_⟩);(simp only[List.mem_cons,List.not_mem_nil,or_false]at hi);(rcases hi with rfl<;>first|exact in_lea _ _ (by omega) (by omega) (by omega)|exact in_st _ _ _ (by omega) (by omega) (by omega)|exact in_ld _ _ _ (by omega) (by omega) (by omega)|exact in_alu _ _ _ _ (by omega) (by omega) (by omega) (by omega)))|fail)
  clear hs hm a
  rintro a w ⟨g8,l,a9,cs,hcs,hln,hiv,hs,hm⟩
  refine gsb785_ ?_;clear hs hm a;intros;rename_i a hm hs
  exact gRet1 hs rfl rfl ⟨a9,some g8,1,cs,l,by rw[hln];rfl,by rw[hln,←hcs];exact row_lit (by rw[hcs,flat_len inV 5 inV_len,hln]) (by omega),by omega,by omega,hiv,hm⟩
 ·skip
  refine gcPg41_ ?_;clear hs hm a;intros;rename_i a hm hs
  obtain⟨g8,rfl⟩:=hs.qq 8
  refine gRet1 hs rfl rfl ⟨_,some g8,1,_,[⟨15,6,0,0,(r1:Int)⟩],rfl,row_lit rfl (by show 1≤1000;omega),by show 1≤1;omega,by show 1≤6;omega,fun i hi=>?_,hm.sub sub_⟩
  simp only[List.mem_cons,List.not_mem_nil,or_false]at hi
  rcases hi with rfl<;>first|exact in_li _ _ (by omega) (by omega)|exact in_lea _ _ (by omega) (by omega) (by omega)|exact in_sys _ (by omega)|exact in_jnz _ _ (by omega) (by omega)|exact in_mov _ _ (by omega) (by omega)|exact in_st _ _ _ (by omega) (by omega) (by omega)|exact in_ld _ _ _ (by omega) (by omega) (by omega)|exact in_alu _ _ _ _ (by omega) (by omega) (by omega) (by omega)
 ·skip
  refine gsb785_ ?_;clear hs hm a;intros;rename_i a hm hs
  refine cMid (fun a w=>∃(g8:Nat)(l:List In)(a9:Nat)(cs:List Value),cs=l.flatMap inV∧l.length=2∧(∀i∈l,InV i (m:Int))∧Sl Tryz.f79.ntmps [(8,.slice (some ⟨g8,0,none⟩) 2 2)] a∧Mm (own [dk gd A n c at_]) wB [⟨some g8,54,cs⟩,dk gd A n c a9] w) ?_ ?_
  ·skip
   refine cDrawT (n:=14) (.s [0,1,2,5,6,7,8,9]<| .o 3<| .x<| .t 4<| .o 10<| .x<| .t 11<| .o 12<| .t 13<| .d) [] hm rfl rfl ?_
   clear hm;intro t_ w1_ hm
   repeat' (first|(refine dg2c00_ ?_;clear t_ hs hm a;intros;rename_i a hm hs t_)|refine tE t_ ?_|refine tC ?_ ?_|exact tN|intro t_|(refine oDo (i:=3) hs rfl (Wnt.none rfl) rfl rfl (by exact d_call hs rfl rfl rfl (pl 21 rfl) ((nxt_c gd A n c _ xs 5 _ (h.now hm mem_) (by omega) (by omega)))) ?_;clear hs;rintro _ w1 ⟨r4,rfl,b4,a4,k4,hf⟩ a hs;(replace hm:=hm.dkt rep_ k4 hf);(clear hf);replace t_:=tX t_;refine⟨(hm.sub sub_),?_⟩)|(refine oDo (i:=10) hs rfl (Wnt.none rfl) rfl rfl (by exact d_call hs rfl rfl rfl (pl 21 rfl) ((nxt_c gd A n c _ xs sz _ (h.now hm mem_) (by omega) (by omega)))) ?_;clear hs;rintro _ w1 ⟨r5,rfl,b5,a5,k5,hf⟩ a hs;(replace hm:=hm.dkt rep_ k5 hf);(clear hf);replace t_:=tX t_;refine⟨(hm.sub sub_),?_⟩)|(refine tD t_ ?_;(obtain⟨g8,rfl⟩:=hs.qq 8);(refine And.intro rfl ⟨g8,[⟨15,6,0,0,(r1:Int)⟩,⟨17,6,3+(r4:Int),0,(r5:Int)⟩],_,_,rfl,rfl,fun i hi=>?_,(sb_ hs),hm.sub sub_⟩);(simp only[List.mem_cons,List.not_mem_nil,or_false]at hi);(rcases hi with rfl|rfl<;>first|exact in_lea _ _ (by omega) (by omega) (by omega)|exact in_st _ _ _ (by omega) (by omega) (by omega)|exact in_ld _ _ _ (by omega) (by omega) (by omega)|exact in_alu _ _ _ _ (by omega) (by omega) (by omega) (by omega)))|fail)
  clear hs hm a
  rintro a w ⟨g8,l,a9,cs,hcs,hln,hiv,hs,hm⟩
  refine gsb785_ ?_;clear hs hm a;intros;rename_i a hm hs
  exact zdde0_
 ·skip
  refine gsb785_ ?_;clear hs hm a;intros;rename_i a hm hs
  refine cMid (fun a w=>∃(g8:Nat)(l:List In)(a9:Nat)(cs:List Value),cs=l.flatMap inV∧l.length=2∧(∀i∈l,InV i (m:Int))∧Sl Tryz.f79.ntmps [(8,.slice (some ⟨g8,0,none⟩) 2 2)] a∧Mm (own [dk gd A n c at_]) wB [⟨some g8,54,cs⟩,dk gd A n c a9] w) ?_ ?_
  ·skip
   refine cDrawT (n:=14) (.s [0,1,2,5,6,7,8,9]<| .o 3<| .x<| .t 4<| .o 10<| .x<| .t 11<| .o 12<| .t 13<| .d) [] hm rfl rfl ?_
   clear hm;intro t_ w1_ hm
   repeat' (first|(refine dg2c00_ ?_;clear t_ hs hm a;intros;rename_i a hm hs t_)|refine tE t_ ?_|refine tC ?_ ?_|exact tN|intro t_|(refine oDo (i:=3) hs rfl (Wnt.none rfl) rfl rfl (by exact d_call hs rfl rfl rfl (pl 21 rfl) ((nxt_c gd A n c _ xs 5 _ (h.now hm mem_) (by omega) (by omega)))) ?_;clear hs;rintro _ w1 ⟨r4,rfl,b4,a4,k4,hf⟩ a hs;(replace hm:=hm.dkt rep_ k4 hf);(clear hf);replace t_:=tX t_;refine⟨(hm.sub sub_),?_⟩)|(refine oDo (i:=10) hs rfl (Wnt.none rfl) rfl rfl (by exact d_call hs rfl rfl rfl (pl 21 rfl) ((nxt_c gd A n c _ xs sz _ (h.now hm mem_) (by omega) (by omega)))) ?_;clear hs;rintro _ w1 ⟨r5,rfl,b5,a5,k5,hf⟩ a hs;(replace hm:=hm.dkt rep_ k5 hf);(clear hf);replace t_:=tX t_;refine⟨(hm.sub sub_),?_⟩)|(refine tD t_ ?_;(obtain⟨g8,rfl⟩:=hs.qq 8);(refine And.intro rfl ⟨g8,[⟨15,6,0,0,(r1:Int)⟩,⟨17,6,3+(r4:Int),0,(r5:Int)⟩],_,_,rfl,rfl,fun i hi=>?_,(sb_ hs),hm.sub sub_⟩);(simp only[List.mem_cons,List.not_mem_nil,or_false]at hi);(rcases hi with rfl|rfl<;>first|exact in_lea _ _ (by omega) (by omega) (by omega)|exact in_st _ _ _ (by omega) (by omega) (by omega)|exact in_ld _ _ _ (by omega) (by omega) (by omega)|exact in_alu _ _ _ _ (by omega) (by omega) (by omega) (by omega)))|fail)
  clear hs hm a
  rintro a w ⟨g8,l,a9,cs,hcs,hln,hiv,hs,hm⟩
  refine gsb785_ ?_;clear hs hm a;intros;rename_i a hm hs
  exact zdde0_
 ·skip
  refine gsb785_ ?_;clear hs hm a;intros;rename_i a hm hs
  refine cMid (fun a w=>∃(g8:Nat)(l:List In)(a9:Nat)(cs:List Value),cs=l.flatMap inV∧l.length=2∧(∀i∈l,InV i (m:Int))∧Sl Tryz.f79.ntmps [(8,.slice (some ⟨g8,0,none⟩) 2 2)] a∧Mm (own [dk gd A n c at_]) wB [⟨some g8,54,cs⟩,dk gd A n c a9] w) ?_ ?_
  ·skip
   refine cDrawT (n:=14) (.s [0,1,2,5,6,7,8,9]<| .o 3<| .x<| .t 4<| .o 10<| .x<| .t 11<| .o 12<| .t 13<| .d) [] hm rfl rfl ?_
   clear hm;intro t_ w1_ hm
   repeat' (first|(refine dg2c00_ ?_;clear t_ hs hm a;intros;rename_i a hm hs t_)|refine tE t_ ?_|refine tC ?_ ?_|exact tN|intro t_|(refine oDo (i:=3) hs rfl (Wnt.none rfl) rfl rfl (by exact d_call hs rfl rfl rfl (pl 21 rfl) ((nxt_c gd A n c _ xs 4 _ (h.now hm mem_) (by omega) (by omega)))) ?_;clear hs;rintro _ w1 ⟨r4,rfl,b4,a4,k4,hf⟩ a hs;(replace hm:=hm.dkt rep_ k4 hf);(clear hf);replace t_:=tX t_;refine⟨(hm.sub sub_),?_⟩)|(refine oDo (i:=10) hs rfl (Wnt.none rfl) rfl rfl (by exact d_call hs rfl rfl rfl (pl 21 rfl) ((nxt_c gd A n c _ xs sz _ (h.now hm mem_) (by omega) (by omega)))) ?_;clear hs;rintro _ w1 ⟨r5,rfl,b5,a5,k5,hf⟩ a hs;(replace hm:=hm.dkt rep_ k5 hf);(clear hf);replace t_:=tX t_;refine⟨(hm.sub sub_),?_⟩)|(refine tD t_ ?_;(obtain⟨g8,rfl⟩:=hs.qq 8);(refine And.intro rfl ⟨g8,[⟨15,6,0,0,(r1:Int)⟩,⟨16,3+(r4:Int),6,0,(r5:Int)⟩],_,_,rfl,rfl,fun i hi=>?_,(sb_ hs),hm.sub sub_⟩);(simp only[List.mem_cons,List.not_mem_nil,or_false]at hi);(rcases hi with rfl|rfl<;>first|exact in_lea _ _ (by omega) (by omega) (by omega)|exact in_st _ _ _ (by omega) (by omega) (by omega)|exact in_ld _ _ _ (by omega) (by omega) (by omega)|exact in_alu _ _ _ _ (by omega) (by omega) (by omega) (by omega)))|fail)
  clear hs hm a
  rintro a w ⟨g8,l,a9,cs,hcs,hln,hiv,hs,hm⟩
  refine gsb785_ ?_;clear hs hm a;intros;rename_i a hm hs
  exact zdde0_
 ·skip
  refine gsb785_ ?_;clear hs hm a;intros;rename_i a hm hs
  refine cMid (fun a w=>∃(g8:Nat)(l:List In)(a9:Nat)(cs:List Value),cs=l.flatMap inV∧l.length=2∧(∀i∈l,InV i (m:Int))∧Sl Tryz.f79.ntmps [(8,.slice (some ⟨g8,0,none⟩) 2 2)] a∧Mm (own [dk gd A n c at_]) wB [⟨some g8,54,cs⟩,dk gd A n c a9] w) ?_ ?_
  ·skip
   refine cDrawT (n:=14) (.s [0,1,2,5,6,7,8,9]<| .o 3<| .x<| .t 4<| .o 10<| .x<| .t 11<| .o 12<| .t 13<| .d) [] hm rfl rfl ?_
   clear hm;intro t_ w1_ hm
   repeat' (first|(refine dg2c00_ ?_;clear t_ hs hm a;intros;rename_i a hm hs t_)|refine tE t_ ?_|refine tC ?_ ?_|exact tN|intro t_|(refine oDo (i:=3) hs rfl (Wnt.none rfl) rfl rfl (by exact d_call hs rfl rfl rfl (pl 21 rfl) ((nxt_c gd A n c _ xs 4 _ (h.now hm mem_) (by omega) (by omega)))) ?_;clear hs;rintro _ w1 ⟨r4,rfl,b4,a4,k4,hf⟩ a hs;(replace hm:=hm.dkt rep_ k4 hf);(clear hf);replace t_:=tX t_;refine⟨(hm.sub sub_),?_⟩)|(refine oDo (i:=10) hs rfl (Wnt.none rfl) rfl rfl (by exact d_call hs rfl rfl rfl (pl 21 rfl) ((nxt_c gd A n c _ xs sz _ (h.now hm mem_) (by omega) (by omega)))) ?_;clear hs;rintro _ w1 ⟨r5,rfl,b5,a5,k5,hf⟩ a hs;(replace hm:=hm.dkt rep_ k5 hf);(clear hf);replace t_:=tX t_;refine⟨(hm.sub sub_),?_⟩)|(refine tD t_ ?_;(obtain⟨g8,rfl⟩:=hs.qq 8);(refine And.intro rfl ⟨g8,[⟨15,6,0,0,(r1:Int)⟩,⟨16,3+(r4:Int),6,0,(r5:Int)⟩],_,_,rfl,rfl,fun i hi=>?_,(sb_ hs),hm.sub sub_⟩);(simp only[List.mem_cons,List.not_mem_nil,or_false]at hi);(rcases hi with rfl|rfl<;>first|exact in_lea _ _ (by omega) (by omega) (by omega)|exact in_st _ _ _ (by omega) (by omega) (by omega)|exact in_ld _ _ _ (by omega) (by omega) (by omega)|exact in_alu _ _ _ _ (by omega) (by omega) (by omega) (by omega)))|fail)
  clear hs hm a
  rintro a w ⟨g8,l,a9,cs,hcs,hln,hiv,hs,hm⟩
  refine gsb785_ ?_;clear hs hm a;intros;rename_i a hm hs
  exact zdde0_
 ·skip
  refine gcPg41_ ?_;clear hs hm a;intros;rename_i a hm hs
  refine st hs rfl rfl rfl (d_call hs rfl rfl rfl (pl 21 rfl) ((nxt_c gd A n c _ xs 3 _ (h.now hm mem_) (by omega) (by omega)))) ?_;clear hs a;rintro _ w1 ⟨r4,rfl,b4,a4,k4,hf⟩ a hs
  replace hm:=hm.dkt rep_ k4 hf
  clear hf
  refine gcPg41_ ?_;clear hs hm a;intros;rename_i a hm hs
  obtain⟨g0,rfl⟩:=hs.qq 102
  refine dv hs (Wnt.none rfl) rfl rfl (d_append (A:=some g0) (n:=1) (c:=1) hs rfl rfl rfl rfl rfl tab rfl rfl rfl rfl rfl hm mem_ (row_lit rfl (by omega)) rfl (hm.ro (n:=10) mem_ (cutF_ok rfl)) rfl (by show(1+2)*40≤_;omega) (by omega)) ?_
  clear hs
  rintro _ w2 ⟨A1,c1,cs1,rfl,hr1,hM⟩ a hs
  replace hm:=hM _ rep_
  clear hM
  refine gcPg41_ ?_;clear hs hm a;intros;rename_i a hm hs
  refine dv hs (Wnt.none rfl) rfl rfl (d_append (A:=A1) (n:=1+2) (c:=c1) hs rfl rfl rfl rfl rfl tab rfl rfl rfl rfl rfl hm mem_ hr1 rfl (hm.ro (n:=5) mem_ (cutF_ok rfl)) rfl (by show(1+2+1)*40≤_;omega) (by omega)) ?_
  clear hs
  rintro _ w2 ⟨A2,c2,cs2,rfl,hr2,hM⟩ a hs
  replace hm:=hM _ rep_
  clear hM
  refine gcPg41_ ?_;clear hs hm a;intros;rename_i a hm hs
  refine gRet1 hs rfl rfl ⟨_,A2,_,_,[⟨1,0,0,0,(r4:Int)⟩,⟨15,1,0,0,(r1:Int)⟩,⟨1,2,0,0,(r2:Int)⟩,⟨23,0,0,0,13⟩],rfl,hr2,by show 1≤4;omega,by show 4≤6;omega,fun i hi=>?_,hm.sub sub_⟩
  simp only[List.mem_cons,List.not_mem_nil,or_false]at hi
  rcases hi with rfl|rfl|rfl|rfl<;>first|exact in_li _ _ (by omega) (by omega)|exact in_lea _ _ (by omega) (by omega) (by omega)|exact in_sys _ (by omega)|exact in_jnz _ _ (by omega) (by omega)|exact in_mov _ _ (by omega) (by omega)
 ·skip
  refine gcPg41_ ?_;clear hs hm a;intros;rename_i a hm hs
  refine st hs rfl rfl rfl (d_call hs rfl rfl rfl (pl 21 rfl) ((nxt_c gd A n c _ xs 3 _ (h.now hm mem_) (by omega) (by omega)))) ?_;clear hs a;rintro _ w1 ⟨r4,rfl,b4,a4,k4,hf⟩ a hs
  replace hm:=hm.dkt rep_ k4 hf
  clear hf
  refine gcPg41_ ?_;clear hs hm a;intros;rename_i a hm hs
  obtain⟨g0,rfl⟩:=hs.qq 102
  refine dv hs (Wnt.none rfl) rfl rfl (d_append (A:=some g0) (n:=1) (c:=1) hs rfl rfl rfl rfl rfl tab rfl rfl rfl rfl rfl hm mem_ (row_lit rfl (by omega)) rfl (hm.ro (n:=10) mem_ (cutF_ok rfl)) rfl (by show(1+2)*40≤_;omega) (by omega)) ?_
  clear hs
  rintro _ w2 ⟨A1,c1,cs1,rfl,hr1,hM⟩ a hs
  replace hm:=hM _ rep_
  clear hM
  refine gcPg41_ ?_;clear hs hm a;intros;rename_i a hm hs
  refine dv hs (Wnt.none rfl) rfl rfl (d_append (A:=A1) (n:=1+2) (c:=c1) hs rfl rfl rfl rfl rfl tab rfl rfl rfl rfl rfl hm mem_ hr1 rfl (hm.ro (n:=5) mem_ (cutF_ok rfl)) rfl (by show(1+2+1)*40≤_;omega) (by omega)) ?_
  clear hs
  rintro _ w2 ⟨A2,c2,cs2,rfl,hr2,hM⟩ a hs
  replace hm:=hM _ rep_
  clear hM
  refine gcPg41_ ?_;clear hs hm a;intros;rename_i a hm hs
  refine gRet1 hs rfl rfl ⟨_,A2,_,_,[⟨1,0,0,0,(r4:Int)⟩,⟨15,1,0,0,(r1:Int)⟩,⟨1,2,0,0,(r2:Int)⟩,⟨23,0,0,0,13⟩],rfl,hr2,by show 1≤4;omega,by show 4≤6;omega,fun i hi=>?_,hm.sub sub_⟩
  simp only[List.mem_cons,List.not_mem_nil,or_false]at hi
  rcases hi with rfl|rfl|rfl|rfl<;>first|exact in_li _ _ (by omega) (by omega)|exact in_lea _ _ (by omega) (by omega) (by omega)|exact in_sys _ (by omega)|exact in_jnz _ _ (by omega) (by omega)|exact in_mov _ _ (by omega) (by omega)
 ·skip
  refine gcPg41_ ?_;clear hs hm a;intros;rename_i a hm hs
  refine st hs rfl rfl rfl (d_call hs rfl rfl rfl (pl 21 rfl) ((nxt_c gd A n c _ xs 3 _ (h.now hm mem_) (by omega) (by omega)))) ?_;clear hs a;rintro _ w1 ⟨r4,rfl,b4,a4,k4,hf⟩ a hs
  replace hm:=hm.dkt rep_ k4 hf
  clear hf
  refine gcPg41_ ?_;clear hs hm a;intros;rename_i a hm hs
  obtain⟨g0,rfl⟩:=hs.qq 113
  refine dv hs (Wnt.none rfl) rfl rfl (d_append (A:=some g0) (n:=1) (c:=1) hs rfl rfl rfl rfl rfl tab rfl rfl rfl rfl rfl hm mem_ (row_lit rfl (by omega)) rfl (hm.ro (n:=10) mem_ (cutF_ok rfl)) rfl (by show(1+2)*40≤_;omega) (by omega)) ?_
  clear hs
  rintro _ w2 ⟨A1,c1,cs1,rfl,hr1,hM⟩ a hs
  replace hm:=hM _ rep_
  clear hM
  refine gcPg41_ ?_;clear hs hm a;intros;rename_i a hm hs
  refine dv hs (Wnt.none rfl) rfl rfl (d_append (A:=A1) (n:=1+2) (c:=c1) hs rfl rfl rfl rfl rfl tab rfl rfl rfl rfl rfl hm mem_ hr1 rfl (hm.ro (n:=10) mem_ (cutF_ok rfl)) rfl (by show(1+2+2)*40≤_;omega) (by omega)) ?_
  clear hs
  rintro _ w2 ⟨A2,c2,cs2,rfl,hr2,hM⟩ a hs
  replace hm:=hM _ rep_
  clear hM
  refine gcPg41_ ?_;clear hs hm a;intros;rename_i a hm hs
  refine gRet1 hs rfl rfl ⟨_,A2,_,_,[⟨1,0,0,0,(r4:Int)⟩,⟨15,1,0,0,(r1:Int)⟩,⟨1,2,0,0,(r2:Int)⟩,⟨23,0,0,0,14⟩,⟨2,3,0,0,0⟩],rfl,hr2,by show 1≤5;omega,by show 5≤6;omega,fun i hi=>?_,hm.sub sub_⟩
  simp only[List.mem_cons,List.not_mem_nil,or_false]at hi
  rcases hi with rfl|rfl|rfl|rfl|rfl<;>first|exact in_li _ _ (by omega) (by omega)|exact in_lea _ _ (by omega) (by omega) (by omega)|exact in_sys _ (by omega)|exact in_jnz _ _ (by omega) (by omega)|exact in_mov _ _ (by omega) (by omega)
 ·skip
  refine gcPg41_ ?_;clear hs hm a;intros;rename_i a hm hs
  refine st hs rfl rfl rfl (d_call hs rfl rfl rfl (pl 21 rfl) ((nxt_c gd A n c _ xs 3 _ (h.now hm mem_) (by omega) (by omega)))) ?_;clear hs a;rintro _ w1 ⟨r4,rfl,b4,a4,k4,hf⟩ a hs
  replace hm:=hm.dkt rep_ k4 hf
  clear hf
  refine gcPg41_ ?_;clear hs hm a;intros;rename_i a hm hs
  refine st hs rfl rfl rfl (d_call hs rfl rfl rfl (pl 21 rfl) ((nxt_c gd A n c _ xs 4 _ (h.now hm mem_) (by omega) (by omega)))) ?_;clear hs a;rintro _ w1 ⟨r5,rfl,b5,a5,k5,hf⟩ a hs
  replace hm:=hm.dkt rep_ k5 hf
  clear hf
  refine gcPg41_ ?_;clear hs hm a;intros;rename_i a hm hs
  obtain⟨g8,rfl⟩:=hs.qq 8
  refine gRet1 hs rfl rfl ⟨_,some g8,4,_,[⟨1,0,0,0,(r4:Int)⟩,⟨1,1,0,0,(r5:Int)⟩,⟨23,0,0,0,3⟩,⟨2,7,0,0,0⟩],rfl,row_lit rfl (by show 4≤1000;omega),by show 1≤4;omega,by show 4≤6;omega,fun i hi=>?_,hm.sub sub_⟩
  simp only[List.mem_cons,List.not_mem_nil,or_false]at hi
  rcases hi with rfl|rfl|rfl|rfl<;>first|exact in_li _ _ (by omega) (by omega)|exact in_lea _ _ (by omega) (by omega) (by omega)|exact in_sys _ (by omega)|exact in_jnz _ _ (by omega) (by omega)|exact in_mov _ _ (by omega) (by omega)|exact in_st _ _ _ (by omega) (by omega) (by omega)|exact in_ld _ _ _ (by omega) (by omega) (by omega)|exact in_alu _ _ _ _ (by omega) (by omega) (by omega) (by omega)
 ·skip
  refine gcPg41_ ?_;clear hs hm a;intros;rename_i a hm hs
  obtain⟨g0,rfl⟩:=hs.qq 134
  refine dv hs (Wnt.none rfl) rfl rfl (d_append (A:=some g0) (n:=1) (c:=1) hs rfl rfl rfl rfl rfl tab rfl rfl rfl rfl rfl hm mem_ (row_lit rfl (by omega)) rfl (hm.ro (n:=10) mem_ (cutF_ok rfl)) rfl (by show(1+2)*40≤_;omega) (by omega)) ?_
  clear hs
  rintro _ w2 ⟨A1,c1,cs1,rfl,hr1,hM⟩ a hs
  replace hm:=hM _ rep_
  clear hM
  refine gcPg41_ ?_;clear hs hm a;intros;rename_i a hm hs
  refine st hs rfl rfl rfl (d_call hs rfl rfl rfl (pl 21 rfl) ((nxt_c gd A n c _ xs 2 _ (h.now hm mem_) (by omega) (by omega)))) ?_;clear hs a;rintro _ w1 ⟨r4,rfl,b4,a4,k4,hf⟩ a hs
  replace hm:=hm.dkt rep_ k4 hf
  clear hf
  rcases(by omega:r4=0∨r4=1)with rfl|rfl
  ·skip
   refine gcPg41_ ?_;clear hs hm a;intros;rename_i a hm hs
   refine dv hs (Wnt.none rfl) rfl rfl (d_append (A:=A1) (n:=1+2) (c:=c1) hs rfl rfl rfl rfl rfl tab rfl rfl rfl rfl rfl hm mem_ hr1 rfl (hm.ro (n:=5) mem_ (cutF_ok rfl)) rfl (by show(1+2+1)*40≤_;omega) (by omega)) ?_
   clear hs
   rintro _ w2 ⟨A2,c2,cs2,rfl,hr2,hM⟩ a hs
   replace hm:=hM _ rep_
   clear hM
   refine gcPg41_ ?_;clear hs hm a;intros;rename_i a hm hs
   refine gRet1 hs rfl rfl ⟨_,A2,_,_,[⟨2,0,7,0,0⟩,⟨15,1,0,0,(r1:Int)⟩,⟨1,2,0,0,(r2:Int)⟩,⟨23,0,0,0,1⟩],rfl,hr2,by show 1≤4;omega,by show 4≤6;omega,fun i hi=>?_,hm.sub sub_⟩
   simp only[List.mem_cons,List.not_mem_nil,or_false]at hi
   rcases hi with rfl|rfl|rfl|rfl<;>first|exact in_li _ _ (by omega) (by omega)|exact in_lea _ _ (by omega) (by omega) (by omega)|exact in_sys _ (by omega)|exact in_jnz _ _ (by omega) (by omega)|exact in_mov _ _ (by omega) (by omega)
  ·skip
   refine gcPg41_ ?_;clear hs hm a;intros;rename_i a hm hs
   refine dv hs (Wnt.none rfl) rfl rfl (d_append (A:=A1) (n:=1+2) (c:=c1) hs rfl rfl rfl rfl rfl tab rfl rfl rfl rfl rfl hm mem_ hr1 rfl (hm.ro (n:=5) mem_ (cutF_ok rfl)) rfl (by show(1+2+1)*40≤_;omega) (by omega)) ?_
   clear hs
   rintro _ w2 ⟨A2,c2,cs2,rfl,hr2,hM⟩ a hs
   replace hm:=hM _ rep_
   clear hM
   refine gcPg41_ ?_;clear hs hm a;intros;rename_i a hm hs
   refine gRet1 hs rfl rfl ⟨_,A2,_,_,[⟨2,0,7,0,0⟩,⟨15,1,0,0,(r1:Int)⟩,⟨1,2,0,0,(r2:Int)⟩,⟨23,0,0,0,2⟩],rfl,hr2,by show 1≤4;omega,by show 4≤6;omega,fun i hi=>?_,hm.sub sub_⟩
   simp only[List.mem_cons,List.not_mem_nil,or_false]at hi
   rcases hi with rfl|rfl|rfl|rfl<;>first|exact in_li _ _ (by omega) (by omega)|exact in_lea _ _ (by omega) (by omega) (by omega)|exact in_sys _ (by omega)|exact in_jnz _ _ (by omega) (by omega)|exact in_mov _ _ (by omega) (by omega)
 ·skip
  refine gcPg41_ ?_;clear hs hm a;intros;rename_i a hm hs
  refine st hs rfl rfl rfl (d_call hs rfl rfl rfl (pl 21 rfl) ((nxt_c gd A n c _ xs 4 _ (h.now hm mem_) (by omega) (by omega)))) ?_;clear hs a;rintro _ w1 ⟨r4,rfl,b4,a4,k4,hf⟩ a hs
  replace hm:=hm.dkt rep_ k4 hf
  clear hf
  refine gcPg41_ ?_;clear hs hm a;intros;rename_i a hm hs
  refine st hs rfl rfl rfl (d_call hs rfl rfl rfl (pl 21 rfl) ((nxt_c gd A n c _ xs 2 _ (h.now hm mem_) (by omega) (by omega)))) ?_;clear hs a;rintro _ w1 ⟨r5,rfl,b5,a5,k5,hf⟩ a hs
  replace hm:=hm.dkt rep_ k5 hf
  clear hf
  rcases(by omega:r5=0∨r5=1)with rfl|rfl
  ·skip
   refine gcPg41_ ?_;clear hs hm a;intros;rename_i a hm hs
   obtain⟨g8,rfl⟩:=hs.qq 8
   refine gRet1 hs rfl rfl ⟨_,some g8,2,_,[⟨2,0,7,0,0⟩,⟨23,0,0,0,4⟩],rfl,row_lit rfl (by show 2≤1000;omega),by show 1≤2;omega,by show 2≤6;omega,fun i hi=>?_,hm.sub sub_⟩
   simp only[List.mem_cons,List.not_mem_nil,or_false]at hi
   rcases hi with rfl|rfl<;>first|exact in_li _ _ (by omega) (by omega)|exact in_lea _ _ (by omega) (by omega) (by omega)|exact in_sys _ (by omega)|exact in_jnz _ _ (by omega) (by omega)|exact in_mov _ _ (by omega) (by omega)|exact in_st _ _ _ (by omega) (by omega) (by omega)|exact in_ld _ _ _ (by omega) (by omega) (by omega)|exact in_alu _ _ _ _ (by omega) (by omega) (by omega) (by omega)
  ·skip
   refine gcPg41_ ?_;clear hs hm a;intros;rename_i a hm hs
   obtain⟨g8,rfl⟩:=hs.qq 8
   refine gRet1 hs rfl rfl ⟨_,some g8,3,_,[⟨2,0,7,0,0⟩,⟨1,1,0,0,(r4:Int)⟩,⟨23,0,0,0,5⟩],rfl,row_lit rfl (by show 3≤1000;omega),by show 1≤3;omega,by show 3≤6;omega,fun i hi=>?_,hm.sub sub_⟩
   simp only[List.mem_cons,List.not_mem_nil,or_false]at hi
   rcases hi with rfl|rfl|rfl<;>first|exact in_li _ _ (by omega) (by omega)|exact in_lea _ _ (by omega) (by omega) (by omega)|exact in_sys _ (by omega)|exact in_jnz _ _ (by omega) (by omega)|exact in_mov _ _ (by omega) (by omega)|exact in_st _ _ _ (by omega) (by omega) (by omega)|exact in_ld _ _ _ (by omega) (by omega) (by omega)|exact in_alu _ _ _ _ (by omega) (by omega) (by omega) (by omega)
 ·skip
  refine gcPg41_ ?_;clear hs hm a;intros;rename_i a hm hs
  refine st hs rfl rfl rfl (d_call hs rfl rfl rfl (pl 21 rfl) ((nxt_c gd A n c _ xs 3 _ (h.now hm mem_) (by omega) (by omega)))) ?_;clear hs a;rintro _ w1 ⟨r4,rfl,b4,a4,k4,hf⟩ a hs
  replace hm:=hm.dkt rep_ k4 hf
  clear hf
  rcases(by omega:r4=0∨r4=1∨r4=2)with rfl|rfl|rfl
  ·skip
   refine gcPg41_ ?_;clear hs hm a;intros;rename_i a hm hs
   refine st hs rfl rfl rfl (d_call hs rfl rfl rfl (pl 21 rfl) ((nxt_c gd A n c _ xs 3 _ (h.now hm mem_) (by omega) (by omega)))) ?_;clear hs a;rintro _ w1 ⟨r5,rfl,b5,a5,k5,hf⟩ a hs
   replace hm:=hm.dkt rep_ k5 hf
   clear hf
   refine gcPg41_ ?_;clear hs hm a;intros;rename_i a hm hs
   obtain⟨g8,rfl⟩:=hs.qq 8
   refine gRet1 hs rfl rfl ⟨_,some g8,2,_,[⟨23,0,0,0,6⟩,⟨2,3+(r5:Int),0,0,0⟩],rfl,row_lit rfl (by show 2≤1000;omega),by show 1≤2;omega,by show 2≤6;omega,fun i hi=>?_,hm.sub sub_⟩
   simp only[List.mem_cons,List.not_mem_nil,or_false]at hi
   rcases hi with rfl|rfl<;>first|exact in_li _ _ (by omega) (by omega)|exact in_lea _ _ (by omega) (by omega) (by omega)|exact in_sys _ (by omega)|exact in_jnz _ _ (by omega) (by omega)|exact in_mov _ _ (by omega) (by omega)|exact in_st _ _ _ (by omega) (by omega) (by omega)|exact in_ld _ _ _ (by omega) (by omega) (by omega)|exact in_alu _ _ _ _ (by omega) (by omega) (by omega) (by omega)
  ·skip
   refine gcPg41_ ?_;clear hs hm a;intros;rename_i a hm hs
   refine st hs rfl rfl rfl (d_call hs rfl rfl rfl (pl 21 rfl) ((nxt_c gd A n c _ xs 3 _ (h.now hm mem_) (by omega) (by omega)))) ?_;clear hs a;rintro _ w1 ⟨r5,rfl,b5,a5,k5,hf⟩ a hs
   replace hm:=hm.dkt rep_ k5 hf
   clear hf
   refine gcPg41_ ?_;clear hs hm a;intros;rename_i a hm hs
   obtain⟨g8,rfl⟩:=hs.qq 8
   refine gRet1 hs rfl rfl ⟨_,some g8,2,_,[⟨23,0,0,0,7⟩,⟨2,3+(r5:Int),0,0,0⟩],rfl,row_lit rfl (by show 2≤1000;omega),by show 1≤2;omega,by show 2≤6;omega,fun i hi=>?_,hm.sub sub_⟩
   simp only[List.mem_cons,List.not_mem_nil,or_false]at hi
   rcases hi with rfl|rfl<;>first|exact in_li _ _ (by omega) (by omega)|exact in_lea _ _ (by omega) (by omega) (by omega)|exact in_sys _ (by omega)|exact in_jnz _ _ (by omega) (by omega)|exact in_mov _ _ (by omega) (by omega)|exact in_st _ _ _ (by omega) (by omega) (by omega)|exact in_ld _ _ _ (by omega) (by omega) (by omega)|exact in_alu _ _ _ _ (by omega) (by omega) (by omega) (by omega)
  ·skip
   refine gcPg41_ ?_;clear hs hm a;intros;rename_i a hm hs
   refine st hs rfl rfl rfl (d_call hs rfl rfl rfl (pl 21 rfl) ((nxt_c gd A n c _ xs 3 _ (h.now hm mem_) (by omega) (by omega)))) ?_;clear hs a;rintro _ w1 ⟨r5,rfl,b5,a5,k5,hf⟩ a hs
   replace hm:=hm.dkt rep_ k5 hf
   clear hf
   refine gcPg41_ ?_;clear hs hm a;intros;rename_i a hm hs
   obtain⟨g8,rfl⟩:=hs.qq 8
   refine gRet1 hs rfl rfl ⟨_,some g8,2,_,[⟨23,0,0,0,15⟩,⟨2,3+(r5:Int),0,0,0⟩],rfl,row_lit rfl (by show 2≤1000;omega),by show 1≤2;omega,by show 2≤6;omega,fun i hi=>?_,hm.sub sub_⟩
   simp only[List.mem_cons,List.not_mem_nil,or_false]at hi
   rcases hi with rfl|rfl<;>first|exact in_li _ _ (by omega) (by omega)|exact in_lea _ _ (by omega) (by omega) (by omega)|exact in_sys _ (by omega)|exact in_jnz _ _ (by omega) (by omega)|exact in_mov _ _ (by omega) (by omega)|exact in_st _ _ _ (by omega) (by omega) (by omega)|exact in_ld _ _ _ (by omega) (by omega) (by omega)|exact in_alu _ _ _ _ (by omega) (by omega) (by omega) (by omega)
 ·skip
  refine gcPg41_ ?_;clear hs hm a;intros;rename_i a hm hs
  refine st hs rfl rfl rfl (d_call hs rfl rfl rfl (pl 21 rfl) ((nxt_c gd A n c _ xs 3 _ (h.now hm mem_) (by omega) (by omega)))) ?_;clear hs a;rintro _ w1 ⟨r4,rfl,b4,a4,k4,hf⟩ a hs
  replace hm:=hm.dkt rep_ k4 hf
  clear hf
  refine gcPg41_ ?_;clear hs hm a;intros;rename_i a hm hs
  refine st hs rfl rfl rfl (d_call hs rfl rfl rfl (pl 21 rfl) ((nxt_c gd A n c _ xs 2 _ (h.now hm mem_) (by omega) (by omega)))) ?_;clear hs a;rintro _ w1 ⟨r5,rfl,b5,a5,k5,hf⟩ a hs
  replace hm:=hm.dkt rep_ k5 hf
  clear hf
  rcases(by omega:r5=0∨r5=1)with rfl|rfl
  ·skip
   refine gcPg41_ ?_;clear hs hm a;intros;rename_i a hm hs
   obtain⟨g8,rfl⟩:=hs.qq 8
   refine gRet1 hs rfl rfl ⟨_,some g8,2,_,[⟨1,0,0,0,(r4:Int)⟩,⟨23,0,0,0,8⟩],rfl,row_lit rfl (by show 2≤1000;omega),by show 1≤2;omega,by show 2≤6;omega,fun i hi=>?_,hm.sub sub_⟩
   simp only[List.mem_cons,List.not_mem_nil,or_false]at hi
   rcases hi with rfl|rfl<;>first|exact in_li _ _ (by omega) (by omega)|exact in_lea _ _ (by omega) (by omega) (by omega)|exact in_sys _ (by omega)|exact in_jnz _ _ (by omega) (by omega)|exact in_mov _ _ (by omega) (by omega)|exact in_st _ _ _ (by omega) (by omega) (by omega)|exact in_ld _ _ _ (by omega) (by omega) (by omega)|exact in_alu _ _ _ _ (by omega) (by omega) (by omega) (by omega)
  ·skip
   refine gcPg41_ ?_;clear hs hm a;intros;rename_i a hm hs
   obtain⟨g8,rfl⟩:=hs.qq 8
   refine gRet1 hs rfl rfl ⟨_,some g8,2,_,[⟨1,0,0,0,(r4:Int)⟩,⟨23,0,0,0,9⟩],rfl,row_lit rfl (by show 2≤1000;omega),by show 1≤2;omega,by show 2≤6;omega,fun i hi=>?_,hm.sub sub_⟩
   simp only[List.mem_cons,List.not_mem_nil,or_false]at hi
   rcases hi with rfl|rfl<;>first|exact in_li _ _ (by omega) (by omega)|exact in_lea _ _ (by omega) (by omega) (by omega)|exact in_sys _ (by omega)|exact in_jnz _ _ (by omega) (by omega)|exact in_mov _ _ (by omega) (by omega)|exact in_st _ _ _ (by omega) (by omega) (by omega)|exact in_ld _ _ _ (by omega) (by omega) (by omega)|exact in_alu _ _ _ _ (by omega) (by omega) (by omega) (by omega)
 ·skip
  refine gcPg41_ ?_;clear hs hm a;intros;rename_i a hm hs
  refine st hs rfl rfl rfl (d_call hs rfl rfl rfl (pl 21 rfl) ((nxt_c gd A n c _ xs 3 _ (h.now hm mem_) (by omega) (by omega)))) ?_;clear hs a;rintro _ w1 ⟨r4,rfl,b4,a4,k4,hf⟩ a hs
  replace hm:=hm.dkt rep_ k4 hf
  clear hf
  refine gcPg41_ ?_;clear hs hm a;intros;rename_i a hm hs
  refine st hs rfl rfl rfl (d_call hs rfl rfl rfl (pl 21 rfl) ((nxt_c gd A n c _ xs 2 _ (h.now hm mem_) (by omega) (by omega)))) ?_;clear hs a;rintro _ w1 ⟨r5,rfl,b5,a5,k5,hf⟩ a hs
  replace hm:=hm.dkt rep_ k5 hf
  clear hf
  rcases(by omega:r5=0∨r5=1)with rfl|rfl
  ·skip
   refine gcPg41_ ?_;clear hs hm a;intros;rename_i a hm hs
   obtain⟨g8,rfl⟩:=hs.qq 8
   refine gRet1 hs rfl rfl ⟨_,some g8,2,_,[⟨1,0,0,0,(r4:Int)⟩,⟨23,0,0,0,8⟩],rfl,row_lit rfl (by show 2≤1000;omega),by show 1≤2;omega,by show 2≤6;omega,fun i hi=>?_,hm.sub sub_⟩
   simp only[List.mem_cons,List.not_mem_nil,or_false]at hi
   rcases hi with rfl|rfl<;>first|exact in_li _ _ (by omega) (by omega)|exact in_lea _ _ (by omega) (by omega) (by omega)|exact in_sys _ (by omega)|exact in_jnz _ _ (by omega) (by omega)|exact in_mov _ _ (by omega) (by omega)|exact in_st _ _ _ (by omega) (by omega) (by omega)|exact in_ld _ _ _ (by omega) (by omega) (by omega)|exact in_alu _ _ _ _ (by omega) (by omega) (by omega) (by omega)
  ·skip
   refine gcPg41_ ?_;clear hs hm a;intros;rename_i a hm hs
   obtain⟨g8,rfl⟩:=hs.qq 8
   refine gRet1 hs rfl rfl ⟨_,some g8,2,_,[⟨1,0,0,0,(r4:Int)⟩,⟨23,0,0,0,9⟩],rfl,row_lit rfl (by show 2≤1000;omega),by show 1≤2;omega,by show 2≤6;omega,fun i hi=>?_,hm.sub sub_⟩
   simp only[List.mem_cons,List.not_mem_nil,or_false]at hi
   rcases hi with rfl|rfl<;>first|exact in_li _ _ (by omega) (by omega)|exact in_lea _ _ (by omega) (by omega) (by omega)|exact in_sys _ (by omega)|exact in_jnz _ _ (by omega) (by omega)|exact in_mov _ _ (by omega) (by omega)|exact in_st _ _ _ (by omega) (by omega) (by omega)|exact in_ld _ _ _ (by omega) (by omega) (by omega)|exact in_alu _ _ _ _ (by omega) (by omega) (by omega) (by omega)
 ·skip
  refine gcPg41_ ?_;clear hs hm a;intros;rename_i a hm hs
  refine st hs rfl rfl rfl (d_call hs rfl rfl rfl (pl 21 rfl) ((nxt_c gd A n c _ xs mo _ (h.now hm mem_) (by omega) (by omega)))) ?_;clear hs a;rintro _ w1 ⟨r4,rfl,b4,a4,k4,hf⟩ a hs
  replace hm:=hm.dkt rep_ k4 hf
  clear hf
  refine gcPg41_ ?_;clear hs hm a;intros;rename_i a hm hs
  obtain⟨g8,rfl⟩:=hs.qq 8
  refine gRet1 hs rfl rfl ⟨_,some g8,3,_,[⟨1,0,0,0,(r4:Int)⟩,⟨2,1,3,0,0⟩,⟨23,0,0,0,10⟩],rfl,row_lit rfl (by show 3≤1000;omega),by show 1≤3;omega,by show 3≤6;omega,fun i hi=>?_,hm.sub sub_⟩
  simp only[List.mem_cons,List.not_mem_nil,or_false]at hi
  rcases hi with rfl|rfl|rfl<;>first|exact in_li _ _ (by omega) (by omega)|exact in_lea _ _ (by omega) (by omega) (by omega)|exact in_sys _ (by omega)|exact in_jnz _ _ (by omega) (by omega)|exact in_mov _ _ (by omega) (by omega)|exact in_st _ _ _ (by omega) (by omega) (by omega)|exact in_ld _ _ _ (by omega) (by omega) (by omega)|exact in_alu _ _ _ _ (by omega) (by omega) (by omega) (by omega)
 ·skip
  refine gcPg41_ ?_;clear hs hm a;intros;rename_i a hm hs
  refine st hs rfl rfl rfl (d_call hs rfl rfl rfl (pl 21 rfl) ((nxt_c gd A n c _ xs 2 _ (h.now hm mem_) (by omega) (by omega)))) ?_;clear hs a;rintro _ w1 ⟨r4,rfl,b4,a4,k4,hf⟩ a hs
  replace hm:=hm.dkt rep_ k4 hf
  clear hf
  rcases(by omega:r4=0∨r4=1)with rfl|rfl
  ·skip
   refine gcPg41_ ?_;clear hs hm a;intros;rename_i a hm hs
   refine st hs rfl rfl rfl (d_call hs rfl rfl rfl (pl 21 rfl) ((nxt_c gd A n c _ xs mo _ (h.now hm mem_) (by omega) (by omega)))) ?_;clear hs a;rintro _ w1 ⟨r5,rfl,b5,a5,k5,hf⟩ a hs
   replace hm:=hm.dkt rep_ k5 hf
   clear hf
   refine gcPg41_ ?_;clear hs hm a;intros;rename_i a hm hs
   refine st hs rfl rfl rfl (d_call hs rfl rfl rfl (pl 21 rfl) ((nxt_c gd A n c _ xs 2 _ (h.now hm mem_) (by omega) (by omega)))) ?_;clear hs a;rintro _ w1 ⟨r6,rfl,b6,a6,k6,hf⟩ a hs
   replace hm:=hm.dkt rep_ k6 hf
   clear hf
   rcases(by omega:r6=0∨r6=1)with rfl|rfl
   ·skip
    refine gcPg41_ ?_;clear hs hm a;intros;rename_i a hm hs
    obtain⟨g8,rfl⟩:=hs.qq 8
    refine gRet1 hs rfl rfl ⟨_,some g8,2,_,[⟨1,0,0,0,(r5:Int)⟩,⟨23,0,0,0,12⟩],rfl,row_lit rfl (by show 2≤1000;omega),by show 1≤2;omega,by show 2≤6;omega,fun i hi=>?_,hm.sub sub_⟩
    simp only[List.mem_cons,List.not_mem_nil,or_false]at hi
    rcases hi with rfl|rfl<;>first|exact in_li _ _ (by omega) (by omega)|exact in_lea _ _ (by omega) (by omega) (by omega)|exact in_sys _ (by omega)|exact in_jnz _ _ (by omega) (by omega)|exact in_mov _ _ (by omega) (by omega)|exact in_st _ _ _ (by omega) (by omega) (by omega)|exact in_ld _ _ _ (by omega) (by omega) (by omega)|exact in_alu _ _ _ _ (by omega) (by omega) (by omega) (by omega)
   ·skip
    refine gcPg41_ ?_;clear hs hm a;intros;rename_i a hm hs
    obtain⟨g8,rfl⟩:=hs.qq 8
    refine gRet1 hs rfl rfl ⟨_,some g8,2,_,[⟨1,0,0,0,(r5:Int)⟩,⟨23,0,0,0,11⟩],rfl,row_lit rfl (by show 2≤1000;omega),by show 1≤2;omega,by show 2≤6;omega,fun i hi=>?_,hm.sub sub_⟩
    simp only[List.mem_cons,List.not_mem_nil,or_false]at hi
    rcases hi with rfl|rfl<;>first|exact in_li _ _ (by omega) (by omega)|exact in_lea _ _ (by omega) (by omega) (by omega)|exact in_sys _ (by omega)|exact in_jnz _ _ (by omega) (by omega)|exact in_mov _ _ (by omega) (by omega)|exact in_st _ _ _ (by omega) (by omega) (by omega)|exact in_ld _ _ _ (by omega) (by omega) (by omega)|exact in_alu _ _ _ _ (by omega) (by omega) (by omega) (by omega)
  ·skip
   refine gcPg41_ ?_;clear hs hm a;intros;rename_i a hm hs
   refine st hs rfl rfl rfl (d_call hs rfl rfl rfl (pl 21 rfl) ((nxt_c gd A n c _ xs 5 _ (h.now hm mem_) (by omega) (by omega)))) ?_;clear hs a;rintro _ w1 ⟨r5,rfl,b5,a5,k5,hf⟩ a hs
   replace hm:=hm.dkt rep_ k5 hf
   clear hf
   refine gcPg41_ ?_;clear hs hm a;intros;rename_i a hm hs
   refine st hs rfl rfl rfl (d_call hs rfl rfl rfl (pl 21 rfl) ((nxt_c gd A n c _ xs 2 _ (h.now hm mem_) (by omega) (by omega)))) ?_;clear hs a;rintro _ w1 ⟨r6,rfl,b6,a6,k6,hf⟩ a hs
   replace hm:=hm.dkt rep_ k6 hf
   clear hf
   rcases(by omega:r6=0∨r6=1)with rfl|rfl
   ·skip
    refine gcPg41_ ?_;clear hs hm a;intros;rename_i a hm hs
    obtain⟨g8,rfl⟩:=hs.qq 8
    refine gRet1 hs rfl rfl ⟨_,some g8,2,_,[⟨1,0,0,0,(r5:Int)⟩,⟨23,0,0,0,12⟩],rfl,row_lit rfl (by show 2≤1000;omega),by show 1≤2;omega,by show 2≤6;omega,fun i hi=>?_,hm.sub sub_⟩
    simp only[List.mem_cons,List.not_mem_nil,or_false]at hi
    rcases hi with rfl|rfl<;>first|exact in_li _ _ (by omega) (by omega)|exact in_lea _ _ (by omega) (by omega) (by omega)|exact in_sys _ (by omega)|exact in_jnz _ _ (by omega) (by omega)|exact in_mov _ _ (by omega) (by omega)|exact in_st _ _ _ (by omega) (by omega) (by omega)|exact in_ld _ _ _ (by omega) (by omega) (by omega)|exact in_alu _ _ _ _ (by omega) (by omega) (by omega) (by omega)
   ·skip
    refine gcPg41_ ?_;clear hs hm a;intros;rename_i a hm hs
    obtain⟨g8,rfl⟩:=hs.qq 8
    refine gRet1 hs rfl rfl ⟨_,some g8,2,_,[⟨1,0,0,0,(r5:Int)⟩,⟨23,0,0,0,11⟩],rfl,row_lit rfl (by show 2≤1000;omega),by show 1≤2;omega,by show 2≤6;omega,fun i hi=>?_,hm.sub sub_⟩
    simp only[List.mem_cons,List.not_mem_nil,or_false]at hi
    rcases hi with rfl|rfl<;>first|exact in_li _ _ (by omega) (by omega)|exact in_lea _ _ (by omega) (by omega) (by omega)|exact in_sys _ (by omega)|exact in_jnz _ _ (by omega) (by omega)|exact in_mov _ _ (by omega) (by omega)|exact in_st _ _ _ (by omega) (by omega) (by omega)|exact in_ld _ _ _ (by omega) (by omega) (by omega)|exact in_alu _ _ _ _ (by omega) (by omega) (by omega) (by omega)
 ·skip
  refine gcPg41_ ?_;clear hs hm a;intros;rename_i a hm hs
  refine st hs rfl rfl rfl (d_call hs rfl rfl rfl (pl 21 rfl) ((nxt_c gd A n c _ xs 4 _ (h.now hm mem_) (by omega) (by omega)))) ?_;clear hs a;rintro _ w1 ⟨r4,rfl,b4,a4,k4,hf⟩ a hs
  replace hm:=hm.dkt rep_ k4 hf
  clear hf
  refine gcPg41_ ?_;clear hs hm a;intros;rename_i a hm hs
  obtain⟨g8,rfl⟩:=hs.qq 8
  refine gRet1 hs rfl rfl ⟨_,some g8,4,_,[⟨1,5,0,0,1+(r4:Int)⟩,⟨1,4,0,0,1⟩,⟨4,5,5,4,0⟩,⟨20,5,0,0,at1+2⟩],rfl,row_lit rfl (by show 4≤1000;omega),by show 1≤4;omega,by show 4≤6;omega,fun i hi=>?_,hm.sub sub_⟩
  simp only[List.mem_cons,List.not_mem_nil,or_false]at hi
  rcases hi with rfl|rfl|rfl|rfl<;>first|exact in_li _ _ (by omega) (by omega)|exact in_lea _ _ (by omega) (by omega) (by omega)|exact in_sys _ (by omega)|exact in_jnz _ _ (by omega) (by omega)|exact in_mov _ _ (by omega) (by omega)|exact in_st _ _ _ (by omega) (by omega) (by omega)|exact in_ld _ _ _ (by omega) (by omega) (by omega)|exact in_alu _ _ _ _ (by omega) (by omega) (by omega) (by omega)
 ·skip
  refine gcPg41_ ?_;clear hs hm a;intros;rename_i a hm hs
  refine st hs rfl rfl rfl (d_call hs rfl rfl rfl (pl 99 rfl) ((ins_c gd A n c _ xs (m:Int) mo _ (h.now hm mem_) (by omega) hmo))) ?_;clear hs a;rintro _ w1 ⟨iz,rfl,hiz,a4,k4,hf⟩ a hs
  replace hm:=hm.dkt rep_ k4 hf
  clear hf
  obtain⟨iop,ia,ib,ic,im⟩:=iz
  unfold inA at hs
  dsimp only at hs
  refine gcPg41_ ?_;clear hs hm a;intros;rename_i a hm hs
  obtain⟨g8,rfl⟩:=hs.qq 8
  refine gRet1 hs rfl rfl ⟨_,some g8,1,_,[⟨iop,ia,ib,ic,im⟩],rfl,row_lit rfl (by show 1≤1000;omega),by show 1≤1;omega,by show 1≤6;omega,fun i hi=>?_,hm.sub sub_⟩
  rcases List.mem_singleton.1 hi with rfl
  exact hiz
structure WS where
 A:Option Nat
 c:Nat
 cs:List Value
 xs:List Int
def WS.v(r:WS):Value:=slv r.A r.xs.length r.c
def WS.hp(r:WS):Hp:=⟨r.A,23,r.cs⟩
def WS.ok(r:WS):Prop:=Row r.A r.xs.length r.c 1 (wds r.xs) r.cs
theorem ws_perm{S:Nat→Prop}{w0 w:World}{L:List Hp}{rs:List WS}{r:WS}(hm:Mm S w0 (r.hp::(L++rs.map WS.hp)) w):Mm S w0 (L++(rs++[r]).map WS.hp) w:=by
 refine hm.perm ?_
 rw[List.map_append,←List.append_assoc]
 exact List.perm_append_comm (l₁:=L++rs.map WS.hp) (l₂:=[r.hp])
def FitW(ws:List WS)(ss:List Int):Prop:=∀k (h1:k<ws.length) (h2:k<ss.length),((ws[k]).xs.length:Int)≤ss[k]
structure PgX where
 code:List In
 cA:Nat
 cc:Nat
 ss:List Int
 gs:Nat
 sc:Nat
 ws:List WS
 dA:Option Nat
 dc:Nat
def PgX.v(p:PgX):Value:= .agg #[slv (some p.cA) p.code.length p.cc,.slice (some ⟨p.gs,0,none⟩) p.ss.length p.sc,slv p.dA p.ws.length p.dc]
def PgX.rows(p:PgX):List (Option Nat × List Value):=(some p.cA,p.code.flatMap inV)::(some p.gs,ints p.ss)::(p.dA,p.ws.map WS.v)::p.ws.map fun r=>(r.A,wds r.xs)
structure PgV(p:PgX):Prop where
 sz:SzOk p.ss
 wl:p.ws.length=p.ss.length
 bd:∀r∈p.ws,∀y∈r.xs,0≤y∧y≤65535
 fit:FitW p.ws p.ss
 c1:1≤p.code.length
 c2:p.code.length≤64
 inv:∀i∈p.code,InV i (p.ss.length:Int)
 ju:∀i∈p.code,jumpB i.op=true→i.m<(p.code.length:Int)
 dle:p.ws.length≤p.dc
def RwsOk(rs:List (Option Nat × List Value))(w:World):Prop:=∀r∈rs,Rd w w.heap.size (r.1.map fun g=>⟨g,0,none⟩) r.2
def RwsGe(rs:List (Option Nat × List Value))(b:Nat):Prop:=∀r∈rs,∀g,r.1=some g→b≤g
theorem Mm.newer{h0 h1:Hp}{M:List Hp}{w0 w:World}(hm:Mm (own [h0]) w0 (h1::M) w)(hg:h1.g=h0.g):∀x∈M,∀g,x.g=some g→w0.heap.size≤g:=fun x hx g e=>by
 rcases hm.ow x (List.mem_cons_of_mem _ hx) g e with h1|⟨z,hz,e2⟩
 ·exact h1
 ·rcases List.mem_singleton.1 hz with rfl
  exact(hm.dj.1 x hx g (hg.trans e2) e).elim
theorem in_zero{i:In}{ns:Int}(h:InV i ns)(hj:jumpB i.op=true):InV ⟨i.op,i.a,i.b,i.c,0⟩ ns:=by
 have h1:18≤i.op∧i.op≤21:=of_decide_eq_true hj
 exact⟨h.op,h.a,h.b,h.c,⟨by dsimp only;omega,by dsimp only;omega,fun _=>rfl⟩,fun e=>by dsimp only at e;omega,fun e=>by dsimp only at e;omega⟩
theorem ju_set{l:List In}{k N:Nat}{x y:In}(hN:(1:Int)≤(N:Int))(hx:l[k]?=some x) (hy:y.m=0) (hju:∀j i,j<k→l[j]?=some i→jumpB i.op=true→i.m<(N:Int)):∀j i,j<k+1→(l.set k y)[j]?=some i→jumpB i.op=true→i.m<(N:Int):=fun j i hj hi hb=>by
 by_cases e:j=k
 ·subst e
  have hlt:j<l.length:=by
   rcases Nat.lt_or_ge j l.length with h|h
   ·exact h
   ·rw[List.getElem?_eq_none h]at hx;cases hx
  rw[List.getElem?_set_self hlt]at hi
  cases hi
  omega
 ·rw[List.getElem?_set_ne (fun h=>e h.symm)]at hi
  exact hju j i (by omega) hi hb
theorem ju_next{l:List In}{k N:Nat}{x:In}(hx:l[k]?=some x) (hm:jumpB x.op=true→x.m<(N:Int)) (hju:∀j i,j<k→l[j]?=some i→jumpB i.op=true→i.m<(N:Int)):∀j i,j<k+1→l[j]?=some i→jumpB i.op=true→i.m<(N:Int):=fun j i hj hi hb=>by
 by_cases e:j=k
 ·subst e
  rw[hx]at hi
  cases hi
  exact hm hb
 ·exact hju j i (by omega) hi hb
theorem in_jmp{ns:Int}(m:Int)(h2:0≤m∧m≤65535):InV ⟨18,0,0,0,m⟩ ns:=by
 refine⟨by dsimp only;omega,⟨by dsimp only;omega,by dsimp only;omega,fun _=>rfl⟩,⟨by dsimp only;omega,by dsimp only;omega,fun _=>rfl⟩,⟨by dsimp only;omega,by dsimp only;omega,fun _=>rfl⟩,⟨by dsimp only;omega,by dsimp only;omega,fun e=>?_⟩,fun e=>?_,fun e=>?_⟩
 ·dsimp only at e;exact absurd e (by decide)
 ·dsimp only at e;omega
 ·dsimp only at e;omega
theorem in_rti{ns:Int}:InV ⟨24,0,0,0,0⟩ ns:=by
 refine⟨by dsimp only;omega,⟨by dsimp only;omega,by dsimp only;omega,fun _=>rfl⟩,⟨by dsimp only;omega,by dsimp only;omega,fun _=>rfl⟩,⟨by dsimp only;omega,by dsimp only;omega,fun _=>rfl⟩,⟨by dsimp only;omega,by dsimp only;omega,fun _=>rfl⟩,fun e=>?_,fun e=>?_⟩
 ·dsimp only at e;omega
 ·dsimp only at e;omega
theorem inV_one(l:List In):(l.flatMap inV).all (·.oneCell')=true:=by
 rw[List.all_eq_true]
 intro v hv
 obtain⟨x,_,hx⟩:=List.mem_flatMap.1 hv
 unfold inV at hx
 simp only[List.mem_cons,List.not_mem_nil,or_false]at hx
 rcases hx with rfl|rfl|rfl|rfl|rfl<;>rfl
theorem in_tail(l:List In)(r:Int):l.flatMap inV++[.int .i64 1,.int .i64 0,.int .i64 0,.int .i64 0,.int .i64 r,.int .i64 23,.int .i64 0,.int .i64 0,.int .i64 0,.int .i64 0]=(l++([⟨1,0,0,0,r⟩,⟨23,0,0,0,0⟩]:List In)).flatMap inV:=by
 rw[List.flatMap_append];rfl
theorem Row.cut{A:Option Nat}{n c:Nat}{l:List In}{cs:List Value}(h:Row A n c 5 (l.flatMap inV) cs){m:Nat}(hm:m≤n)(hl:l.length=n)(hA:A≠none):Row A m c 5 ((l.take m).flatMap inV) cs:=by
 have h1:((l.take m).flatMap inV)=(l.flatMap inV).take (m*5):=by
  have:=List.take_append_drop m l
  have h2:l.flatMap inV=(l.take m).flatMap inV++(l.drop m).flatMap inV:=by rw[←List.flatMap_append,this]
  rw[h2,List.take_left' (by rw[flat_len inV 5 inV_len,List.length_take];congr 1;omega)]
 refine⟨fun e=>(hA e).elim,by have:=h.le;omega,h.cm,h.len,by rw[flat_len inV 5 inV_len,List.length_take,hl];congr 1;omega,?_⟩
 rw[h1,←h.pre,List.take_take]
 congr 1;omega
structure JuX where
 k:Nat
 l:List In
 ccs:List Value
structure DaX where
 at_:Nat
 ws:List WS
 dA:Option Nat
 dc:Nat
 dcs:List Value
structure CoX where
 m:Nat
 at_:Nat
 is:List In
 cA:Option Nat
 cc:Nat
 ccs:List Value
theorem prg_c(gd:Nat)(A:Option Addr)(n c at_:Nat)(xs:List Int)(wB:World)(h:Dk gd A n c at_ xs wB):
  Ret Tryz.prog 48 [pt gd] wB (fun u w'=>∃p:PgX,u=p.v∧PgV p∧RwsOk p.rows w'∧RwsGe p.rows wB.heap.size∧DkR gd A n c xs wB w'):=by
 refine enterR Tryz.func48 rfl rfl rfl fun a hs hm=>?_
 clear hm
 have hm:=h.in_
 refine gs6b74_ ?_;clear hs hm a;intros;rename_i a hm hs
 obtain⟨g2,rfl⟩:=hs.pp 2
 have hszB:=hm.fr.size
 refine st hs rfl rfl rfl (d_call hs rfl rfl rfl (pl 77 rfl) ((siz_c gd A n c at_ xs _ (h.now hm mem_)))) ?_;clear hs a;rintro _ wS ⟨gs,m,sc,ss,rfl,hsl,hss,hsr,hsg,a1,k1,hf⟩ a hs
 have hg2:g2<gs:=Nat.lt_of_lt_of_le (Hp.lt (hm.me _ (List.mem_cons_self ..)) rfl) hsg
 have hgd:gd<gs:=Nat.lt_of_lt_of_le (Hp.lt (h.now hm mem_).sat rfl) hsg
 replace hm:=hm.dkt rep_ k1 hf
 clear hf
 have hmB:=hm
 clear hm
 have hm:=hmB.rebase
 obtain⟨b1,o1,he1,hb1,r1⟩:=hsr.ro (by rw[ints_len];have:=hss.one;omega)
 cases he1
 have hno:¬own [⟨some g2,38,[nS,nS,nS]⟩,dk gd A n c a1] gs:=by
  rintro⟨z,hz,e⟩
  rcases List.mem_cons.1 hz with rfl|hz
  ·cases e;omega
  ·rcases List.mem_singleton.1 hz with rfl;cases e;omega
 refine gs6b74_ ?_;clear hs hm a;intros;rename_i w a hm hs
 obtain⟨g3,rfl⟩:=hs.pp 3
 have hg3:∀(z:Nat),True:=fun _=>trivial
 clear hg3
 obtain⟨Lb,hLb⟩:∃Lb:List Hp,Lb=[⟨some g2,38,[nS,nS,nS]⟩,dk gd A n c a1]:=⟨_,rfl⟩
 change Mm (own [⟨some g2,38,[.slice none 0 0,.slice none 0 0,.slice none 0 0]⟩,dk gd A n c a1]) wS [⟨some g3,38,[.slice none 0 0,.slice (some ⟨gs,0,none⟩) m sc,.slice none 0 0]⟩,⟨some g2,38,[.slice none 0 0,.slice none 0 0,.slice none 0 0]⟩,dk gd A n c a1] _ at hm
 change Mm (own [dk gd A n c at_]) wB [⟨some g2,38,[.slice none 0 0,.slice none 0 0,.slice none 0 0]⟩,dk gd A n c a1] wS at hmB
 rw[←hLb]at hmB hno
 replace hm:Mm (own Lb) wS [⟨some g3,38,[nS,.slice (some ⟨gs,0,none⟩) m sc,nS]⟩,⟨some g2,38,[nS,nS,nS]⟩,dk gd A n c a1] w:=by rw[hLb];exact hm
 have hg32:g3≠gs:=fun e=>by
  rcases hm.ow _ (List.mem_cons_self ..) g3 rfl with h1|h1
  ·omega
  ·rw[e]at h1;exact hno h1
 replace hm:=hm.zero 74
 have hsm:=hss.four
 rw[hsl]at hsm
 refine cLoop (X:=DaX) (fun X a w'=>Sl Tryz.f48.ntmps [(0,pt gd),(2,pt g2),(3,pt g3),(13,.slice (some ⟨gs,0,none⟩) m sc),(14,.int .i64 (m:Int)),(15,.int .i64 (X.ws.length:Int))] a∧Mm (own Lb) wS ([⟨some g3,38,[nS,.slice (some ⟨gs,0,none⟩) m sc,slv X.dA X.ws.length X.dc]⟩,⟨X.dA,74,X.dcs⟩,⟨some g2,38,[nS,nS,nS]⟩,dk gd A n c X.at_]++X.ws.map WS.hp) w'∧X.ws.length≤m∧Row X.dA X.ws.length X.dc 1 (X.ws.map WS.v) X.dcs∧(∀r∈X.ws,r.ok∧∀y∈r.xs,0≤y∧y≤65535)∧FitW X.ws ss) (fun X=>m-X.ws.length) ⟨a1,[],none,0,[]⟩ ⟨(sb_ hs),hm.sel [1,0,2,3] (by decide) rfl,Nat.zero_le _,(Row.empty 1:Row none 0 0 1 [] []),fun r hr=>absurd hr List.not_mem_nil,fun k h1=>absurd h1 (Nat.not_lt_zero _)⟩ ?_
 clear hs hm a
 rintro⟨at1,ws,dA,dc,dcs⟩ a w' ⟨hs,hm,hwm,hrow,hws,hfit⟩
 dsimp only at*
 by_cases hlt:ws.length<m
 ·have e1:=ints_some (xs:=ss) (k:=ws.length) (by omega)
  have hb2:=hss.bd ss[ws.length] (List.getElem_mem _)
  obtain⟨kk,hkk⟩:∃kk:Nat,(kk:Int)=ss[ws.length]:=⟨ss[ws.length].toNat,by omega⟩
  rw[←hkk]at e1 hb2
  refine gs6b74_ ?_;clear hs hm a;intros;rename_i a hm hs
  refine cMid (fun a w=>∃(r:WS)(a2:Nat)(dA2:Option Nat)(dc2:Nat)(dcs2:List Value),r.ok∧r.xs.length≤kk∧(∀y∈r.xs,0≤y∧y≤65535)∧Row dA2 (ws.length+1) dc2 1 (ws.map WS.v++[r.v]) dcs2∧Sl Tryz.f48.ntmps [(0,pt gd),(2,pt g2),(3,pt g3),(13,.slice (some ⟨gs,0,none⟩) m sc),(14,.int .i64 (m:Int)),(15,.int .i64 (ws.length:Int))] a∧Mm (own Lb) wS (r.hp::([⟨some g3,38,[nS,.slice (some ⟨gs,0,none⟩) m sc,slv dA2 (ws.length+1) dc2]⟩,⟨dA2,74,dcs2⟩,⟨some g2,38,[nS,nS,nS]⟩,dk gd A n c a2]++ws.map WS.hp)) w) ?_ ?_
  ·skip
   refine cDrawT (n:=9) (.s [0,2,3]<| .e [(1,.o 4<| .x<| .o 5<| .o 6<| .x<| .t 7<| .o 8<| .d),(4,.x<| .e [(1,.o 5<| .o 6<| .x<| .t 7<| .o 8<| .d),(5,.o 1<| .o 6<| .x<| .t 7<| .o 8<| .d)])]) [] hm rfl rfl ?_
   clear hm;intro t_ w1_ hm
   repeat' (first|(refine dg6d05_ ?_;clear t_ hs hm a;intros;rename_i a hm hs t_)|refine tE t_ ?_|refine tC ?_ ?_|exact tN|intro t_|(refine oDo (i:=4) hs rfl (Wnt.none rfl) rfl rfl (by exact d_call hs rfl rfl rfl (pl 78 rfl) ((wds_c gd A n c _ xs kk _ (h.now (hmB.trans hm) (by repeat(first|exact mH|apply mT))) (by omega)))) ?_;clear hs;rintro _ w1 ⟨a2,wA,wc,wcs,ys,rfl,hwr,hwl,hwb,hk2⟩ a hs;(replace hm:=hm.deck (R:=[⟨wA,23,wcs⟩]) hk2 rfl rep_);(clear hk2);replace t_:=tX t_;refine⟨(hm.sub sub_),?_⟩)|(refine oDo (i:=6) hs rfl (Wnt.none rfl) rfl rfl (by exact d_append (A:=dA) (n:=ws.length) (c:=dc) (news:=[slv wA ys.length wc]) hs rfl rfl rfl rfl rfl tab rfl rfl rfl rfl rfl hm mem_ hrow rfl (hm.ro (n:=1) mem_ (cutF_ok rfl)) rfl (by show(ws.length+1)*24≤_;omega) (by omega)) ?_;clear hs;rintro _ w1 ⟨dA2,dc2,dcs2,rfl,hrr,hM⟩ a hs;(replace hm:=hM _ rep_);(clear hM);replace t_:=tX t_;refine⟨(hm.sub sub_),?_⟩)|(refine tD t_ ?_;(exact And.intro rfl ⟨⟨wA,wc,wcs,ys⟩,a2,dA2,dc2,dcs2,hwr,hwl,hwb,hrr,(sb_ hs),hm.sub sub_⟩))|fail)
  clear hs hm a hrow
  rintro a w2 ⟨r,a2,dA2,dc2,dcs2,hro,hrl,hrb,hrow,hs,hm⟩
  replace hm:=ws_perm hm
  refine gs6b74_ ?_;clear hs hm a;intros;rename_i a hm hs
  refine⟨⟨a2,ws++[r],dA2,dc2,dcs2⟩,by dsimp only;rw[List.length_append,List.length_singleton];omega,?_⟩
  dsimp only
  rw[List.length_append,List.length_singleton]
  refine⟨(sb_ hs),hm,by omega,by rw[List.map_append];exact hrow,fun z hz=>?_,fun k h1 h2=>?_⟩
  ·rcases List.mem_append.1 hz with hz|hz
   ·exact hws z hz
   ·rcases List.mem_singleton.1 hz with rfl;exact⟨hro,hrb⟩
  ·by_cases hk:k<ws.length
   ·rw[List.getElem_append_left hk];exact hfit k hk h2
   ·have hkw:k=ws.length:=by rw[List.length_append,List.length_singleton]at h1;omega
    subst hkw
    rw[List.getElem_append_right (Nat.le_refl _)]
    simp only[Nat.sub_self,List.getElem_cons_zero]
    rw[←hkk]
    omega
 ·have hwl:ws.length=m:=by omega
  have hn2:¬own [dk gd A n c at1] gs:=by
   rintro⟨z,hz,e⟩
   rcases List.mem_singleton.1 hz with rfl
   cases e;omega
  replace hm:=hm.perm (M':=⟨some g3,38,[nS,.slice (some ⟨gs,0,none⟩) m sc,slv dA ws.length dc]⟩::dk gd A n c at1::(⟨dA,74,dcs⟩::⟨some g2,38,[nS,nS,nS]⟩::ws.map WS.hp)) (List.Perm.cons _ (List.perm_middle (l₁:=([⟨dA,74,dcs⟩,⟨some g2,38,[nS,nS,nS]⟩]:List Hp))).symm)
  obtain⟨R,hR⟩:∃R:List Hp,R=⟨dA,74,dcs⟩::⟨some g2,38,[nS,nS,nS]⟩::ws.map WS.hp:=⟨_,rfl⟩
  obtain⟨dV,hdV⟩:∃dV:Value,dV=slv dA ws.length dc:=⟨_,rfl⟩
  rw[←hR,←hdV]at hm
  refine gs6b74_ ?_;clear hs hm a;intros;rename_i a hm hs
  refine st hs rfl rfl rfl (d_call hs rfl rfl rfl (pl 21 rfl) ((nxt_c gd A n c _ xs 12 _ (h.now (hmB.trans hm) mem_) (by omega) (by omega)))) ?_;clear hs a;rintro _ w1 ⟨r3,rfl,b3,a3,k3,hf⟩ a hs
  replace hm:=hm.dkt rep_ k3 hf
  clear hf
  refine gs6b74_ ?_;clear hs hm a;intros;rename_i a hm hs
  replace hm:=hm.zero 54
  refine cLoop (X:=CoX) (fun X a w'=>Sl Tryz.f48.ntmps [(0,pt gd),(2,pt g2),(3,pt g3),(6,.int .i64 (X.m:Int))] a∧Mm (own Lb) wS (⟨X.cA,54,X.ccs⟩::⟨some g3,38,[slv X.cA X.is.length X.cc,.slice (some ⟨gs,0,none⟩) m sc,dV]⟩::dk gd A n c X.at_::R) w'∧Row X.cA X.is.length X.cc 5 (X.is.flatMap inV) X.ccs∧X.is.length≤62∧(∀i∈X.is,InV i (m:Int))∧X.m≤12) (fun X=>X.m) ⟨1+r3,a3,[],none,0,[]⟩ ⟨hs.sub (Has.all ⟨rfl,rfl,rfl,by dsimp only;rw[Int.natCast_add];rfl,trivial⟩),hm,(Row.empty 5:Row none 0 0 5 [] []),by dsimp only;rw[List.length_nil];omega,fun i hi=>absurd hi List.not_mem_nil,by dsimp only;omega⟩ ?_
  clear hs hm a
  rintro⟨mm,at2,is,cA,cc,ccs⟩ a w' ⟨hs,hm,hrw,h62,hiv,hmm⟩
  dsimp only at*
  by_cases hm0:0<mm
  ·obtain⟨mm,rfl⟩:∃k,mm=k+1:=⟨mm-1,by omega⟩
   have hn3:¬own [dk gd A n c at2] gs:=by
    rintro⟨z,hz,e⟩
    rcases List.mem_singleton.1 hz with rfl
    cases e;omega
   refine gs6b74_ ?_;clear hs hm a;intros;rename_i a hm hs
   refine st hs rfl rfl rfl (d_call hs rfl rfl rfl (pl 79 rfl) ((part_c gd A n c _ xs gs 0 m sc ss _ _ _ (h.now (hmB.trans hm) mem_) hsl (r1.ro hm hno) hn3 hss (by omega) (by omega)))) ?_;clear hs a;rintro _ w2 ⟨a4,pA,pc,pcs,l,rfl,hpr,hl1,hl6,hli,hk2⟩ a hs
   replace hm:=hm.deck (R:=[⟨pA,54,pcs⟩]) hk2 rfl rep_
   clear hk2
   obtain⟨gp,rfl⟩:=hpr.some_ (by omega)
   by_cases hle:is.length+l.length≤62
   ·refine gs6b74_ ?_;clear hs hm a;intros;rename_i a hm hs
    have hpo:Ro w2 gp 0 (l.flatMap inV):=by
     obtain⟨b9,o9,e9,_,r9⟩:=(hm.rd_row (A:=some gp) mem_ hpr).ro (by rw[flat_len inV 5 inV_len];omega)
     cases e9
     exact r9
    refine dv hs (Wnt.none rfl) rfl rfl (d_append (A:=cA) (n:=is.length) (c:=cc) (news:=l.flatMap inV) (m:=l.length) hs rfl rfl rfl rfl rfl tab rfl rfl rfl rfl rfl hm mem_ hrw (by rw[flat_len inV 5 inV_len]) hpo (inV_one l) (by show(is.length+l.length)*40≤_;omega) (by omega)) ?_
    clear hs
    rintro _ w3 ⟨cA2,cc2,ccs2,rfl,hr2,hM⟩ a hs
    replace hm:=hM _ rep_
    clear hM
    refine gs6b74_ ?_;clear hs hm a;intros;rename_i a hm hs
    refine⟨⟨mm,a4,is++l,cA2,cc2,ccs2⟩,by dsimp only;omega,?_⟩
    dsimp only
    rw[List.length_append,List.flatMap_append]
    refine⟨(sb_ hs),hm.sub (List.sublist_cons_self _ _),hr2,hle,fun z hz=>?_,by omega⟩
    rcases List.mem_append.1 hz with hz|hz
    ·exact hiv z hz
    ·exact hli z hz
   ·refine gs6b74_ ?_;clear hs hm a;intros;rename_i a hm hs
    exact⟨⟨mm,a4,is,cA,cc,ccs⟩,by dsimp only;omega,(sb_ hs),hm.sub (List.sublist_cons_self _ _),hrw,h62,hiv,by dsimp only;omega⟩
  ·refine gs6b74_ ?_;clear hs hm a;intros;rename_i a hm hs
   refine st hs rfl rfl rfl (d_call hs rfl rfl rfl (pl 21 rfl) ((nxt_c gd A n c _ xs 4 _ (h.now (hmB.trans hm) mem_) (by omega) (by omega)))) ?_;clear hs a;rintro _ w1 ⟨r4,rfl,b4,a4,k4,hf⟩ a hs
   replace hm:=hm.dkt rep_ k4 hf
   clear hf
   refine cMid (fun a w=>∃(at4:Nat)(is2:List In)(cA2:Option Nat)(cc2:Nat)(ccs2:List Value),Row cA2 is2.length cc2 5 (is2.flatMap inV) ccs2∧is2.length≤63∧(∀i∈is2,InV i (m:Int))∧Sl Tryz.f48.ntmps [(0,pt gd),(2,pt g2),(3,pt g3)] a∧Mm (own Lb) wS (⟨cA2,54,ccs2⟩::⟨some g3,38,[slv cA2 is2.length cc2,.slice (some ⟨gs,0,none⟩) m sc,dV]⟩::dk gd A n c at4::R) w) ?_ ?_
   ·by_cases q0:(r4:Int)=0
    ·refine gs6b74_ ?_;clear hs hm a;intros;rename_i a hm hs
     refine cMid (fun a w=>∃(r5 at5:Nat)(cA2:Option Nat)(cc2:Nat)(ccs2:List Value),(r5:Int)≤70∧Row cA2 (is.length+1) cc2 5 (is.flatMap inV++[.int .i64 18,.int .i64 0,.int .i64 0,.int .i64 0,.int .i64 (r5:Int)]) ccs2∧Sl Tryz.f48.ntmps [(0,pt gd),(2,pt g2),(3,pt g3)] a∧Mm (own Lb) wS (⟨cA2,54,ccs2⟩::⟨some g3,38,[slv cA2 (is.length+1) cc2,.slice (some ⟨gs,0,none⟩) m sc,dV]⟩::dk gd A n c at5::R) w) ?_ ?_
     ·skip
      refine cDrawT (n:=13) (.s [0,2,3]<| .e [(1,.o 4<| .s [5,6]<| .o 7<| .x<| .t 8<| .o 9<| .o 10<| .x<| .t 11<| .o 12<| .d),(4,.s [5,6]<| .e [(1,.o 7<| .x<| .t 8<| .o 9<| .o 10<| .x<| .t 11<| .o 12<| .d),(7,.x<| .t 8<| .e [(1,.o 9<| .o 10<| .x<| .t 11<| .o 12<| .d),(9,.o 1<| .o 10<| .x<| .t 11<| .o 12<| .d)])])]) [] hm rfl rfl ?_
      clear hm;intro t_ w1_ hm
      repeat' (first|(refine dg6d05_ ?_;clear t_ hs hm a;intros;rename_i a hm hs t_)|refine tE t_ ?_|refine tC ?_ ?_|exact tN|intro t_|(refine oDo (i:=7) hs rfl (Wnt.none rfl) rfl rfl (by exact d_call hs rfl rfl rfl (pl 21 rfl) ((nxt_c gd A n c _ xs ((is.length:Int)+1) _ (h.now (hmB.trans hm) (by repeat(first|exact mH|apply mT))) (by omega) (by omega)))) ?_;clear hs;rintro _ w1 ⟨r5,rfl,b5,a5,k5,hf⟩ a hs;(replace hm:=hm.dkt rep_ k5 hf);(clear hf);replace t_:=tX t_;refine⟨(hm.sub sub_),?_⟩)|(refine oDo (i:=10) hs rfl (Wnt.none rfl) rfl rfl (by exact d_append (A:=cA) (n:=is.length) (c:=cc) hs rfl rfl rfl rfl rfl tab rfl rfl rfl rfl rfl hm mem_ hrw rfl (hm.ro (n:=5) mem_ (cutF_ok rfl)) rfl (by show(is.length+1)*40≤_;omega) (by omega)) ?_;clear hs;rintro _ w1 ⟨cA2,cc2,ccs2,rfl,hrr,hM⟩ a hs;(replace hm:=hM _ rep_);(clear hM);replace t_:=tX t_;refine⟨(hm.sub sub_),?_⟩)|(refine tD t_ ?_;(exact And.intro rfl ⟨r5,a5,cA2,cc2,ccs2,by omega,hrr,(sb_ hs),hm.sub (List.sublist_cons_self _ _)⟩))|fail)
     clear hs hm a
     rintro a w5 ⟨r5,at5,cA2,cc2,ccs2,h70,hrr,hs,hm⟩
     refine gs6b74_ ?_;clear hs hm a;intros;rename_i a hm hs
     refine And.intro rfl ⟨at5,is++[⟨18,0,0,0,(r5:Int)⟩],cA2,cc2,ccs2,?_⟩
     rw[List.length_append,List.length_singleton,List.flatMap_append]
     refine⟨hrr,by omega,fun z hz=>?_,(sb_ hs),hm⟩
     rcases List.mem_append.1 hz with hz|hz
     ·exact hiv z hz
     ·rcases List.mem_singleton.1 hz with rfl;exact in_jmp _ (by omega)
    by_cases q1:(r4:Int)=1
    ·refine gs6b74_ ?_;clear hs hm a;intros;rename_i a hm hs
     refine dv hs (Wnt.none rfl) rfl rfl (d_append (A:=cA) (n:=is.length) (c:=cc) hs rfl rfl rfl rfl rfl tab rfl rfl rfl rfl rfl hm mem_ hrw rfl (hm.ro (n:=5) mem_ (cutF_ok rfl)) rfl (by show(is.length+1)*40≤_;omega) (by omega)) ?_
     clear hs
     rintro _ w3 ⟨cA2,cc2,ccs2,rfl,hrr,hM⟩ a hs
     replace hm:=hM _ rep_
     clear hM
     refine gs6b74_ ?_;clear hs hm a;intros;rename_i a hm hs
     refine And.intro rfl ⟨a4,is++[⟨24,0,0,0,0⟩],cA2,cc2,ccs2,?_⟩
     rw[List.length_append,List.length_singleton,List.flatMap_append]
     refine⟨hrr,by omega,fun z hz=>?_,(sb_ hs),hm.sub (List.sublist_cons_self _ _)⟩
     rcases List.mem_append.1 hz with hz|hz
     ·exact hiv z hz
     ·rcases List.mem_singleton.1 hz with rfl;exact in_rti
    ·refine gs6b74_ ?_;clear hs hm a;intros;rename_i a hm hs
     exact And.intro rfl ⟨a4,is,cA,cc,ccs,hrw,by omega,hiv,(sb_ hs),hm⟩
   clear hs hm a
   rintro a w4 ⟨at4,is2,cA2,cc2,ccs2,hrw2,h63,hiv2,hs,hm⟩
   refine gs6b74_ ?_;clear hs hm a;intros;rename_i a hm hs
   refine cMid (fun a w=>∃(r6 at5:Nat)(cA3:Option Nat)(cc3:Nat)(ccs3:List Value),(r6:Int)<9∧Row cA3 (is2.length+2) cc3 5 (is2.flatMap inV++[.int .i64 1,.int .i64 0,.int .i64 0,.int .i64 0,.int .i64 (r6:Int),.int .i64 23,.int .i64 0,.int .i64 0,.int .i64 0,.int .i64 0]) ccs3∧Sl Tryz.f48.ntmps [(0,pt gd),(2,pt g2),(3,pt g3)] a∧Mm (own Lb) wS (⟨cA3,54,ccs3⟩::⟨some g3,38,[slv cA3 (is2.length+2) cc3,.slice (some ⟨gs,0,none⟩) m sc,dV]⟩::dk gd A n c at5::R) w) ?_ ?_
   ·skip
    refine cDrawT (n:=10) (.s [0,2]<| .e [(1,.o 3<| .x<| .o 4<| .x<| .o 5<| .x<| .o 6<| .o 7<| .x<| .t 8<| .o 9<| .d),(3,.x<| .e [(1,.o 4<| .x<| .o 5<| .x<| .o 6<| .o 7<| .x<| .t 8<| .o 9<| .d),(4,.x<| .e [(1,.o 5<| .x<| .o 6<| .o 7<| .x<| .t 8<| .o 9<| .d),(5,.x<| .e [(1,.o 6<| .o 7<| .x<| .t 8<| .o 9<| .d),(6,.o 1<| .o 7<| .x<| .t 8<| .o 9<| .d)])])])]) [] hm rfl rfl ?_
    clear hm;intro t_ w1_ hm
    repeat' (first|(refine dg6d05_ ?_;clear t_ hs hm a;intros;rename_i a hm hs t_)|refine tE t_ ?_|refine tC ?_ ?_|exact tN|intro t_|(refine oDo (i:=3) hs rfl (Wnt.none rfl) rfl rfl (by exact d_call hs rfl rfl rfl (pl 21 rfl) ((nxt_c gd A n c _ xs 9 _ (h.now (hmB.trans hm) (by repeat(first|exact mH|apply mT))) (by omega) (by omega)))) ?_;clear hs;rintro _ w1 ⟨r6,rfl,b6,a6,k6,hf⟩ a hs;(replace hm:=hm.dkt rep_ k6 hf);(clear hf);replace t_:=tX t_;refine⟨(hm.sub sub_),?_⟩)|(refine oDo (i:=4) hs rfl (Wnt.none rfl) rfl rfl (by exact d_call hs rfl rfl rfl (pl 80 rfl) ((li_c 0 (r6:Int) _))) ?_;clear hs;rintro _ w1 ⟨rfl,hf⟩ a hs;(replace hm:=hm.pu hf);(clear hf);replace t_:=tX t_;refine⟨(hm.sub sub_),?_⟩)|(refine oDo (i:=5) hs rfl (Wnt.none rfl) rfl rfl (by exact d_call hs rfl rfl rfl (pl 81 rfl) ((sys_c 0 _))) ?_;clear hs;rintro _ w1 ⟨rfl,hf⟩ a hs;(replace hm:=hm.pu hf);(clear hf);replace t_:=tX t_;refine⟨(hm.sub sub_),?_⟩)|(refine oDo (i:=7) hs rfl (Wnt.none rfl) rfl rfl (by exact d_append (A:=cA2) (n:=is2.length) (c:=cc2) hs rfl rfl rfl rfl rfl tab rfl rfl rfl rfl rfl hm mem_ hrw2 rfl (hm.ro (n:=10) mem_ (cutF_ok rfl)) rfl (by show(is2.length+2)*40≤_;omega) (by omega)) ?_;clear hs;rintro _ w1 ⟨cA3,cc3,ccs3,rfl,hrr,hM⟩ a hs;(replace hm:=hM _ rep_);(clear hM);replace t_:=tX t_;refine⟨(hm.sub sub_),?_⟩)|(refine tD t_ ?_;(exact And.intro rfl ⟨r6,a6,cA3,cc3,ccs3,by omega,hrr,(sb_ hs),hm.sub (List.sublist_cons_self _ _)⟩))|fail)
   clear hs hm a hrw2
   rintro a w5 ⟨r6,at5,cA3,cc3,ccs3,h69,hrw2,hs,hm⟩
   rw[in_tail]at hrw2
   obtain⟨gc,rfl⟩:=hrw2.some_ (by omega)
   have hiv3:∀i∈is2++([⟨1,0,0,0,(r6:Int)⟩,⟨23,0,0,0,0⟩]:List In),InV i (m:Int):=fun z hz=>by
    rcases List.mem_append.1 hz with hz|hz
    ·exact hiv2 z hz
    ·simp only[List.mem_cons,List.not_mem_nil,or_false]at hz
     rcases hz with rfl|rfl
     ·exact in_li _ _ (by omega) (by omega)
     ·exact in_sys _ (by omega)
   have hl3:(is2++([⟨1,0,0,0,(r6:Int)⟩,⟨23,0,0,0,0⟩]:List In)).length=is2.length+2:=by rw[List.length_append];rfl
   rw[←hl3]at hrw2 hm
   obtain⟨l3,hl3e⟩:∃l3,l3=is2++([⟨1,0,0,0,(r6:Int)⟩,⟨23,0,0,0,0⟩]:List In):=⟨_,rfl⟩
   rw[←hl3e]at hrw2 hm hl3 hiv3
   refine gs6b74_ ?_;clear hs hm a;intros;rename_i a hm hs
   refine cMid (fun a w=>∃l4:List In,1≤l4.length∧l4.length≤64∧(∀i∈l4,InV i (m:Int))∧Row (some gc) l4.length cc3 5 (l4.flatMap inV) ccs3∧Sl Tryz.f48.ntmps [(0,pt gd),(2,pt g2),(3,pt g3)] a∧Mm (own Lb) wS (⟨some gc,54,ccs3⟩::⟨some g3,38,[slv (some gc) l4.length cc3,.slice (some ⟨gs,0,none⟩) m sc,dV]⟩::dk gd A n c at5::R) w) ?_ ?_
   ·by_cases q64:64<l3.length
    ·refine gs6b74_ ?_;clear hs hm a;intros;rename_i a hm hs
     refine toL hm (oneV hs (Wnt.none rfl) rfl rfl (by intro w hm;exact r_sliceTo hs rfl rfl rfl tab rfl rfl rfl (by omega) (by have:=hrw2.le;omega)) ?_)
     clear hs a
     intro a hs
     refine gs6b74_ ?_;clear hs hm a;intros;rename_i a hm hs
     have h64:(l3.take 64).length=64:=by rw[List.length_take];omega
     refine And.intro rfl ⟨l3.take 64,by omega,by omega,fun i hi=>hiv3 i (List.mem_of_mem_take hi),?_⟩
     rw[h64]
     exact⟨hrw2.cut (by omega) rfl (fun e=>by cases e),(sb_ hs),hm⟩
    ·refine gs6b74_ ?_;clear hs hm a;intros;rename_i a hm hs
     exact And.intro rfl ⟨l3,by omega,by omega,hiv3,hrw2,(sb_ hs),hm⟩
   clear hs hm a hrw2 hiv3
   rintro a w6 ⟨l4,h41,h464,hiv4,hrw4,hs,hm⟩
   obtain⟨N,hN⟩:∃N,N=l4.length:=⟨_,rfl⟩
   rw[←hN]at hm hrw4 h41 h464
   refine gs6b74_ ?_;clear hs hm a;intros;rename_i a hm hs
   refine cLoop (X:=JuX) (fun X a w'=>Sl Tryz.f48.ntmps [(0,pt gd),(2,pt g2),(3,pt g3),(101,.int .i64 (N:Int)),(102,.int .i64 (X.k:Int))] a∧Mm (own Lb) wS (⟨some gc,54,X.ccs⟩::⟨some g3,38,[slv (some gc) N cc3,.slice (some ⟨gs,0,none⟩) m sc,dV]⟩::dk gd A n c at5::R) w'∧X.k≤N∧X.l.length=N∧Row (some gc) N cc3 5 (X.l.flatMap inV) X.ccs∧(∀i∈X.l,InV i (m:Int))∧(∀j i,j<X.k→X.l[j]?=some i→jumpB i.op=true→i.m<(N:Int))) (fun X=>N-X.k) ⟨0,l4,ccs3⟩ ⟨(sb_ hs),hm,Nat.zero_le _,hN.symm,hrw4,hiv4,fun j i hj=>absurd hj (Nat.not_lt_zero _)⟩ ?_
   clear hs hm a hrw4 hiv4
   rintro⟨k,l,ccs5⟩ a w7 ⟨hs,hm,hkN,hlN,hrw,hiv,hju⟩
   dsimp only at*
   by_cases hlt:k<N
   ·obtain⟨x,hx⟩:∃x,l[k]?=some x:=⟨l[k],List.getElem?_eq_getElem (by omega)⟩
    have hxk:l[k]=x:=by rw[List.getElem?_eq_getElem (by omega)]at hx;exact Option.some.inj hx
    have hcl:∀j,j<5→∀v,(inV x)[j]?=some v→ccs5[k*5+j]?=some v:=fun j hj v hv=>hrw.get (by rw[flat_get inV 5 inV_len l k j (by omega) hj,hxk];exact hv)
    have hc0:=hcl 0 (by omega) _ rfl
    have hc4:=hcl 4 (by omega) _ rfl
    have hix:=hiv x (List.mem_of_getElem? hx)
    have hjm:=fun w=>jump_c x.op w
    obtain⟨jb,hjb⟩:∃b,jumpB x.op=b:=⟨_,rfl⟩
    rw[hjb]at hjm
    have hio:=hix.op
    have him:=hix.m
    have hrl:=hrw.len
    have hrc:=hrw.le
    obtain⟨bb,hbb⟩:∃bb,bb=(jb&&decide ((N:Int)≤x.m)):=⟨_,rfl⟩
    refine gs6b74_ ?_;clear hs hm a;intros;rename_i a hm hs
    refine cMid (fun a w=>Sl Tryz.f48.ntmps [(0,pt gd),(2,pt g2),(3,pt g3),(101,.int .i64 (N:Int)),(102,.int .i64 (k:Int)),(8,.int .i64 (k:Int)),(123,.bool bb)] a∧Mm (own Lb) wS (⟨some gc,54,ccs5⟩::⟨some g3,38,[slv (some gc) N cc3,.slice (some ⟨gs,0,none⟩) m sc,dV]⟩::dk gd A n c at5::R) w) ?_ ?_
    ·cases jb
     ·have e:bb=false:=hbb
      rw[e]
      clear hbb
      refine cDrawT (n:=19) (.s [0,1,2,3,4,5]<| .o 6<| .x<| .s [7,8,9,10,11,12,13,14,15,16,17,18]<| .d) [⟨some gc,54,ccs5⟩,⟨some g3,38,[slv (some gc) N cc3,.slice (some ⟨gs,0,none⟩) m sc,dV]⟩] hm rfl rfl ?_
      clear hm;intro t_ w1_ hm
      repeat' (first|(refine dg6d05_ ?_;clear t_ hs hm a;intros;rename_i a hm hs t_)|refine tE t_ ?_|refine tC ?_ ?_|exact tN|intro t_|(refine oDo (i:=6) hs rfl (Wnt.none rfl) rfl rfl (by exact d_call hs rfl rfl rfl (pl 68 rfl) ((hjm _))) ?_;clear hs;rintro _ w1 ⟨rfl,hf⟩ a hs;(replace hm:=hm.pu hf);(clear hf);replace t_:=tX t_;refine⟨(hm.sub sub_),?_⟩)|(refine tD t_ ?_;(exact And.intro rfl ⟨(sb_ hs),hm⟩))|fail)
     by_cases hge:(N:Int)≤x.m
     ·have e:bb=true:=by rw[hbb,decide_eq_true hge];rfl
      rw[e]
      clear hbb
      refine cDrawT (n:=19) (.s [0,1,2,3,4,5]<| .o 6<| .x<| .s [7,8,9,10,11,12,13,14,15,16,17,18]<| .d) [⟨some gc,54,ccs5⟩,⟨some g3,38,[slv (some gc) N cc3,.slice (some ⟨gs,0,none⟩) m sc,dV]⟩] hm rfl rfl ?_
      clear hm;intro t_ w1_ hm
      repeat' (first|(refine dg6d05_ ?_;clear t_ hs hm a;intros;rename_i a hm hs t_)|refine tE t_ ?_|refine tC ?_ ?_|exact tN|intro t_|(refine oDo (i:=6) hs rfl (Wnt.none rfl) rfl rfl (by exact d_call hs rfl rfl rfl (pl 68 rfl) ((hjm _))) ?_;clear hs;rintro _ w1 ⟨rfl,hf⟩ a hs;(replace hm:=hm.pu hf);(clear hf);replace t_:=tX t_;refine⟨(hm.sub sub_),?_⟩)|(refine tD t_ ?_;(exact And.intro rfl ⟨(sb_ hs),hm⟩))|fail)
     ·have e:bb=false:=by rw[hbb,decide_eq_false hge];rfl
      rw[e]
      clear hbb
      refine cDrawT (n:=19) (.s [0,1,2,3,4,5]<| .o 6<| .x<| .s [7,8,9,10,11,12,13,14,15,16,17,18]<| .d) [⟨some gc,54,ccs5⟩,⟨some g3,38,[slv (some gc) N cc3,.slice (some ⟨gs,0,none⟩) m sc,dV]⟩] hm rfl rfl ?_
      clear hm;intro t_ w1_ hm
      repeat' (first|(refine dg6d05_ ?_;clear t_ hs hm a;intros;rename_i a hm hs t_)|refine tE t_ ?_|refine tC ?_ ?_|exact tN|intro t_|(refine oDo (i:=6) hs rfl (Wnt.none rfl) rfl rfl (by exact d_call hs rfl rfl rfl (pl 68 rfl) ((hjm _))) ?_;clear hs;rintro _ w1 ⟨rfl,hf⟩ a hs;(replace hm:=hm.pu hf);(clear hf);replace t_:=tX t_;refine⟨(hm.sub sub_),?_⟩)|(refine tD t_ ?_;(exact And.intro rfl ⟨(sb_ hs),hm⟩))|fail)
    clear hs hm a
    rintro a w8 ⟨hs,hm⟩
    cases bb
    ·refine gs6b74_ ?_;clear hs hm a;intros;rename_i a hm hs
     refine⟨⟨k+1,l,ccs5⟩,by dsimp only;omega,?_⟩
     refine⟨(sb_ hs),hm,hlt,hlN,hrw,hiv,ju_next hx (fun e=>?_) hju⟩
     rw[hjb]at e
     rw[e]at hbb
     have:=of_decide_eq_false hbb.symm
     omega
    ·have hbj:jumpB x.op=true∧(N:Int)≤x.m:=by
      cases jb
      ·cases hbb
      ·exact⟨hjb,of_decide_eq_true hbb.symm⟩
     refine gs6b74_ ?_;clear hs hm a;intros;rename_i a hm hs
     refine⟨⟨k+1,l.set k ⟨x.op,x.a,x.b,x.c,0⟩,ccs5.set (k*5+4) (.int .i64 0)⟩,by dsimp only;omega,?_⟩
     refine⟨(sb_ hs),hm,hlt,by rw[List.length_set];exact hlN,?_,fun i hi=>?_,ju_set (by omega) hx rfl hju⟩
     ·rw[←flat_set inV 5 inV_len l k 4 x (.int .i64 0) hx (by omega) ⟨x.op,x.a,x.b,x.c,0⟩ rfl]
      exact hrw.set _ _
     ·rcases List.mem_or_eq_of_mem_set hi with hi|rfl
      ·exact hiv i hi
      ·exact in_zero hix hbj.1
   ·have hkN2:k=N:=by omega
    subst hkN2
    rw[hR,hdV]at hm
    refine gs6b74_ ?_;clear hs hm a;intros;rename_i a hm hs
    have hmT:=hmB.trans hm
    refine gRetN tab hs rfl (.cons (.cells rfl rfl rfl rfl (hm.ro (k:=0) (n:=3) (g:=g2) mem_ (cutF_ok rfl))) .nil) ⟨⟨l,gc,cc3,ss,gs,sc,ws,dA,dc⟩,?_,⟨hss,by rw[hwl];exact hsl.symm,fun r hr=>(hws r hr).2,hfit,by dsimp only;omega,by dsimp only;omega,by dsimp only;rw[hsl];exact hiv,fun i hi hb=>?_,hrow.le⟩,?_,?_,?_⟩
    ·show _=Value.agg #[slv (some gc) l.length cc3,.slice (some ⟨gs,0,none⟩) ss.length sc,slv dA ws.length dc]
     rw[hsl,hlN]
     rfl
    ·obtain⟨j,hj,e⟩:=List.getElem_of_mem hi
     dsimp only at hj
     have h1:=hju j i (by omega) (by rw[List.getElem?_eq_getElem hj,e]) hb
     dsimp only
     rw[hlN]
     exact h1
    ·intro r hr
     change r∈(some gc,l.flatMap inV)::(some gs,ints ss)::(dA,ws.map WS.v)::ws.map (fun r=>(r.A,wds r.xs))at hr
     rcases List.mem_cons.1 hr with rfl|hr
     ·exact hm.rd_row mem_ hrw
     rcases List.mem_cons.1 hr with rfl|hr
     ·exact rdD hm.fr hsr (fun g o e=>by cases e;exact hno)
     rcases List.mem_cons.1 hr with rfl|hr
     ·exact hm.rd_row mem_ hrow
     obtain⟨r0,h0,rfl⟩:=List.mem_map.1 hr
     exact hm.rd_row (t:=23) (List.mem_cons_of_mem _ (List.mem_cons_of_mem _ (List.mem_cons_of_mem _ (List.mem_cons_of_mem _ (List.mem_cons_of_mem _ (List.mem_map_of_mem h0)))))) (hws r0 h0).1
    ·have hmU:=hmT.perm (List.perm_middle (l₁:=([⟨some gc,54,ccs5⟩,⟨some g3,38,[slv (some gc) k cc3,.slice (some ⟨gs,0,none⟩) m sc,slv dA ws.length dc]⟩]:List Hp))).symm
     have key:=Mm.newer hmU rfl
     intro r hr g e
     change r∈(some gc,l.flatMap inV)::(some gs,ints ss)::(dA,ws.map WS.v)::ws.map (fun r=>(r.A,wds r.xs))at hr
     rcases List.mem_cons.1 hr with rfl|hr
     ·exact key ⟨some gc,54,ccs5⟩ mem_ g e
     rcases List.mem_cons.1 hr with rfl|hr
     ·cases e;omega
     rcases List.mem_cons.1 hr with rfl|hr
     ·exact key ⟨dA,74,dcs⟩ mem_ g e
     obtain⟨r0,h0,rfl⟩:=List.mem_map.1 hr
     exact key r0.hp (List.mem_cons_of_mem _ (List.mem_cons_of_mem _ (List.mem_cons_of_mem _ (List.mem_cons_of_mem _ (List.mem_map_of_mem h0))))) g e
    ·exact⟨_,h.now hmT mem_,Dk.out hmT⟩
end Go.Proofs.YtbjffoojenpmfaaGreat
