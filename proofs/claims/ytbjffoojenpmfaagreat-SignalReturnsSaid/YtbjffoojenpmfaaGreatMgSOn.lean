/- Texts put together: Shj, Lk10, Lk13, Lk14. -/
import Derived.Test.YtbjffoojenpmfaaGreatMgSOm
set_option maxRecDepth 20000
set_option maxHeartbeats 64000000
set_option linter.unusedVariables false
set_option linter.unusedSimpArgs false
namespace Go.Proofs.YtbjffoojenpmfaaGreat
open Go.RowKit
theorem gcShj0_{G H:Prop}(k:H)(s:Bx H→G:=by intro k_;(repeat(first|(refine ove28a_ ?_;(try clear hs a);intro a hs)|((with_reducible apply lCons);first|(refine dv hs gw_ rfl rfl da_ ?_;(try clear hs hm a);rintro _ w_ ⟨g_,rfl,-,hm⟩ a hs)|(refine stn hs rfl rfl ds_ ?_;(try clear hs hm a);rintro-w_ hm a hs))|refine sc_ ?_|((with_reducible apply lCons);first|(refine dvc hs hm gw_ rfl rfl rfl rfl rfl (pl 83 rfl) (kv _ hm.fr) ?_;(try clear hs hm a);intro w_ hm a hs)|(refine dvc hs hm gw_ rfl rfl rfl rfl rfl (pl 126 rfl) (kq _ hm.fr) ?_;(try clear hs hm a);intro w_ hm a hs)|(refine dvc hs hm gw_ rfl rfl rfl rfl rfl (pl 130 rfl) (ka _) ?_;(try clear hs hm a);intro w_ hm a hs)|(refine dvc hs hm gw_ rfl rfl rfl rfl rfl (pl 131 rfl) (kk _ hm.fr) ?_;(try clear hs hm a);intro w_ hm a hs)|(refine dvc hs hm gw_ rfl rfl rfl rfl rfl (pl 111 rfl) (kb _) ?_;(try clear hs hm a);intro w_ hm a hs))));(first|(have m_:=hm;have s_:=hs;clear hs;(try clear hm);revert m_ s_ a)|((first|refine rexc_ hs hm ?_|refine rexl_ hs hm ?_|refine rexg_ hs hm ?_|refine rexq_ hs hm ?_);intro a hm hs;revert hm hs a));(try revert w_);(repeat revert g_);exact k_.h):G:=s ⟨k⟩
theorem gcShj1_{G H:Prop}(k:H)(s:Bx H→G:=by intro k_;(repeat(first|(refine ove28a_ ?_;(try clear hs a);intro a hs)|((with_reducible apply lCons);first|(refine dv hs gw_ rfl rfl da_ ?_;(try clear hs hm a);rintro _ w_ ⟨g_,rfl,-,hm⟩ a hs)|(refine stn hs rfl rfl ds_ ?_;(try clear hs hm a);rintro-w_ hm a hs))|refine sc_ ?_|((with_reducible apply lCons);first|(refine dvc hs hm gw_ rfl rfl rfl rfl rfl (pl 123 rfl) (kvl _ _ _) ?_;(try clear hs hm a);intro w_ hm a hs))));(first|(have m_:=hm;have s_:=hs;clear hs;(try clear hm);revert m_ s_ a)|((first|refine rexc_ hs hm ?_|refine rexl_ hs hm ?_|refine rexg_ hs hm ?_|refine rexq_ hs hm ?_);intro a hm hs;revert hm hs a));(try revert w_);(repeat revert g_);exact k_.h):G:=s ⟨k⟩
structure DoX where
 k:Nat
 l:List Int
theorem On.set_f{y:OV}{f:FV}{R R':List Hp}(h:On R y.ok)(h':On R' f.ok):On (R++R') (OV.ok {y with f:=f}):=fun S w0 w M hm hM=>by
 have h1:=h.now hm fun z hz=>hM z (List.mem_append_left _ hz)
 exact⟨h1.ck,h1.rn,h1.ins,h'.now hm fun z hz=>hM z (List.mem_append_right _ hz),h1.us⟩
theorem On.set_us{y:OV}{u:OuL}{R R':List Hp}(h:On R y.ok)(h':On R' u.ok):On (R++R') (OV.ok {y with us:=u}):=fun S w0 w M hm hM=>by
 have h1:=h.now hm fun z hz=>hM z (List.mem_append_left _ hz)
 exact⟨h1.ck,h1.rn,h1.ins,h1.f,h'.now hm fun z hz=>hM z (List.mem_append_right _ hz)⟩
theorem On.set_ins{y:OV}{u:InL}{R R':List Hp}(h:On R y.ok)(h':On R' u.ok):On (R++R') (OV.ok {y with ins:=u}):=fun S w0 w M hm hM=>by
 have h1:=h.now hm fun z hz=>hM z (List.mem_append_left _ hz)
 exact⟨h1.ck,h1.rn,h'.now hm fun z hz=>hM z (List.mem_append_right _ hz),h1.f,h1.us⟩
theorem OV.val.set_f{y:OV}{f:FV}(h:y.val)(hf:f.d'.val):OV.val {y with f:=f}:=⟨h.ck,h.rn,h.ins,hf,h.us⟩
theorem OV.val.set_us{y:OV}{u:OuL}(h:y.val)(hf:OuS u.l):OV.val {y with us:=u}:=⟨h.ck,h.rn,h.ins,h.f,hf⟩
theorem OV.val.set_ins{y:OV}{u:InL}(h:y.val)(hf:u.val):OV.val {y with ins:=u}:=⟨h.ck,h.rn,hf,h.f,h.us⟩
theorem valR_on(n:Int)(ok:Bool)(R:List Hp):On R (valR n ok).ok:=fun _ _ _ _ _ _=>valR_ok n ok _
theorem three{l:List Int}(h:l.length=3):∃a b c,l=[a,b,c]:=by
 match l,h with
 |[a,b,c],_=>exact⟨a,b,c,rfl⟩
theorem do_g0 [HB](x:OV)(r:RqV)(wB:World)(hx:x.ok wB)(h:x.val)(hr:r.ok wB)(hrv:r.val)(hrk:r.kin)(hst:r.stop=1)(ha:r.call=3∨r.call=4∨r.call=5∨r.call=6∨r.call=7):Ret Tryz.prog 125 [x.v,r.v] wB (fun u w'=>∃(y:OV)(z:RsV)(R:List Hp),u= .tuple #[y.v,z.v,.int .i64 0]∧On R y.ok∧On R z.ok∧New wB w' R∧y.val∧z.fit∧z.spawn=-1∧z.wait=false∧Pu wB w'):=by
 have kv:=fun w'' (hf:Pu wB w'')=>oval_c x w'' (hx.pu hf) h
 have kq:=fun w'' (hf:Pu wB w'')=>rqval_c r w'' (hr.pu hf) hrv
 have kk:=fun w'' (hf:Pu wB w'')=>rkin_c r w'' (hr.pu hf) hrk
 have kc:=fun w'' (hf:Pu wB w'')=>ocpy_c x w'' (hx.pu hf) h
 obtain⟨th,stop,trap,cnt,pc,call,ra,rd⟩:=r
 dsimp only at hst ha
 subst hst
 have ka:=fun w''=>acts_c call w'' (by unfold actsF;omega)
 have kb:=fun w''=>buf_c call w'' (by omega)
 have hbf:bufF call=0:=by rcases ha with rfl|rfl|rfl|rfl|rfl<;>rfl
 rw[hbf]at kb
 have kvl:∀(n:Int)(b:Bool)(w'':World),Ret Tryz.prog 123 [.int .i64 n,.bool b] w'' (fun u w'=>u= .agg #[.int .u8 0,.int .u16 (IntKind.u16.wrap (failF n b)),.int .i64 0,.int .i64 0,.slice none 0 0,.int .i64 (-1),.bool false]∧Pu w'' w'):=fun n b w''=>vlu_c n b w''
 have hra:Rd wB wB.heap.size ra.A (cns ra.xs):=hr.a
 have hrdo:rd.ok wB:=hr.d
 have hrdn:rd.xs.length≤16:=hrv.d
 have hrdv:∀c∈rd.xs,c.val:=hrv.dv
 have hav:∀c∈ra.xs,c.val:=hrv.av
 have hal:ra.xs.length≤3:=hrv.a
 unfold RqV.v at kq kk ⊢
 unfold OV.v at kv kc ⊢
 dsimp only at kq kk ⊢
 refine enterR Tryz.func125 rfl rfl rfl fun a hs hm=>?_
 refine gcShj0_ ?_;clear hs hm a;intros;rename_i a hm hs
 obtain⟨g2,rfl⟩:=hs.pp 2
 obtain⟨g3,rfl⟩:=hs.pp 3
 obtain⟨g4,rfl⟩:=hs.pp 4
 obtain⟨g5,rfl⟩:=hs.pp 5
 refine st hs rfl rfl rfl (d_call hs rfl rfl rfl (pl 85 rfl) ((kc _ hm.fr))) ?_;clear hs a;rintro _ w1 ⟨y,R,rfl,hyo,hN,hyv,hyc,hyr,hf⟩ a hs
 replace hm:=gainE hm hf hN
 clear hN hf kc kv kq kk
 simp only[List.cons_append,List.nil_append]at hm
 refine gsab4d_ ?_;clear hs hm a;intros;rename_i a hm hs
 obtain⟨g7,rfl⟩:=hs.pp 7
 obtain⟨ga,rfl⟩:=hs.qq 8
 refine cMidE (.exit 0) (fun a w=>∃a0 a1 a2:Int,(∀(i:Nat) c,ra.xs[i]?=some c→[a0,a1,a2][i]?=some c.v)∧(∀v∈ [a0,a1,a2],0≤v∧v≤65535)∧Sl Tryz.f125.ntmps [(2,.pointer (some ⟨g2,0,none⟩)),(3,.pointer (some ⟨g3,0,none⟩)),(4,.pointer (some ⟨g4,0,none⟩)),(5,.pointer (some ⟨g5,0,none⟩)),(7,.pointer (some ⟨g7,0,none⟩)),(8,.slice (some ⟨ga,0,none⟩) 3 3)] a∧Mm (fun _=>False) wB (⟨some ga,3,[.int .i64 a0,.int .i64 a1,.int .i64 a2]⟩::⟨some g7,81,[.slice y.ck.A y.ck.xs.length y.ck.c,.slice y.rn.A y.rn.xs.length y.rn.c,.slice y.ins.A y.ins.qs.length y.ins.c,.slice y.f.dA y.f.ds.length y.f.dc,.slice y.f.oA y.f.os.length y.f.oc,.slice y.us.A y.us.us.length y.us.c]⟩::⟨some g5,175,[.int .u8 0,.int .u16 0,.int .i64 0,.int .i64 0,.slice none 0 0,.int .i64 0,.bool false]⟩::⟨some g4,81,[.slice none 0 0,.slice none 0 0,.slice none 0 0,.slice none 0 0,.slice none 0 0,.slice none 0 0]⟩::⟨some g3,173,[.int .i64 th,.int .i64 1,.int .i64 trap,.int .i64 cnt,.int .i64 pc,.int .i64 call,.slice ra.A ra.xs.length ra.c,.slice rd.A rd.xs.length rd.c]⟩::⟨some g2,81,[.slice x.ck.A x.ck.xs.length x.ck.c,.slice x.rn.A x.rn.xs.length x.rn.c,.slice x.ins.A x.ins.qs.length x.ins.c,.slice x.f.dA x.f.ds.length x.f.dc,.slice x.f.oA x.f.os.length x.f.oc,.slice x.us.A x.us.us.length x.us.c]⟩::R) w) ?_ ?_
 ·refine cLoop (X:=DoX) (fun X a w=>X.k≤ra.xs.length∧X.l.length=3∧(∀(i:Nat) c,i<X.k→ra.xs[i]?=some c→X.l[i]?=some c.v)∧(∀v∈X.l,0≤v∧v≤65535)∧Sl Tryz.f125.ntmps [(2,.pointer (some ⟨g2,0,none⟩)),(3,.pointer (some ⟨g3,0,none⟩)),(4,.pointer (some ⟨g4,0,none⟩)),(5,.pointer (some ⟨g5,0,none⟩)),(7,.pointer (some ⟨g7,0,none⟩)),(8,.slice (some ⟨ga,0,none⟩) 3 3),(74,.slice ra.A ra.xs.length ra.c),(75,.int .i64 (ra.xs.length:Int)),(76,.int .i64 (X.k:Int))] a∧Mm (fun _=>False) wB (⟨some ga,3,ints X.l⟩::⟨some g7,81,[.slice y.ck.A y.ck.xs.length y.ck.c,.slice y.rn.A y.rn.xs.length y.rn.c,.slice y.ins.A y.ins.qs.length y.ins.c,.slice y.f.dA y.f.ds.length y.f.dc,.slice y.f.oA y.f.os.length y.f.oc,.slice y.us.A y.us.us.length y.us.c]⟩::⟨some g5,175,[.int .u8 0,.int .u16 0,.int .i64 0,.int .i64 0,.slice none 0 0,.int .i64 0,.bool false]⟩::⟨some g4,81,[.slice none 0 0,.slice none 0 0,.slice none 0 0,.slice none 0 0,.slice none 0 0,.slice none 0 0]⟩::⟨some g3,173,[.int .i64 th,.int .i64 1,.int .i64 trap,.int .i64 cnt,.int .i64 pc,.int .i64 call,.slice ra.A ra.xs.length ra.c,.slice rd.A rd.xs.length rd.c]⟩::⟨some g2,81,[.slice x.ck.A x.ck.xs.length x.ck.c,.slice x.rn.A x.rn.xs.length x.rn.c,.slice x.ins.A x.ins.qs.length x.ins.c,.slice x.f.dA x.f.ds.length x.f.dc,.slice x.f.oA x.f.os.length x.f.oc,.slice x.us.A x.us.us.length x.us.c]⟩::R) w) (fun X=>ra.xs.length-X.k) ⟨0,[0,0,0]⟩ ⟨Nat.zero_le _,rfl,(fun i c hi=>absurd hi (Nat.not_lt_zero _)),(fun v hv=>by simp at hv;omega),(sb_ hs),hm⟩ ?_
  clear hs hm a
  rintro⟨k,l⟩ a w ⟨hk,hl3,hl,hlv,hs,hm⟩
  dsimp only at hk hl3 hl hlv hs hm
  by_cases hlt:k<ra.xs.length
  ·obtain⟨b4,o4,hA4,hb4,r4⟩:=hra.ro (by rw[cns_len];omega)
   have r3:=r4.flat CN.cs_len hlt
   have hcv:=hav _ (List.getElem_mem hlt)
   have hcx:ra.xs[k]?=some ra.xs[k]:=List.getElem?_eq_getElem hlt
   generalize ra.xs[k]=q at r3 hcv hcx
   unfold CN.cs at r3
   have hw:IntKind.i64.wrap q.v=q.v:=wrap_idP (by have:=hcv.v;omega)
   have hll:(ints l).length=3:=by rw[ints_len,hl3]
   rw[hA4]at hs hm
   refine gsab4d_ ?_;clear hs hm a;intros;rename_i a hm hs
   rw[hw]at hm
   rw[←hA4]at hs hm
   refine⟨⟨k+1,l.set k q.v⟩,by dsimp only;omega,by dsimp only;omega,by dsimp only;rw[List.length_set];exact hl3,fun i c hi hc=>?_,fun v hv=>?_,(sb_ hs),?_⟩
   ·dsimp only at hi ⊢
    by_cases hik:i=k
    ·subst hik
     rw[hcx]at hc
     obtain rfl:=Option.some.inj hc
     exact List.getElem?_set_self (by omega)
    ·rw[List.getElem?_set_ne (fun e=>hik e.symm)]
     exact hl i c (by omega) hc
   ·dsimp only at hv
    rcases List.mem_or_eq_of_mem_set hv with hv|rfl
    ·exact hlv v hv
    ·exact hcv.v
   ·dsimp only
    rw[show ints (l.set k q.v)=(ints l).set k (.int .i64 q.v)from List.map_set]
    exact hm.sub sub_
  ·obtain rfl:k=ra.xs.length:=by omega
   obtain⟨a0,a1,a2,rfl⟩:=three hl3
   refine gsab4d_ ?_;clear hs hm a;intros;rename_i a hm hs
   exact And.intro rfl ⟨a0,a1,a2,fun i c hc=>hl i c (List.getElem?_eq_some_iff.1 hc).1 hc,hlv,(sb_ hs),hm⟩
 clear hs hm a
 rintro a w ⟨a0,a1,a2,hargs,hargv,hs,hm⟩
 have hb0:=hargv a0 (by simp)
 have hb1':=hargv a1 (by simp)
 have hb2':=hargv a2 (by simp)
 refine gcShj1_ ?_;clear hs hm a;intros;rename_i a hm hs
 obtain⟨g11,rfl⟩:=hs.pp 11
 replace hm:=hm.sub (M':=⟨some g11,175,[.int .u8 0,.int .u16 (IntKind.u16.wrap (failF 0 false)),.int .i64 0,.int .i64 0,.slice none 0 0,.int .i64 (-1),.bool false]⟩::⟨some ga,3,[.int .i64 a0,.int .i64 a1,.int .i64 a2]⟩::⟨some g7,81,[.slice y.ck.A y.ck.xs.length y.ck.c,.slice y.rn.A y.rn.xs.length y.rn.c,.slice y.ins.A y.ins.qs.length y.ins.c,.slice y.f.dA y.f.ds.length y.f.dc,.slice y.f.oA y.f.os.length y.f.oc,.slice y.us.A y.us.us.length y.us.c]⟩::⟨some g5,175,[.int .u8 0,.int .u16 0,.int .i64 0,.int .i64 0,.slice none 0 0,.int .i64 0,.bool false]⟩::⟨some g4,81,[.slice none 0 0,.slice none 0 0,.slice none 0 0,.slice none 0 0,.slice none 0 0,.slice none 0 0]⟩::⟨some g3,173,[.int .i64 th,.int .i64 1,.int .i64 trap,.int .i64 cnt,.int .i64 pc,.int .i64 call,.slice ra.A ra.xs.length ra.c,.slice rd.A rd.xs.length rd.c]⟩::⟨some g2,81,[.slice x.ck.A x.ck.xs.length x.ck.c,.slice x.rn.A x.rn.xs.length x.rn.c,.slice x.ins.A x.ins.qs.length x.ins.c,.slice x.f.dA x.f.ds.length x.f.dc,.slice x.f.oA x.f.os.length x.f.oc,.slice x.us.A x.us.us.length x.us.c]⟩::R) sub_
 rcases ha with rfl|rfl|rfl|rfl|rfl
 ·refine gsab4d_ ?_;clear hs hm a;intros;rename_i a hm hs
  have kf:=fun w'' (hf:Pu wB w'')=>opn_c x.f a0 a1 w'' (hx.pu hf).f h.f
  unfold FV.v at kf
  refine cMid (fun a w=>∃(f:FV)(R':List Hp)(gf:Nat)(hd:Int),On R' f.ok∧f.d'.val∧-1≤hd∧hd≤7∧Sl Tryz.f125.ntmps [(2,.pointer (some ⟨g2,0,none⟩)),(3,.pointer (some ⟨g3,0,none⟩)),(4,.pointer (some ⟨g4,0,none⟩)),(5,.pointer (some ⟨g5,0,none⟩)),(7,.pointer (some ⟨g7,0,none⟩)),(8,.slice (some ⟨ga,0,none⟩) 3 3),(11,.pointer (some ⟨g11,0,none⟩)),(18,.pointer (some ⟨gf,0,none⟩)),(19,.int .i64 hd)] a∧Mm (fun _=>False) wB (⟨some gf,78,[.slice f.dA f.ds.length f.dc,.slice f.oA f.os.length f.oc]⟩::⟨some g11,175,[.int .u8 0,.int .u16 (IntKind.u16.wrap (failF 0 false)),.int .i64 0,.int .i64 0,.slice none 0 0,.int .i64 (-1),.bool false]⟩::⟨some ga,3,[.int .i64 a0,.int .i64 a1,.int .i64 a2]⟩::⟨some g7,81,[.slice y.ck.A y.ck.xs.length y.ck.c,.slice y.rn.A y.rn.xs.length y.rn.c,.slice y.ins.A y.ins.qs.length y.ins.c,.slice y.f.dA y.f.ds.length y.f.dc,.slice y.f.oA y.f.os.length y.f.oc,.slice y.us.A y.us.us.length y.us.c]⟩::⟨some g5,175,[.int .u8 0,.int .u16 0,.int .i64 0,.int .i64 0,.slice none 0 0,.int .i64 0,.bool false]⟩::⟨some g4,81,[.slice none 0 0,.slice none 0 0,.slice none 0 0,.slice none 0 0,.slice none 0 0,.slice none 0 0]⟩::⟨some g3,173,[.int .i64 th,.int .i64 1,.int .i64 trap,.int .i64 cnt,.int .i64 pc,.int .i64 3,.slice ra.A ra.xs.length ra.c,.slice rd.A rd.xs.length rd.c]⟩::⟨some g2,81,[.slice x.ck.A x.ck.xs.length x.ck.c,.slice x.rn.A x.rn.xs.length x.rn.c,.slice x.ins.A x.ins.qs.length x.ins.c,.slice x.f.dA x.f.ds.length x.f.dc,.slice x.f.oA x.f.os.length x.f.oc,.slice x.us.A x.us.us.length x.us.c]⟩::(R++R')) w) ?_ ?_
  ·with_reducible repeat(first|apply gThen|apply wp_seq)
   refine cDrawT (n:=15) (.s [0,1,2,3,4,5,6,7]<| .e [(8,.x<| .s [9,10,11]<| .o 12<| .o 13<| .t 14<| .d),(12,.o 8<| .x<| .s [9,10,11]<| .o 13<| .t 14<| .d)]) [⟨some ga,3,[.int .i64 a0,.int .i64 a1,.int .i64 a2]⟩,⟨some g3,173,[.int .i64 th,.int .i64 1,.int .i64 trap,.int .i64 cnt,.int .i64 pc,.int .i64 3,.slice ra.A ra.xs.length ra.c,.slice rd.A rd.xs.length rd.c]⟩,⟨some g2,81,[.slice x.ck.A x.ck.xs.length x.ck.c,.slice x.rn.A x.rn.xs.length x.rn.c,.slice x.ins.A x.ins.qs.length x.ins.c,.slice x.f.dA x.f.ds.length x.f.dc,.slice x.f.oA x.f.os.length x.f.oc,.slice x.us.A x.us.us.length x.us.c]⟩] hm rfl rfl ?_
   clear hm;intro t_ w1_ hm
   repeat' (first|(refine dg7dd6_ ?_;clear t_ hs hm a;intros;rename_i a hm hs t_)|refine tE t_ ?_|refine tC ?_ ?_|exact tN|intro t_|(refine oDo (i:=8) hs rfl (Wnt.none rfl) rfl rfl (by exact d_call hs rfl rfl rfl (pl 134 rfl) ((kf _ hm.fr))) ?_;clear hs;rintro _ w1 ⟨f,hd,R',rfl,hd1,hd2,hfo,hN,hfv,hf⟩ a hs;(replace hm:=gainE hm hf hN);(clear hf hN);(try simp only[List.cons_append,List.nil_append,List.append_assoc]at hm);replace t_:=tX t_;refine⟨(hm.sub sub_),?_⟩)|(refine tD t_ ?_;(obtain⟨gf,rfl⟩:=hs.pp 18);(exact And.intro rfl ⟨f,R',gf,hd,hfo,hfv,hd1,hd2,(sb_ hs),hm⟩))|fail)
  clear hs hm a
  rintro a w ⟨f,R',gf,hd,hfo,hfv,hd1,hd2,hs,hm⟩
  by_cases hh:0≤hd
  ·refine gsab4d_ ?_;clear hs hm a;intros;rename_i a hm hs
   refine cDrawT (n:=5) (.s [0,1]<| .o 2<| .o 3<| .t 4<| .d) [⟨some g11,175,[.int .u8 2,.int .u16 (IntKind.u16.wrap hd),.int .i64 0,.int .i64 0,.slice none 0 0,.int .i64 (-1),.bool false]⟩,⟨some g7,81,[.slice y.ck.A y.ck.xs.length y.ck.c,.slice y.rn.A y.rn.xs.length y.rn.c,.slice y.ins.A y.ins.qs.length y.ins.c,.slice f.dA f.ds.length f.dc,.slice f.oA f.os.length f.oc,.slice y.us.A y.us.us.length y.us.c]⟩] hm rfl rfl ?_
   clear hm;intro t_ w1_ hm
   repeat' (first|(refine dg7dd6_ ?_;clear t_ hs hm a;intros;rename_i a hm hs t_)|refine tE t_ ?_|refine tC ?_ ?_|exact tN|intro t_|(refine tD t_ ?_;(refine gsab4d_ ?_;clear hs hm a;intros;rename_i a hm hs);(exact gRetN tab hs rfl (.cons (.cells rfl rfl rfl rfl (hm.ro (k:=0) (n:=6) (g:=g4) mem_ (cutF_ok rfl))) (.cons (.cells rfl rfl rfl rfl (hm.ro (k:=0) (n:=7) (g:=g5) mem_ (cutF_ok rfl))) (.cons (.tmp rfl) .nil))) ⟨{y with f:=f},⟨⟨2,IntKind.u16.wrap hd,0,0⟩,⟨none,0,[]⟩,-1,false⟩,R++R',rfl,hyo.set_f hfo,(fun _ _ _ _ _ _=>nilC_ok 0 _),hm.new sub_,hyv.set_f hfv,⟨⟨.inr (.inl rfl),u16_bd _,(fun _=>⟨rfl,rfl⟩),(fun e=>by cases e)⟩,Nat.zero_le _,(fun c hc=>by cases hc),by dsimp only;omega⟩,rfl,rfl,hm.fr⟩))|fail)
  ·refine gsab4d_ ?_;clear hs hm a;intros;rename_i a hm hs
   refine cDrawT (n:=5) (.s [0,1]<| .o 2<| .o 3<| .t 4<| .d) [⟨some g11,175,[.int .u8 0,.int .u16 (IntKind.u16.wrap (failF 0 false)),.int .i64 0,.int .i64 0,.slice none 0 0,.int .i64 (-1),.bool false]⟩,⟨some g7,81,[.slice y.ck.A y.ck.xs.length y.ck.c,.slice y.rn.A y.rn.xs.length y.rn.c,.slice y.ins.A y.ins.qs.length y.ins.c,.slice f.dA f.ds.length f.dc,.slice f.oA f.os.length f.oc,.slice y.us.A y.us.us.length y.us.c]⟩] hm rfl rfl ?_
   clear hm;intro t_ w1_ hm
   repeat' (first|(refine dg7dd6_ ?_;clear t_ hs hm a;intros;rename_i a hm hs t_)|refine tE t_ ?_|refine tC ?_ ?_|exact tN|intro t_|(refine tD t_ ?_;(refine gsab4d_ ?_;clear hs hm a;intros;rename_i a hm hs);(exact gRetN tab hs rfl (.cons (.cells rfl rfl rfl rfl (hm.ro (k:=0) (n:=6) (g:=g4) mem_ (cutF_ok rfl))) (.cons (.cells rfl rfl rfl rfl (hm.ro (k:=0) (n:=7) (g:=g5) mem_ (cutF_ok rfl))) (.cons (.tmp rfl) .nil))) ⟨{y with f:=f},valR 0 false,R++R',rfl,hyo.set_f hfo,valR_on 0 false _,hm.new sub_,hyv.set_f hfv,valR_fit 0 false,rfl,rfl,hm.fr⟩))|fail)
 ·refine gsab4d_ ?_;clear hs hm a;intros;rename_i a hm hs
  have kf:=fun w'' (hf:Pu wB w'')=>clos_c x.f a0 w'' (hx.pu hf).f h.f
  unfold FV.v at kf
  refine cMid (fun a w=>∃(f:FV)(R':List Hp)(gf:Nat)(b:Bool),On R' f.ok∧f.d'.val∧Sl Tryz.f125.ntmps [(2,.pointer (some ⟨g2,0,none⟩)),(3,.pointer (some ⟨g3,0,none⟩)),(4,.pointer (some ⟨g4,0,none⟩)),(5,.pointer (some ⟨g5,0,none⟩)),(7,.pointer (some ⟨g7,0,none⟩)),(8,.slice (some ⟨ga,0,none⟩) 3 3),(11,.pointer (some ⟨g11,0,none⟩)),(20,.pointer (some ⟨gf,0,none⟩)),(21,.bool b)] a∧Mm (fun _=>False) wB (⟨some gf,78,[.slice f.dA f.ds.length f.dc,.slice f.oA f.os.length f.oc]⟩::⟨some g11,175,[.int .u8 0,.int .u16 (IntKind.u16.wrap (failF 0 false)),.int .i64 0,.int .i64 0,.slice none 0 0,.int .i64 (-1),.bool false]⟩::⟨some ga,3,[.int .i64 a0,.int .i64 a1,.int .i64 a2]⟩::⟨some g7,81,[.slice y.ck.A y.ck.xs.length y.ck.c,.slice y.rn.A y.rn.xs.length y.rn.c,.slice y.ins.A y.ins.qs.length y.ins.c,.slice y.f.dA y.f.ds.length y.f.dc,.slice y.f.oA y.f.os.length y.f.oc,.slice y.us.A y.us.us.length y.us.c]⟩::⟨some g5,175,[.int .u8 0,.int .u16 0,.int .i64 0,.int .i64 0,.slice none 0 0,.int .i64 0,.bool false]⟩::⟨some g4,81,[.slice none 0 0,.slice none 0 0,.slice none 0 0,.slice none 0 0,.slice none 0 0,.slice none 0 0]⟩::⟨some g3,173,[.int .i64 th,.int .i64 1,.int .i64 trap,.int .i64 cnt,.int .i64 pc,.int .i64 4,.slice ra.A ra.xs.length ra.c,.slice rd.A rd.xs.length rd.c]⟩::⟨some g2,81,[.slice x.ck.A x.ck.xs.length x.ck.c,.slice x.rn.A x.rn.xs.length x.rn.c,.slice x.ins.A x.ins.qs.length x.ins.c,.slice x.f.dA x.f.ds.length x.f.dc,.slice x.f.oA x.f.os.length x.f.oc,.slice x.us.A x.us.us.length x.us.c]⟩::(R++R')) w) ?_ ?_
  ·with_reducible repeat(first|apply gThen|apply wp_seq)
   refine cDrawT (n:=12) (.s [0,1,2,3,4]<| .e [(5,.x<| .s [6,7,8]<| .o 9<| .o 10<| .t 11<| .d),(9,.o 5<| .x<| .s [6,7,8]<| .o 10<| .t 11<| .d)]) [⟨some ga,3,[.int .i64 a0,.int .i64 a1,.int .i64 a2]⟩,⟨some g3,173,[.int .i64 th,.int .i64 1,.int .i64 trap,.int .i64 cnt,.int .i64 pc,.int .i64 4,.slice ra.A ra.xs.length ra.c,.slice rd.A rd.xs.length rd.c]⟩,⟨some g2,81,[.slice x.ck.A x.ck.xs.length x.ck.c,.slice x.rn.A x.rn.xs.length x.rn.c,.slice x.ins.A x.ins.qs.length x.ins.c,.slice x.f.dA x.f.ds.length x.f.dc,.slice x.f.oA x.f.os.length x.f.oc,.slice x.us.A x.us.us.length x.us.c]⟩] hm rfl rfl ?_
   clear hm;intro t_ w1_ hm
   repeat' (first|(refine dg7dd6_ ?_;clear t_ hs hm a;intros;rename_i a hm hs t_)|refine tE t_ ?_|refine tC ?_ ?_|exact tN|intro t_|(refine oDo (i:=5) hs rfl (Wnt.none rfl) rfl rfl (by exact d_call hs rfl rfl rfl (pl 135 rfl) ((kf _ hm.fr))) ?_;clear hs;rintro _ w1 ⟨f,b,R',rfl,hfo,hN,hfv,hf⟩ a hs;(replace hm:=gainE hm hf hN);(clear hf hN);(try simp only[List.cons_append,List.nil_append,List.append_assoc]at hm);replace t_:=tX t_;refine⟨(hm.sub sub_),?_⟩)|(refine tD t_ ?_;(obtain⟨gf,rfl⟩:=hs.pp 20);(exact And.intro rfl ⟨f,R',gf,b,hfo,hfv,(sb_ hs),hm⟩))|fail)
  clear hs hm a
  rintro a w ⟨f,R',gf,b,hfo,hfv,hs,hm⟩
  refine cMid (fun a w=>Sl Tryz.f125.ntmps [(4,.pointer (some ⟨g4,0,none⟩)),(5,.pointer (some ⟨g5,0,none⟩)),(7,.pointer (some ⟨g7,0,none⟩)),(11,.pointer (some ⟨g11,0,none⟩))] a∧Mm (fun _=>False) wB (⟨some g11,175,[.int .u8 0,.int .u16 (IntKind.u16.wrap (failF 0 b)),.int .i64 0,.int .i64 0,.slice none 0 0,.int .i64 (-1),.bool false]⟩::⟨some g7,81,[.slice y.ck.A y.ck.xs.length y.ck.c,.slice y.rn.A y.rn.xs.length y.rn.c,.slice y.ins.A y.ins.qs.length y.ins.c,.slice f.dA f.ds.length f.dc,.slice f.oA f.os.length f.oc,.slice y.us.A y.us.us.length y.us.c]⟩::⟨some g5,175,[.int .u8 0,.int .u16 0,.int .i64 0,.int .i64 0,.slice none 0 0,.int .i64 0,.bool false]⟩::⟨some g4,81,[.slice none 0 0,.slice none 0 0,.slice none 0 0,.slice none 0 0,.slice none 0 0,.slice none 0 0]⟩::(R++R')) w) ?_ ?_
  ·with_reducible repeat(first|apply gThen|apply wp_seq)
   refine cDrawT (n:=6) (.s [0,1,3]<| .o 2<| .x<| .o 4<| .o 5<| .d) [⟨some gf,78,[.slice f.dA f.ds.length f.dc,.slice f.oA f.os.length f.oc]⟩] hm rfl rfl ?_
   clear hm;intro t_ w1_ hm
   repeat' (first|(refine dg7dd6_ ?_;clear t_ hs hm a;intros;rename_i a hm hs t_)|refine tE t_ ?_|refine tC ?_ ?_|exact tN|intro t_|(refine oDo (i:=2) hs rfl (Wnt.none rfl) rfl rfl (by exact d_call hs rfl rfl rfl (pl 123 rfl) ((kvl _ _ _))) ?_;clear hs;rintro _ w1 ⟨rfl,hf⟩ a hs;(replace hm:=hm.pu hf);(clear hf);replace t_:=tX t_;refine⟨(hm.sub sub_),?_⟩)|(refine tD t_ ?_;(exact And.intro rfl ⟨(sb_ hs),hm.sub sub_⟩))|fail)
  clear hs hm a
  rintro a w ⟨hs,hm⟩
  refine gsab4d_ ?_;clear hs hm a;intros;rename_i a hm hs
  refine cDrawT (n:=5) (.s [0,1]<| .o 2<| .o 3<| .t 4<| .d) [⟨some g11,175,[.int .u8 0,.int .u16 (IntKind.u16.wrap (failF 0 b)),.int .i64 0,.int .i64 0,.slice none 0 0,.int .i64 (-1),.bool false]⟩,⟨some g7,81,[.slice y.ck.A y.ck.xs.length y.ck.c,.slice y.rn.A y.rn.xs.length y.rn.c,.slice y.ins.A y.ins.qs.length y.ins.c,.slice f.dA f.ds.length f.dc,.slice f.oA f.os.length f.oc,.slice y.us.A y.us.us.length y.us.c]⟩] hm rfl rfl ?_
  clear hm;intro t_ w1_ hm
  repeat' (first|(refine dg7dd6_ ?_;clear t_ hs hm a;intros;rename_i a hm hs t_)|refine tE t_ ?_|refine tC ?_ ?_|exact tN|intro t_|(refine tD t_ ?_;(refine gsab4d_ ?_;clear hs hm a;intros;rename_i a hm hs);(exact gRetN tab hs rfl (.cons (.cells rfl rfl rfl rfl (hm.ro (k:=0) (n:=6) (g:=g4) mem_ (cutF_ok rfl))) (.cons (.cells rfl rfl rfl rfl (hm.ro (k:=0) (n:=7) (g:=g5) mem_ (cutF_ok rfl))) (.cons (.tmp rfl) .nil))) ⟨{y with f:=f},valR 0 b,R++R',rfl,hyo.set_f hfo,valR_on _ b _,hm.new sub_,hyv.set_f hfv,valR_fit _ b,rfl,rfl,hm.fr⟩))|fail)
 ·refine gsab4d_ ?_;clear hs hm a;intros;rename_i a hm hs
  have kf:=fun w'' (hf:Pu wB w'')=>seek_c x.f a0 a1 w'' (hx.pu hf).f h.f
  unfold FV.v at kf
  refine cMid (fun a w=>∃(f:FV)(R':List Hp)(gf:Nat)(b:Bool),On R' f.ok∧f.d'.val∧Sl Tryz.f125.ntmps [(2,.pointer (some ⟨g2,0,none⟩)),(3,.pointer (some ⟨g3,0,none⟩)),(4,.pointer (some ⟨g4,0,none⟩)),(5,.pointer (some ⟨g5,0,none⟩)),(7,.pointer (some ⟨g7,0,none⟩)),(8,.slice (some ⟨ga,0,none⟩) 3 3),(11,.pointer (some ⟨g11,0,none⟩)),(22,.pointer (some ⟨gf,0,none⟩)),(23,.bool b)] a∧Mm (fun _=>False) wB (⟨some gf,78,[.slice f.dA f.ds.length f.dc,.slice f.oA f.os.length f.oc]⟩::⟨some g11,175,[.int .u8 0,.int .u16 (IntKind.u16.wrap (failF 0 false)),.int .i64 0,.int .i64 0,.slice none 0 0,.int .i64 (-1),.bool false]⟩::⟨some ga,3,[.int .i64 a0,.int .i64 a1,.int .i64 a2]⟩::⟨some g7,81,[.slice y.ck.A y.ck.xs.length y.ck.c,.slice y.rn.A y.rn.xs.length y.rn.c,.slice y.ins.A y.ins.qs.length y.ins.c,.slice y.f.dA y.f.ds.length y.f.dc,.slice y.f.oA y.f.os.length y.f.oc,.slice y.us.A y.us.us.length y.us.c]⟩::⟨some g5,175,[.int .u8 0,.int .u16 0,.int .i64 0,.int .i64 0,.slice none 0 0,.int .i64 0,.bool false]⟩::⟨some g4,81,[.slice none 0 0,.slice none 0 0,.slice none 0 0,.slice none 0 0,.slice none 0 0,.slice none 0 0]⟩::⟨some g3,173,[.int .i64 th,.int .i64 1,.int .i64 trap,.int .i64 cnt,.int .i64 pc,.int .i64 5,.slice ra.A ra.xs.length ra.c,.slice rd.A rd.xs.length rd.c]⟩::⟨some g2,81,[.slice x.ck.A x.ck.xs.length x.ck.c,.slice x.rn.A x.rn.xs.length x.rn.c,.slice x.ins.A x.ins.qs.length x.ins.c,.slice x.f.dA x.f.ds.length x.f.dc,.slice x.f.oA x.f.os.length x.f.oc,.slice x.us.A x.us.us.length x.us.c]⟩::(R++R')) w) ?_ ?_
  ·with_reducible repeat(first|apply gThen|apply wp_seq)
   refine cDrawT (n:=15) (.s [0,1,2,3,4,5,6,7]<| .e [(8,.x<| .s [9,10,11]<| .o 12<| .o 13<| .t 14<| .d),(12,.o 8<| .x<| .s [9,10,11]<| .o 13<| .t 14<| .d)]) [⟨some ga,3,[.int .i64 a0,.int .i64 a1,.int .i64 a2]⟩,⟨some g3,173,[.int .i64 th,.int .i64 1,.int .i64 trap,.int .i64 cnt,.int .i64 pc,.int .i64 5,.slice ra.A ra.xs.length ra.c,.slice rd.A rd.xs.length rd.c]⟩,⟨some g2,81,[.slice x.ck.A x.ck.xs.length x.ck.c,.slice x.rn.A x.rn.xs.length x.rn.c,.slice x.ins.A x.ins.qs.length x.ins.c,.slice x.f.dA x.f.ds.length x.f.dc,.slice x.f.oA x.f.os.length x.f.oc,.slice x.us.A x.us.us.length x.us.c]⟩] hm rfl rfl ?_
   clear hm;intro t_ w1_ hm
   repeat' (first|(refine dg7dd6_ ?_;clear t_ hs hm a;intros;rename_i a hm hs t_)|refine tE t_ ?_|refine tC ?_ ?_|exact tN|intro t_|(refine oDo (i:=8) hs rfl (Wnt.none rfl) rfl rfl (by exact d_call hs rfl rfl rfl (pl 136 rfl) ((kf _ hm.fr))) ?_;clear hs;rintro _ w1 ⟨f,b,R',rfl,hfo,hN,hfv,hf⟩ a hs;(replace hm:=gainE hm hf hN);(clear hf hN);(try simp only[List.cons_append,List.nil_append,List.append_assoc]at hm);replace t_:=tX t_;refine⟨(hm.sub sub_),?_⟩)|(refine tD t_ ?_;(obtain⟨gf,rfl⟩:=hs.pp 22);(exact And.intro rfl ⟨f,R',gf,b,hfo,hfv,(sb_ hs),hm⟩))|fail)
  clear hs hm a
  rintro a w ⟨f,R',gf,b,hfo,hfv,hs,hm⟩
  refine cMid (fun a w=>Sl Tryz.f125.ntmps [(4,.pointer (some ⟨g4,0,none⟩)),(5,.pointer (some ⟨g5,0,none⟩)),(7,.pointer (some ⟨g7,0,none⟩)),(11,.pointer (some ⟨g11,0,none⟩))] a∧Mm (fun _=>False) wB (⟨some g11,175,[.int .u8 0,.int .u16 (IntKind.u16.wrap (failF 0 b)),.int .i64 0,.int .i64 0,.slice none 0 0,.int .i64 (-1),.bool false]⟩::⟨some g7,81,[.slice y.ck.A y.ck.xs.length y.ck.c,.slice y.rn.A y.rn.xs.length y.rn.c,.slice y.ins.A y.ins.qs.length y.ins.c,.slice f.dA f.ds.length f.dc,.slice f.oA f.os.length f.oc,.slice y.us.A y.us.us.length y.us.c]⟩::⟨some g5,175,[.int .u8 0,.int .u16 0,.int .i64 0,.int .i64 0,.slice none 0 0,.int .i64 0,.bool false]⟩::⟨some g4,81,[.slice none 0 0,.slice none 0 0,.slice none 0 0,.slice none 0 0,.slice none 0 0,.slice none 0 0]⟩::(R++R')) w) ?_ ?_
  ·with_reducible repeat(first|apply gThen|apply wp_seq)
   refine cDrawT (n:=6) (.s [0,1,3]<| .o 2<| .x<| .o 4<| .o 5<| .d) [⟨some gf,78,[.slice f.dA f.ds.length f.dc,.slice f.oA f.os.length f.oc]⟩] hm rfl rfl ?_
   clear hm;intro t_ w1_ hm
   repeat' (first|(refine dg7dd6_ ?_;clear t_ hs hm a;intros;rename_i a hm hs t_)|refine tE t_ ?_|refine tC ?_ ?_|exact tN|intro t_|(refine oDo (i:=2) hs rfl (Wnt.none rfl) rfl rfl (by exact d_call hs rfl rfl rfl (pl 123 rfl) ((kvl _ _ _))) ?_;clear hs;rintro _ w1 ⟨rfl,hf⟩ a hs;(replace hm:=hm.pu hf);(clear hf);replace t_:=tX t_;refine⟨(hm.sub sub_),?_⟩)|(refine tD t_ ?_;(exact And.intro rfl ⟨(sb_ hs),hm.sub sub_⟩))|fail)
  clear hs hm a
  rintro a w ⟨hs,hm⟩
  refine gsab4d_ ?_;clear hs hm a;intros;rename_i a hm hs
  refine cDrawT (n:=5) (.s [0,1]<| .o 2<| .o 3<| .t 4<| .d) [⟨some g11,175,[.int .u8 0,.int .u16 (IntKind.u16.wrap (failF 0 b)),.int .i64 0,.int .i64 0,.slice none 0 0,.int .i64 (-1),.bool false]⟩,⟨some g7,81,[.slice y.ck.A y.ck.xs.length y.ck.c,.slice y.rn.A y.rn.xs.length y.rn.c,.slice y.ins.A y.ins.qs.length y.ins.c,.slice f.dA f.ds.length f.dc,.slice f.oA f.os.length f.oc,.slice y.us.A y.us.us.length y.us.c]⟩] hm rfl rfl ?_
  clear hm;intro t_ w1_ hm
  repeat' (first|(refine dg7dd6_ ?_;clear t_ hs hm a;intros;rename_i a hm hs t_)|refine tE t_ ?_|refine tC ?_ ?_|exact tN|intro t_|(refine tD t_ ?_;(refine gsab4d_ ?_;clear hs hm a;intros;rename_i a hm hs);(exact gRetN tab hs rfl (.cons (.cells rfl rfl rfl rfl (hm.ro (k:=0) (n:=6) (g:=g4) mem_ (cutF_ok rfl))) (.cons (.cells rfl rfl rfl rfl (hm.ro (k:=0) (n:=7) (g:=g5) mem_ (cutF_ok rfl))) (.cons (.tmp rfl) .nil))) ⟨{y with f:=f},valR 0 b,R++R',rfl,hyo.set_f hfo,valR_on _ b _,hm.new sub_,hyv.set_f hfv,valR_fit _ b,rfl,rfl,hm.fr⟩))|fail)
 ·refine gsab4d_ ?_;clear hs hm a;intros;rename_i a hm hs
  have hxw:Rd wB wB.heap.size x.ck.A (wds x.ck.xs):=hx.ck
  by_cases hz:x.ck.xs.length=0
  ·refine gsab4d_ ?_;clear hs hm a;intros;rename_i a hm hs
   refine cDrawT (n:=5) (.s [0,1]<| .o 2<| .o 3<| .t 4<| .d) [⟨some g11,175,[.int .u8 0,.int .u16 (IntKind.u16.wrap (failF 0 false)),.int .i64 0,.int .i64 0,.slice none 0 0,.int .i64 (-1),.bool false]⟩,⟨some g7,81,[.slice y.ck.A y.ck.xs.length y.ck.c,.slice y.rn.A y.rn.xs.length y.rn.c,.slice y.ins.A y.ins.qs.length y.ins.c,.slice y.f.dA y.f.ds.length y.f.dc,.slice y.f.oA y.f.os.length y.f.oc,.slice y.us.A y.us.us.length y.us.c]⟩] hm rfl rfl ?_
   clear hm;intro t_ w1_ hm
   repeat' (first|(refine dg7dd6_ ?_;clear t_ hs hm a;intros;rename_i a hm hs t_)|refine tE t_ ?_|refine tC ?_ ?_|exact tN|intro t_|(refine tD t_ ?_;(refine gsab4d_ ?_;clear hs hm a;intros;rename_i a hm hs);(exact gRetN tab hs rfl (.cons (.cells rfl rfl rfl rfl (hm.ro (k:=0) (n:=6) (g:=g4) mem_ (cutF_ok rfl))) (.cons (.cells rfl rfl rfl rfl (hm.ro (k:=0) (n:=7) (g:=g5) mem_ (cutF_ok rfl))) (.cons (.tmp rfl) .nil))) ⟨y,valR 0 false,R,rfl,hyo,valR_on 0 false _,hm.new sub_,hyv,valR_fit 0 false,rfl,rfl,hm.fr⟩))|fail)
  ·have hyl:y.ck.xs.length=x.ck.xs.length:=by rw[hyc]
   obtain⟨b5,o5,hA5,hb5,r5⟩:=hxw.ro (by rw[wds_len2];omega)
   obtain⟨v0,hv0⟩:∃v,(wds x.ck.xs)[0]?=some (.int .u16 v):=⟨x.ck.xs[0]'(by omega),by unfold wds;rw[List.getElem?_map,List.getElem?_eq_getElem (by omega)];rfl⟩
   have hyw:=hyv.ck
   have hyw1:=hyw.1
   rw[hA5]at hm
   refine gsab4d_ ?_;clear hs hm a;intros;rename_i a hm hs
   refine cMid (fun a w=>Sl Tryz.f125.ntmps [(4,.pointer (some ⟨g4,0,none⟩)),(5,.pointer (some ⟨g5,0,none⟩)),(7,.pointer (some ⟨g7,0,none⟩)),(11,.pointer (some ⟨g11,0,none⟩))] a∧Mm (fun _=>False) wB (⟨some g11,175,[.int .u8 0,.int .u16 (IntKind.u16.wrap (failF (IntKind.i64.wrap v0) true)),.int .i64 0,.int .i64 0,.slice none 0 0,.int .i64 (-1),.bool false]⟩::⟨some g7,81,[.slice (if y.ck.c=(1:Int).toNat then y.ck.A else y.ck.A.map (·.add ((1:Int).toNat*1))) (y.ck.xs.length-1) (y.ck.c-1),.slice y.rn.A y.rn.xs.length y.rn.c,.slice y.ins.A y.ins.qs.length y.ins.c,.slice y.f.dA y.f.ds.length y.f.dc,.slice y.f.oA y.f.os.length y.f.oc,.slice y.us.A y.us.us.length y.us.c]⟩::⟨some g5,175,[.int .u8 0,.int .u16 0,.int .i64 0,.int .i64 0,.slice none 0 0,.int .i64 0,.bool false]⟩::⟨some g4,81,[.slice none 0 0,.slice none 0 0,.slice none 0 0,.slice none 0 0,.slice none 0 0,.slice none 0 0]⟩::R) w) ?_ ?_
   ·with_reducible repeat(first|apply gThen|apply wp_seq)
    refine cDrawTB (n:=12) (.s [0,1,2,3,4,6,7,8]<| .o 5<| .x<| .o 9<| .t 10<| .o 11<| .d) 11 [⟨some g7,81,[.slice y.ck.A y.ck.xs.length y.ck.c,.slice y.rn.A y.rn.xs.length y.rn.c,.slice y.ins.A y.ins.qs.length y.ins.c,.slice y.f.dA y.f.ds.length y.f.dc,.slice y.f.oA y.f.os.length y.f.oc,.slice y.us.A y.us.us.length y.us.c]⟩,⟨some g2,81,[.slice (some ⟨b5,o5,none⟩) x.ck.xs.length x.ck.c,.slice x.rn.A x.rn.xs.length x.rn.c,.slice x.ins.A x.ins.qs.length x.ins.c,.slice x.f.dA x.f.ds.length x.f.dc,.slice x.f.oA x.f.os.length x.f.oc,.slice x.us.A x.us.us.length x.us.c]⟩] hm rfl rfl ?_
    clear hm;intro t_ w1_ hm
    repeat' (first|(refine dgd265_ ?_;clear t_ hs hm a;intros;rename_i a hm hs t_)|refine tEB t_ ?_|refine tCB ?_ ?_|exact tNB|intro t_|(refine oDoB (i:=5) hs rfl (Wnt.none rfl) rfl rfl (by exact d_call hs rfl rfl rfl (pl 123 rfl) ((kvl _ _ _))) ?_;clear hs;rintro _ w1 ⟨rfl,hf⟩ a hs;(replace hm:=hm.pu hf);(clear hf);replace t_:=tX t_;refine⟨bu_,?_⟩)|(refine tDB t_ ?_;(exact And.intro rfl ⟨(sb_ hs),hm.sub sub_⟩))|fail)
   clear hs hm a
   rintro a w ⟨hs,hm⟩
   have hvs:OV.vs {y with ck:=⟨(if y.ck.c=(1:Int).toNat then y.ck.A else y.ck.A.map (·.add ((1:Int).toNat*1))),y.ck.c-1,y.ck.xs.drop 1⟩}=[.slice (if y.ck.c=(1:Int).toNat then y.ck.A else y.ck.A.map (·.add ((1:Int).toNat*1))) (y.ck.xs.length-1) (y.ck.c-1),.slice y.rn.A y.rn.xs.length y.rn.c,.slice y.ins.A y.ins.qs.length y.ins.c,.slice y.f.dA y.f.ds.length y.f.dc,.slice y.f.oA y.f.os.length y.f.oc,.slice y.us.A y.us.us.length y.us.c]:=by unfold OV.vs;dsimp only;rw[List.length_drop]
   have hon:On R (OV.ok {y with ck:=⟨(if y.ck.c=(1:Int).toNat then y.ck.A else y.ck.A.map (·.add ((1:Int).toNat*1))),y.ck.c-1,y.ck.xs.drop 1⟩}):=fun S w0 w M hm hM=>by
    have h1:=hyo.now hm hM
    exact⟨wds_cut (o:=1) h1.ck (by omega) (by omega),h1.rn,h1.ins,h1.f,h1.us⟩
   have hval:OV.val {y with ck:=⟨(if y.ck.c=(1:Int).toNat then y.ck.A else y.ck.A.map (·.add ((1:Int).toNat*1))),y.ck.c-1,y.ck.xs.drop 1⟩}:=⟨⟨by dsimp only;rw[List.length_drop];omega,by dsimp only;rw[List.length_drop];have:=hyw.2.1;omega,fun v hv=>hyw.2.2 v (List.mem_of_mem_drop hv)⟩,hyv.rn,hyv.ins,hyv.f,hyv.us⟩
   refine gsab4d_ ?_;clear hs hm a;intros;rename_i a hm hs
   refine cDrawT (n:=5) (.s [0,1]<| .o 2<| .o 3<| .t 4<| .d) [⟨some g11,175,[.int .u8 0,.int .u16 (IntKind.u16.wrap (failF (IntKind.i64.wrap v0) true)),.int .i64 0,.int .i64 0,.slice none 0 0,.int .i64 (-1),.bool false]⟩,⟨some g7,81,[.slice (if y.ck.c=(1:Int).toNat then y.ck.A else y.ck.A.map (·.add ((1:Int).toNat*1))) (y.ck.xs.length-1) (y.ck.c-1),.slice y.rn.A y.rn.xs.length y.rn.c,.slice y.ins.A y.ins.qs.length y.ins.c,.slice y.f.dA y.f.ds.length y.f.dc,.slice y.f.oA y.f.os.length y.f.oc,.slice y.us.A y.us.us.length y.us.c]⟩] hm rfl rfl ?_
   clear hm;intro t_ w1_ hm
   repeat' (first|(refine dg7dd6_ ?_;clear t_ hs hm a;intros;rename_i a hm hs t_)|refine tE t_ ?_|refine tC ?_ ?_|exact tN|intro t_|(refine tD t_ ?_;(refine gsab4d_ ?_;clear hs hm a;intros;rename_i a hm hs);(exact gRetN tab hs rfl (.cons (.cells rfl rfl rfl rfl (hm.ro (k:=0) (n:=6) (g:=g4) mem_ (cutF_ok rfl))) (.cons (.cells rfl rfl rfl rfl (hm.ro (k:=0) (n:=7) (g:=g5) mem_ (cutF_ok rfl))) (.cons (.tmp rfl) .nil))) ⟨{y with ck:=⟨(if y.ck.c=(1:Int).toNat then y.ck.A else y.ck.A.map (·.add ((1:Int).toNat*1))),y.ck.c-1,y.ck.xs.drop 1⟩},valR (IntKind.i64.wrap v0) true,R,by dsimp only;rw[List.length_drop];rfl,hon,valR_on _ true _,hm.new sub_,hval,valR_fit _ true,rfl,rfl,hm.fr⟩))|fail)
 ·refine gsab4d_ ?_;clear hs hm a;intros;rename_i a hm hs
  have hxw:Rd wB wB.heap.size x.rn.A (wds x.rn.xs):=hx.rn
  by_cases hz:x.rn.xs.length=0
  ·refine gsab4d_ ?_;clear hs hm a;intros;rename_i a hm hs
   refine cDrawT (n:=5) (.s [0,1]<| .o 2<| .o 3<| .t 4<| .d) [⟨some g11,175,[.int .u8 0,.int .u16 (IntKind.u16.wrap (failF 0 false)),.int .i64 0,.int .i64 0,.slice none 0 0,.int .i64 (-1),.bool false]⟩,⟨some g7,81,[.slice y.ck.A y.ck.xs.length y.ck.c,.slice y.rn.A y.rn.xs.length y.rn.c,.slice y.ins.A y.ins.qs.length y.ins.c,.slice y.f.dA y.f.ds.length y.f.dc,.slice y.f.oA y.f.os.length y.f.oc,.slice y.us.A y.us.us.length y.us.c]⟩] hm rfl rfl ?_
   clear hm;intro t_ w1_ hm
   repeat' (first|(refine dg7dd6_ ?_;clear t_ hs hm a;intros;rename_i a hm hs t_)|refine tE t_ ?_|refine tC ?_ ?_|exact tN|intro t_|(refine tD t_ ?_;(refine gsab4d_ ?_;clear hs hm a;intros;rename_i a hm hs);(exact gRetN tab hs rfl (.cons (.cells rfl rfl rfl rfl (hm.ro (k:=0) (n:=6) (g:=g4) mem_ (cutF_ok rfl))) (.cons (.cells rfl rfl rfl rfl (hm.ro (k:=0) (n:=7) (g:=g5) mem_ (cutF_ok rfl))) (.cons (.tmp rfl) .nil))) ⟨y,valR 0 false,R,rfl,hyo,valR_on 0 false _,hm.new sub_,hyv,valR_fit 0 false,rfl,rfl,hm.fr⟩))|fail)
  ·have hyl:y.rn.xs.length=x.rn.xs.length:=by rw[hyr]
   obtain⟨b5,o5,hA5,hb5,r5⟩:=hxw.ro (by rw[wds_len2];omega)
   obtain⟨v0,hv0⟩:∃v,(wds x.rn.xs)[0]?=some (.int .u16 v):=⟨x.rn.xs[0]'(by omega),by unfold wds;rw[List.getElem?_map,List.getElem?_eq_getElem (by omega)];rfl⟩
   have hyw:=hyv.rn
   have hyw1:=hyw.1
   rw[hA5]at hm
   refine gsab4d_ ?_;clear hs hm a;intros;rename_i a hm hs
   refine cMid (fun a w=>Sl Tryz.f125.ntmps [(4,.pointer (some ⟨g4,0,none⟩)),(5,.pointer (some ⟨g5,0,none⟩)),(7,.pointer (some ⟨g7,0,none⟩)),(11,.pointer (some ⟨g11,0,none⟩))] a∧Mm (fun _=>False) wB (⟨some g11,175,[.int .u8 0,.int .u16 (IntKind.u16.wrap (failF (IntKind.i64.wrap v0) true)),.int .i64 0,.int .i64 0,.slice none 0 0,.int .i64 (-1),.bool false]⟩::⟨some g7,81,[.slice y.ck.A y.ck.xs.length y.ck.c,.slice (if y.rn.c=(1:Int).toNat then y.rn.A else y.rn.A.map (·.add ((1:Int).toNat*1))) (y.rn.xs.length-1) (y.rn.c-1),.slice y.ins.A y.ins.qs.length y.ins.c,.slice y.f.dA y.f.ds.length y.f.dc,.slice y.f.oA y.f.os.length y.f.oc,.slice y.us.A y.us.us.length y.us.c]⟩::⟨some g5,175,[.int .u8 0,.int .u16 0,.int .i64 0,.int .i64 0,.slice none 0 0,.int .i64 0,.bool false]⟩::⟨some g4,81,[.slice none 0 0,.slice none 0 0,.slice none 0 0,.slice none 0 0,.slice none 0 0,.slice none 0 0]⟩::R) w) ?_ ?_
   ·with_reducible repeat(first|apply gThen|apply wp_seq)
    refine cDrawTB (n:=12) (.s [0,1,2,3,4,6,7,8]<| .o 5<| .x<| .o 9<| .t 10<| .o 11<| .d) 11 [⟨some g7,81,[.slice y.ck.A y.ck.xs.length y.ck.c,.slice y.rn.A y.rn.xs.length y.rn.c,.slice y.ins.A y.ins.qs.length y.ins.c,.slice y.f.dA y.f.ds.length y.f.dc,.slice y.f.oA y.f.os.length y.f.oc,.slice y.us.A y.us.us.length y.us.c]⟩,⟨some g2,81,[.slice x.ck.A x.ck.xs.length x.ck.c,.slice (some ⟨b5,o5,none⟩) x.rn.xs.length x.rn.c,.slice x.ins.A x.ins.qs.length x.ins.c,.slice x.f.dA x.f.ds.length x.f.dc,.slice x.f.oA x.f.os.length x.f.oc,.slice x.us.A x.us.us.length x.us.c]⟩] hm rfl rfl ?_
    clear hm;intro t_ w1_ hm
    repeat' (first|(refine dgd265_ ?_;clear t_ hs hm a;intros;rename_i a hm hs t_)|refine tEB t_ ?_|refine tCB ?_ ?_|exact tNB|intro t_|(refine oDoB (i:=5) hs rfl (Wnt.none rfl) rfl rfl (by exact d_call hs rfl rfl rfl (pl 123 rfl) ((kvl _ _ _))) ?_;clear hs;rintro _ w1 ⟨rfl,hf⟩ a hs;(replace hm:=hm.pu hf);(clear hf);replace t_:=tX t_;refine⟨bu_,?_⟩)|(refine tDB t_ ?_;(exact And.intro rfl ⟨(sb_ hs),hm.sub sub_⟩))|fail)
   clear hs hm a
   rintro a w ⟨hs,hm⟩
   have hvs:OV.vs {y with rn:=⟨(if y.rn.c=(1:Int).toNat then y.rn.A else y.rn.A.map (·.add ((1:Int).toNat*1))),y.rn.c-1,y.rn.xs.drop 1⟩}=[.slice y.ck.A y.ck.xs.length y.ck.c,.slice (if y.rn.c=(1:Int).toNat then y.rn.A else y.rn.A.map (·.add ((1:Int).toNat*1))) (y.rn.xs.length-1) (y.rn.c-1),.slice y.ins.A y.ins.qs.length y.ins.c,.slice y.f.dA y.f.ds.length y.f.dc,.slice y.f.oA y.f.os.length y.f.oc,.slice y.us.A y.us.us.length y.us.c]:=by unfold OV.vs;dsimp only;rw[List.length_drop]
   have hon:On R (OV.ok {y with rn:=⟨(if y.rn.c=(1:Int).toNat then y.rn.A else y.rn.A.map (·.add ((1:Int).toNat*1))),y.rn.c-1,y.rn.xs.drop 1⟩}):=fun S w0 w M hm hM=>by
    have h1:=hyo.now hm hM
    exact⟨h1.ck,wds_cut (o:=1) h1.rn (by omega) (by omega),h1.ins,h1.f,h1.us⟩
   have hval:OV.val {y with rn:=⟨(if y.rn.c=(1:Int).toNat then y.rn.A else y.rn.A.map (·.add ((1:Int).toNat*1))),y.rn.c-1,y.rn.xs.drop 1⟩}:=⟨hyv.ck,⟨by dsimp only;rw[List.length_drop];omega,by dsimp only;rw[List.length_drop];have:=hyw.2.1;omega,fun v hv=>hyw.2.2 v (List.mem_of_mem_drop hv)⟩,hyv.ins,hyv.f,hyv.us⟩
   refine gsab4d_ ?_;clear hs hm a;intros;rename_i a hm hs
   refine cDrawT (n:=5) (.s [0,1]<| .o 2<| .o 3<| .t 4<| .d) [⟨some g11,175,[.int .u8 0,.int .u16 (IntKind.u16.wrap (failF (IntKind.i64.wrap v0) true)),.int .i64 0,.int .i64 0,.slice none 0 0,.int .i64 (-1),.bool false]⟩,⟨some g7,81,[.slice y.ck.A y.ck.xs.length y.ck.c,.slice (if y.rn.c=(1:Int).toNat then y.rn.A else y.rn.A.map (·.add ((1:Int).toNat*1))) (y.rn.xs.length-1) (y.rn.c-1),.slice y.ins.A y.ins.qs.length y.ins.c,.slice y.f.dA y.f.ds.length y.f.dc,.slice y.f.oA y.f.os.length y.f.oc,.slice y.us.A y.us.us.length y.us.c]⟩] hm rfl rfl ?_
   clear hm;intro t_ w1_ hm
   repeat' (first|(refine dg7dd6_ ?_;clear t_ hs hm a;intros;rename_i a hm hs t_)|refine tE t_ ?_|refine tC ?_ ?_|exact tN|intro t_|(refine tD t_ ?_;(refine gsab4d_ ?_;clear hs hm a;intros;rename_i a hm hs);(exact gRetN tab hs rfl (.cons (.cells rfl rfl rfl rfl (hm.ro (k:=0) (n:=6) (g:=g4) mem_ (cutF_ok rfl))) (.cons (.cells rfl rfl rfl rfl (hm.ro (k:=0) (n:=7) (g:=g5) mem_ (cutF_ok rfl))) (.cons (.tmp rfl) .nil))) ⟨{y with rn:=⟨(if y.rn.c=(1:Int).toNat then y.rn.A else y.rn.A.map (·.add ((1:Int).toNat*1))),y.rn.c-1,y.rn.xs.drop 1⟩},valR (IntKind.i64.wrap v0) true,R,by dsimp only;rw[List.length_drop];rfl,hon,valR_on _ true _,hm.new sub_,hval,valR_fit _ true,rfl,rfl,hm.fr⟩))|fail)
theorem do_g1 [HB](x:OV)(r:RqV)(wB:World)(hx:x.ok wB)(h:x.val)(hr:r.ok wB)(hrv:r.val)(hrk:r.kin)(hst:r.stop=1)(ha:r.call=1∨r.call=13):Ret Tryz.prog 125 [x.v,r.v] wB (fun u w'=>∃(y:OV)(z:RsV)(R:List Hp),u= .tuple #[y.v,z.v,.int .i64 0]∧On R y.ok∧On R z.ok∧New wB w' R∧y.val∧z.fit∧z.spawn=-1∧z.wait=false∧Pu wB w'):=by
 have kv:=fun w'' (hf:Pu wB w'')=>oval_c x w'' (hx.pu hf) h
 have kq:=fun w'' (hf:Pu wB w'')=>rqval_c r w'' (hr.pu hf) hrv
 have kk:=fun w'' (hf:Pu wB w'')=>rkin_c r w'' (hr.pu hf) hrk
 have kc:=fun w'' (hf:Pu wB w'')=>ocpy_c x w'' (hx.pu hf) h
 obtain⟨th,stop,trap,cnt,pc,call,ra,rd⟩:=r
 dsimp only at hst ha
 subst hst
 have ka:=fun w''=>acts_c call w'' (by unfold actsF;omega)
 have kb:=fun w''=>buf_c call w'' (by omega)
 have hbf:bufF call=1:=by rcases ha with rfl|rfl<;>rfl
 rw[hbf]at kb
 have kvl:∀(n:Int)(b:Bool)(w'':World),Ret Tryz.prog 123 [.int .i64 n,.bool b] w'' (fun u w'=>u= .agg #[.int .u8 0,.int .u16 (IntKind.u16.wrap (failF n b)),.int .i64 0,.int .i64 0,.slice none 0 0,.int .i64 (-1),.bool false]∧Pu w'' w'):=fun n b w''=>vlu_c n b w''
 have hra:Rd wB wB.heap.size ra.A (cns ra.xs):=hr.a
 have hrdo:rd.ok wB:=hr.d
 have hrdn:rd.xs.length≤16:=hrv.d
 have hrdv:∀c∈rd.xs,c.val:=hrv.dv
 have hav:∀c∈ra.xs,c.val:=hrv.av
 have hal:ra.xs.length=3:=by rcases ha with rfl|rfl<;>exact hrk.n
 unfold RqV.v at kq kk ⊢
 unfold OV.v at kv kc ⊢
 dsimp only at kq kk ⊢
 refine enterR Tryz.func125 rfl rfl rfl fun a hs hm=>?_
 refine gcShj0_ ?_;clear hs hm a;intros;rename_i a hm hs
 obtain⟨g2,rfl⟩:=hs.pp 2
 obtain⟨g3,rfl⟩:=hs.pp 3
 obtain⟨g4,rfl⟩:=hs.pp 4
 obtain⟨g5,rfl⟩:=hs.pp 5
 refine st hs rfl rfl rfl (d_call hs rfl rfl rfl (pl 85 rfl) ((kc _ hm.fr))) ?_;clear hs a;rintro _ w1 ⟨y,R,rfl,hyo,hN,hyv,hyc,hyr,hf⟩ a hs
 replace hm:=gainE hm hf hN
 clear hN hf kc kv kq kk
 simp only[List.cons_append,List.nil_append]at hm
 refine gsab4d_ ?_;clear hs hm a;intros;rename_i a hm hs
 obtain⟨g7,rfl⟩:=hs.pp 7
 obtain⟨ga,rfl⟩:=hs.qq 8
 refine cMidE (.exit 0) (fun a w=>∃a0 a1 a2:Int,(∀(i:Nat) c,ra.xs[i]?=some c→[a0,a1,a2][i]?=some c.v)∧(∀v∈ [a0,a1,a2],0≤v∧v≤65535)∧Sl Tryz.f125.ntmps [(2,.pointer (some ⟨g2,0,none⟩)),(3,.pointer (some ⟨g3,0,none⟩)),(4,.pointer (some ⟨g4,0,none⟩)),(5,.pointer (some ⟨g5,0,none⟩)),(7,.pointer (some ⟨g7,0,none⟩)),(8,.slice (some ⟨ga,0,none⟩) 3 3)] a∧Mm (fun _=>False) wB (⟨some ga,3,[.int .i64 a0,.int .i64 a1,.int .i64 a2]⟩::⟨some g7,81,[.slice y.ck.A y.ck.xs.length y.ck.c,.slice y.rn.A y.rn.xs.length y.rn.c,.slice y.ins.A y.ins.qs.length y.ins.c,.slice y.f.dA y.f.ds.length y.f.dc,.slice y.f.oA y.f.os.length y.f.oc,.slice y.us.A y.us.us.length y.us.c]⟩::⟨some g5,175,[.int .u8 0,.int .u16 0,.int .i64 0,.int .i64 0,.slice none 0 0,.int .i64 0,.bool false]⟩::⟨some g4,81,[.slice none 0 0,.slice none 0 0,.slice none 0 0,.slice none 0 0,.slice none 0 0,.slice none 0 0]⟩::⟨some g3,173,[.int .i64 th,.int .i64 1,.int .i64 trap,.int .i64 cnt,.int .i64 pc,.int .i64 call,.slice ra.A ra.xs.length ra.c,.slice rd.A rd.xs.length rd.c]⟩::⟨some g2,81,[.slice x.ck.A x.ck.xs.length x.ck.c,.slice x.rn.A x.rn.xs.length x.rn.c,.slice x.ins.A x.ins.qs.length x.ins.c,.slice x.f.dA x.f.ds.length x.f.dc,.slice x.f.oA x.f.os.length x.f.oc,.slice x.us.A x.us.us.length x.us.c]⟩::R) w) ?_ ?_
 ·refine cLoop (X:=DoX) (fun X a w=>X.k≤ra.xs.length∧X.l.length=3∧(∀(i:Nat) c,i<X.k→ra.xs[i]?=some c→X.l[i]?=some c.v)∧(∀v∈X.l,0≤v∧v≤65535)∧Sl Tryz.f125.ntmps [(2,.pointer (some ⟨g2,0,none⟩)),(3,.pointer (some ⟨g3,0,none⟩)),(4,.pointer (some ⟨g4,0,none⟩)),(5,.pointer (some ⟨g5,0,none⟩)),(7,.pointer (some ⟨g7,0,none⟩)),(8,.slice (some ⟨ga,0,none⟩) 3 3),(74,.slice ra.A ra.xs.length ra.c),(75,.int .i64 (ra.xs.length:Int)),(76,.int .i64 (X.k:Int))] a∧Mm (fun _=>False) wB (⟨some ga,3,ints X.l⟩::⟨some g7,81,[.slice y.ck.A y.ck.xs.length y.ck.c,.slice y.rn.A y.rn.xs.length y.rn.c,.slice y.ins.A y.ins.qs.length y.ins.c,.slice y.f.dA y.f.ds.length y.f.dc,.slice y.f.oA y.f.os.length y.f.oc,.slice y.us.A y.us.us.length y.us.c]⟩::⟨some g5,175,[.int .u8 0,.int .u16 0,.int .i64 0,.int .i64 0,.slice none 0 0,.int .i64 0,.bool false]⟩::⟨some g4,81,[.slice none 0 0,.slice none 0 0,.slice none 0 0,.slice none 0 0,.slice none 0 0,.slice none 0 0]⟩::⟨some g3,173,[.int .i64 th,.int .i64 1,.int .i64 trap,.int .i64 cnt,.int .i64 pc,.int .i64 call,.slice ra.A ra.xs.length ra.c,.slice rd.A rd.xs.length rd.c]⟩::⟨some g2,81,[.slice x.ck.A x.ck.xs.length x.ck.c,.slice x.rn.A x.rn.xs.length x.rn.c,.slice x.ins.A x.ins.qs.length x.ins.c,.slice x.f.dA x.f.ds.length x.f.dc,.slice x.f.oA x.f.os.length x.f.oc,.slice x.us.A x.us.us.length x.us.c]⟩::R) w) (fun X=>ra.xs.length-X.k) ⟨0,[0,0,0]⟩ ⟨Nat.zero_le _,rfl,(fun i c hi=>absurd hi (Nat.not_lt_zero _)),(fun v hv=>by simp at hv;omega),(sb_ hs),hm⟩ ?_
  clear hs hm a
  rintro⟨k,l⟩ a w ⟨hk,hl3,hl,hlv,hs,hm⟩
  dsimp only at hk hl3 hl hlv hs hm
  by_cases hlt:k<ra.xs.length
  ·obtain⟨b4,o4,hA4,hb4,r4⟩:=hra.ro (by rw[cns_len];omega)
   have r3:=r4.flat CN.cs_len hlt
   have hcv:=hav _ (List.getElem_mem hlt)
   have hcx:ra.xs[k]?=some ra.xs[k]:=List.getElem?_eq_getElem hlt
   generalize ra.xs[k]=q at r3 hcv hcx
   unfold CN.cs at r3
   have hw:IntKind.i64.wrap q.v=q.v:=wrap_idP (by have:=hcv.v;omega)
   have hll:(ints l).length=3:=by rw[ints_len,hl3]
   rw[hA4]at hs hm
   refine gsab4d_ ?_;clear hs hm a;intros;rename_i a hm hs
   rw[hw]at hm
   rw[←hA4]at hs hm
   refine⟨⟨k+1,l.set k q.v⟩,by dsimp only;omega,by dsimp only;omega,by dsimp only;rw[List.length_set];exact hl3,fun i c hi hc=>?_,fun v hv=>?_,(sb_ hs),?_⟩
   ·dsimp only at hi ⊢
    by_cases hik:i=k
    ·subst hik
     rw[hcx]at hc
     obtain rfl:=Option.some.inj hc
     exact List.getElem?_set_self (by omega)
    ·rw[List.getElem?_set_ne (fun e=>hik e.symm)]
     exact hl i c (by omega) hc
   ·dsimp only at hv
    rcases List.mem_or_eq_of_mem_set hv with hv|rfl
    ·exact hlv v hv
    ·exact hcv.v
   ·dsimp only
    rw[show ints (l.set k q.v)=(ints l).set k (.int .i64 q.v)from List.map_set]
    exact hm.sub sub_
  ·obtain rfl:k=ra.xs.length:=by omega
   obtain⟨a0,a1,a2,rfl⟩:=three hl3
   refine gsab4d_ ?_;clear hs hm a;intros;rename_i a hm hs
   exact And.intro rfl ⟨a0,a1,a2,fun i c hc=>hl i c (List.getElem?_eq_some_iff.1 hc).1 hc,hlv,(sb_ hs),hm⟩
 clear hs hm a
 rintro a w ⟨a0,a1,a2,hargs,hargv,hs,hm⟩
 have hb0:=hargv a0 (by simp)
 have hb1':=hargv a1 (by simp)
 have hb2':=hargv a2 (by simp)
 refine gcShj1_ ?_;clear hs hm a;intros;rename_i a hm hs
 obtain⟨g11,rfl⟩:=hs.pp 11
 replace hm:=hm.sub (M':=⟨some g11,175,[.int .u8 0,.int .u16 (IntKind.u16.wrap (failF 0 false)),.int .i64 0,.int .i64 0,.slice none 0 0,.int .i64 (-1),.bool false]⟩::⟨some ga,3,[.int .i64 a0,.int .i64 a1,.int .i64 a2]⟩::⟨some g7,81,[.slice y.ck.A y.ck.xs.length y.ck.c,.slice y.rn.A y.rn.xs.length y.rn.c,.slice y.ins.A y.ins.qs.length y.ins.c,.slice y.f.dA y.f.ds.length y.f.dc,.slice y.f.oA y.f.os.length y.f.oc,.slice y.us.A y.us.us.length y.us.c]⟩::⟨some g5,175,[.int .u8 0,.int .u16 0,.int .i64 0,.int .i64 0,.slice none 0 0,.int .i64 0,.bool false]⟩::⟨some g4,81,[.slice none 0 0,.slice none 0 0,.slice none 0 0,.slice none 0 0,.slice none 0 0,.slice none 0 0]⟩::⟨some g3,173,[.int .i64 th,.int .i64 1,.int .i64 trap,.int .i64 cnt,.int .i64 pc,.int .i64 call,.slice ra.A ra.xs.length ra.c,.slice rd.A rd.xs.length rd.c]⟩::⟨some g2,81,[.slice x.ck.A x.ck.xs.length x.ck.c,.slice x.rn.A x.rn.xs.length x.rn.c,.slice x.ins.A x.ins.qs.length x.ins.c,.slice x.f.dA x.f.ds.length x.f.dc,.slice x.f.oA x.f.os.length x.f.oc,.slice x.us.A x.us.us.length x.us.c]⟩::R) sub_
 rcases ha with rfl|rfl
 ·refine gsab4d_ ?_;clear hs hm a;intros;rename_i a hm hs
  have kf:=fun w'' (hf:Pu wB w'')=>fwrt_c x.f a0 rd w'' (hx.pu hf).f h.f (hrdo.pu hf) hrdv (by omega)
  unfold FV.v CnS.v at kf
  refine cMid (fun a w=>∃(f:FV)(R':List Hp)(gf:Nat)(n:Int)(b:Bool),On R' f.ok∧f.d'.val∧Sl Tryz.f125.ntmps [(2,.pointer (some ⟨g2,0,none⟩)),(3,.pointer (some ⟨g3,0,none⟩)),(4,.pointer (some ⟨g4,0,none⟩)),(5,.pointer (some ⟨g5,0,none⟩)),(7,.pointer (some ⟨g7,0,none⟩)),(8,.slice (some ⟨ga,0,none⟩) 3 3),(11,.pointer (some ⟨g11,0,none⟩)),(12,.pointer (some ⟨gf,0,none⟩)),(13,.int .i64 n),(14,.bool b)] a∧Mm (fun _=>False) wB (⟨some gf,78,[.slice f.dA f.ds.length f.dc,.slice f.oA f.os.length f.oc]⟩::⟨some g11,175,[.int .u8 0,.int .u16 (IntKind.u16.wrap (failF 0 false)),.int .i64 0,.int .i64 0,.slice none 0 0,.int .i64 (-1),.bool false]⟩::⟨some ga,3,[.int .i64 a0,.int .i64 a1,.int .i64 a2]⟩::⟨some g7,81,[.slice y.ck.A y.ck.xs.length y.ck.c,.slice y.rn.A y.rn.xs.length y.rn.c,.slice y.ins.A y.ins.qs.length y.ins.c,.slice y.f.dA y.f.ds.length y.f.dc,.slice y.f.oA y.f.os.length y.f.oc,.slice y.us.A y.us.us.length y.us.c]⟩::⟨some g5,175,[.int .u8 0,.int .u16 0,.int .i64 0,.int .i64 0,.slice none 0 0,.int .i64 0,.bool false]⟩::⟨some g4,81,[.slice none 0 0,.slice none 0 0,.slice none 0 0,.slice none 0 0,.slice none 0 0,.slice none 0 0]⟩::⟨some g3,173,[.int .i64 th,.int .i64 1,.int .i64 trap,.int .i64 cnt,.int .i64 pc,.int .i64 1,.slice ra.A ra.xs.length ra.c,.slice rd.A rd.xs.length rd.c]⟩::⟨some g2,81,[.slice x.ck.A x.ck.xs.length x.ck.c,.slice x.rn.A x.rn.xs.length x.rn.c,.slice x.ins.A x.ins.qs.length x.ins.c,.slice x.f.dA x.f.ds.length x.f.dc,.slice x.f.oA x.f.os.length x.f.oc,.slice x.us.A x.us.us.length x.us.c]⟩::(R++R')) w) ?_ ?_
  ·with_reducible repeat(first|apply gThen|apply wp_seq)
   refine cDrawT (n:=16) (.s [0,1,2,3,4,5,6]<| .e [(7,.x<| .s [8,9,10,11]<| .o 12<| .o 13<| .s [14,15]<| .d),(12,.o 7<| .x<| .s [8,9,10,11]<| .o 13<| .s [14,15]<| .d)]) [⟨some ga,3,[.int .i64 a0,.int .i64 a1,.int .i64 a2]⟩,⟨some g3,173,[.int .i64 th,.int .i64 1,.int .i64 trap,.int .i64 cnt,.int .i64 pc,.int .i64 1,.slice ra.A ra.xs.length ra.c,.slice rd.A rd.xs.length rd.c]⟩,⟨some g2,81,[.slice x.ck.A x.ck.xs.length x.ck.c,.slice x.rn.A x.rn.xs.length x.rn.c,.slice x.ins.A x.ins.qs.length x.ins.c,.slice x.f.dA x.f.ds.length x.f.dc,.slice x.f.oA x.f.os.length x.f.oc,.slice x.us.A x.us.us.length x.us.c]⟩] hm rfl rfl ?_
   clear hm;intro t_ w1_ hm
   repeat' (first|(refine dg7dd6_ ?_;clear t_ hs hm a;intros;rename_i a hm hs t_)|refine tE t_ ?_|refine tC ?_ ?_|exact tN|intro t_|(refine oDo (i:=7) hs rfl (Wnt.none rfl) rfl rfl (by exact d_call hs rfl rfl rfl (pl 132 rfl) ((kf _ hm.fr))) ?_;clear hs;rintro _ w1 ⟨f,n,b,R',rfl,hfo,hN,hfv,hn0,hn1,hf⟩ a hs;(replace hm:=gainE hm hf hN);(clear hf hN);(try simp only[List.cons_append,List.nil_append,List.append_assoc]at hm);replace t_:=tX t_;refine⟨(hm.sub sub_),?_⟩)|(refine tD t_ ?_;(obtain⟨gf,rfl⟩:=hs.pp 12);(exact And.intro rfl ⟨f,R',gf,n,b,hfo,hfv,(sb_ hs),hm⟩))|fail)
  clear hs hm a
  rintro a w ⟨f,R',gf,n,b,hfo,hfv,hs,hm⟩
  refine cMid (fun a w=>Sl Tryz.f125.ntmps [(4,.pointer (some ⟨g4,0,none⟩)),(5,.pointer (some ⟨g5,0,none⟩)),(7,.pointer (some ⟨g7,0,none⟩)),(11,.pointer (some ⟨g11,0,none⟩))] a∧Mm (fun _=>False) wB (⟨some g11,175,[.int .u8 0,.int .u16 (IntKind.u16.wrap (failF n b)),.int .i64 0,.int .i64 0,.slice none 0 0,.int .i64 (-1),.bool false]⟩::⟨some g7,81,[.slice y.ck.A y.ck.xs.length y.ck.c,.slice y.rn.A y.rn.xs.length y.rn.c,.slice y.ins.A y.ins.qs.length y.ins.c,.slice f.dA f.ds.length f.dc,.slice f.oA f.os.length f.oc,.slice y.us.A y.us.us.length y.us.c]⟩::⟨some g5,175,[.int .u8 0,.int .u16 0,.int .i64 0,.int .i64 0,.slice none 0 0,.int .i64 0,.bool false]⟩::⟨some g4,81,[.slice none 0 0,.slice none 0 0,.slice none 0 0,.slice none 0 0,.slice none 0 0,.slice none 0 0]⟩::(R++R')) w) ?_ ?_
  ·with_reducible repeat(first|apply gThen|apply wp_seq)
   refine cDrawT (n:=7) (.s [0,1,2,4]<| .o 3<| .x<| .o 5<| .o 6<| .d) [⟨some gf,78,[.slice f.dA f.ds.length f.dc,.slice f.oA f.os.length f.oc]⟩] hm rfl rfl ?_
   clear hm;intro t_ w1_ hm
   repeat' (first|(refine dg7dd6_ ?_;clear t_ hs hm a;intros;rename_i a hm hs t_)|refine tE t_ ?_|refine tC ?_ ?_|exact tN|intro t_|(refine oDo (i:=3) hs rfl (Wnt.none rfl) rfl rfl (by exact d_call hs rfl rfl rfl (pl 123 rfl) ((kvl _ _ _))) ?_;clear hs;rintro _ w1 ⟨rfl,hf⟩ a hs;(replace hm:=hm.pu hf);(clear hf);replace t_:=tX t_;refine⟨(hm.sub sub_),?_⟩)|(refine tD t_ ?_;(exact And.intro rfl ⟨(sb_ hs),hm.sub sub_⟩))|fail)
  clear hs hm a
  rintro a w ⟨hs,hm⟩
  refine gsab4d_ ?_;clear hs hm a;intros;rename_i a hm hs
  refine cDrawT (n:=5) (.s [0,1]<| .o 2<| .o 3<| .t 4<| .d) [⟨some g11,175,[.int .u8 0,.int .u16 (IntKind.u16.wrap (failF n b)),.int .i64 0,.int .i64 0,.slice none 0 0,.int .i64 (-1),.bool false]⟩,⟨some g7,81,[.slice y.ck.A y.ck.xs.length y.ck.c,.slice y.rn.A y.rn.xs.length y.rn.c,.slice y.ins.A y.ins.qs.length y.ins.c,.slice f.dA f.ds.length f.dc,.slice f.oA f.os.length f.oc,.slice y.us.A y.us.us.length y.us.c]⟩] hm rfl rfl ?_
  clear hm;intro t_ w1_ hm
  repeat' (first|(refine dg7dd6_ ?_;clear t_ hs hm a;intros;rename_i a hm hs t_)|refine tE t_ ?_|refine tC ?_ ?_|exact tN|intro t_|(refine tD t_ ?_;(refine gsab4d_ ?_;clear hs hm a;intros;rename_i a hm hs);(exact gRetN tab hs rfl (.cons (.cells rfl rfl rfl rfl (hm.ro (k:=0) (n:=6) (g:=g4) mem_ (cutF_ok rfl))) (.cons (.cells rfl rfl rfl rfl (hm.ro (k:=0) (n:=7) (g:=g5) mem_ (cutF_ok rfl))) (.cons (.tmp rfl) .nil))) ⟨{y with f:=f},valR (n:Int) b,R++R',rfl,hyo.set_f hfo,valR_on _ b _,hm.new sub_,hyv.set_f hfv,valR_fit _ b,rfl,rfl,hm.fr⟩))|fail)
 ·refine gsab4d_ ?_;clear hs hm a;intros;rename_i a hm hs
  have kf:=fun w'' (hf:Pu wB w'')=>send_c x.us a0 rd w'' (hx.pu hf).us h.us (hrdo.pu hf) hrdv (by omega)
  unfold OuL.v CnS.v at kf
  refine cMid (fun a w=>∃(f:OuL)(R':List Hp)(n:Int)(b:Bool),On R' f.ok∧OuS f.l∧Sl Tryz.f125.ntmps [(2,.pointer (some ⟨g2,0,none⟩)),(3,.pointer (some ⟨g3,0,none⟩)),(4,.pointer (some ⟨g4,0,none⟩)),(5,.pointer (some ⟨g5,0,none⟩)),(7,.pointer (some ⟨g7,0,none⟩)),(8,.slice (some ⟨ga,0,none⟩) 3 3),(11,.pointer (some ⟨g11,0,none⟩)),(24,.slice f.A f.us.length f.c),(25,.int .i64 n),(26,.bool b)] a∧Mm (fun _=>False) wB (⟨some g11,175,[.int .u8 0,.int .u16 (IntKind.u16.wrap (failF 0 false)),.int .i64 0,.int .i64 0,.slice none 0 0,.int .i64 (-1),.bool false]⟩::⟨some ga,3,[.int .i64 a0,.int .i64 a1,.int .i64 a2]⟩::⟨some g7,81,[.slice y.ck.A y.ck.xs.length y.ck.c,.slice y.rn.A y.rn.xs.length y.rn.c,.slice y.ins.A y.ins.qs.length y.ins.c,.slice y.f.dA y.f.ds.length y.f.dc,.slice y.f.oA y.f.os.length y.f.oc,.slice y.us.A y.us.us.length y.us.c]⟩::⟨some g5,175,[.int .u8 0,.int .u16 0,.int .i64 0,.int .i64 0,.slice none 0 0,.int .i64 0,.bool false]⟩::⟨some g4,81,[.slice none 0 0,.slice none 0 0,.slice none 0 0,.slice none 0 0,.slice none 0 0,.slice none 0 0]⟩::⟨some g3,173,[.int .i64 th,.int .i64 1,.int .i64 trap,.int .i64 cnt,.int .i64 pc,.int .i64 13,.slice ra.A ra.xs.length ra.c,.slice rd.A rd.xs.length rd.c]⟩::⟨some g2,81,[.slice x.ck.A x.ck.xs.length x.ck.c,.slice x.rn.A x.rn.xs.length x.rn.c,.slice x.ins.A x.ins.qs.length x.ins.c,.slice x.f.dA x.f.ds.length x.f.dc,.slice x.f.oA x.f.os.length x.f.oc,.slice x.us.A x.us.us.length x.us.c]⟩::(R++R')) w) ?_ ?_
  ·with_reducible repeat(first|apply gThen|apply wp_seq)
   refine cDrawT (n:=15) (.s [0,1,2,3,4,5,6]<| .o 7<| .x<| .s [8,9,10,11,12,13,14]<| .d) [⟨some ga,3,[.int .i64 a0,.int .i64 a1,.int .i64 a2]⟩,⟨some g3,173,[.int .i64 th,.int .i64 1,.int .i64 trap,.int .i64 cnt,.int .i64 pc,.int .i64 13,.slice ra.A ra.xs.length ra.c,.slice rd.A rd.xs.length rd.c]⟩,⟨some g2,81,[.slice x.ck.A x.ck.xs.length x.ck.c,.slice x.rn.A x.rn.xs.length x.rn.c,.slice x.ins.A x.ins.qs.length x.ins.c,.slice x.f.dA x.f.ds.length x.f.dc,.slice x.f.oA x.f.os.length x.f.oc,.slice x.us.A x.us.us.length x.us.c]⟩] hm rfl rfl ?_
   clear hm;intro t_ w1_ hm
   repeat' (first|(refine dg7dd6_ ?_;clear t_ hs hm a;intros;rename_i a hm hs t_)|refine tE t_ ?_|refine tC ?_ ?_|exact tN|intro t_|(refine oDo (i:=7) hs rfl (Wnt.none rfl) rfl rfl (by exact d_call hs rfl rfl rfl (pl 137 rfl) ((kf _ hm.fr))) ?_;clear hs;rintro _ w1 ⟨f,n,b,R',rfl,hfo,hN,hfv,hn0,hn1,hf⟩ a hs;(replace hm:=gainE hm hf hN);(clear hf hN);(try simp only[List.cons_append,List.nil_append,List.append_assoc]at hm);replace t_:=tX t_;refine⟨(hm.sub sub_),?_⟩)|(refine tD t_ ?_;(exact And.intro rfl ⟨f,R',n,b,hfo,hfv,(sb_ hs),hm⟩))|fail)
  clear hs hm a
  rintro a w ⟨f,R',n,b,hfo,hfv,hs,hm⟩
  refine gcShj1_ ?_;clear hs hm a;intros;rename_i a hm hs
  refine cDrawT (n:=5) (.s [0,1]<| .o 2<| .o 3<| .t 4<| .d) [⟨some g11,175,[.int .u8 0,.int .u16 (IntKind.u16.wrap (failF n b)),.int .i64 0,.int .i64 0,.slice none 0 0,.int .i64 (-1),.bool false]⟩,⟨some g7,81,[.slice y.ck.A y.ck.xs.length y.ck.c,.slice y.rn.A y.rn.xs.length y.rn.c,.slice y.ins.A y.ins.qs.length y.ins.c,.slice y.f.dA y.f.ds.length y.f.dc,.slice y.f.oA y.f.os.length y.f.oc,.slice f.A f.us.length f.c]⟩] hm rfl rfl ?_
  clear hm;intro t_ w1_ hm
  repeat' (first|(refine dg7dd6_ ?_;clear t_ hs hm a;intros;rename_i a hm hs t_)|refine tE t_ ?_|refine tC ?_ ?_|exact tN|intro t_|(refine tD t_ ?_;(refine gsab4d_ ?_;clear hs hm a;intros;rename_i a hm hs);(exact gRetN tab hs rfl (.cons (.cells rfl rfl rfl rfl (hm.ro (k:=0) (n:=6) (g:=g4) mem_ (cutF_ok rfl))) (.cons (.cells rfl rfl rfl rfl (hm.ro (k:=0) (n:=7) (g:=g5) mem_ (cutF_ok rfl))) (.cons (.tmp rfl) .nil))) ⟨{y with us:=f},valR n b,R++R',rfl,hyo.set_us hfo,valR_on _ b _,hm.new sub_,hyv.set_us hfv,valR_fit _ b,rfl,rfl,hm.fr⟩))|fail)
theorem do_g2 [HB](x:OV)(r:RqV)(wB:World)(hx:x.ok wB)(h:x.val)(hr:r.ok wB)(hrv:r.val)(hrk:r.kin)(hst:r.stop=1)(ha:r.call=2∨r.call=14):Ret Tryz.prog 125 [x.v,r.v] wB (fun u w'=>∃(y:OV)(z:RsV)(R:List Hp),u= .tuple #[y.v,z.v,.int .i64 0]∧On R y.ok∧On R z.ok∧New wB w' R∧y.val∧z.fit∧z.spawn=-1∧z.wait=false∧Pu wB w'):=by
 have kv:=fun w'' (hf:Pu wB w'')=>oval_c x w'' (hx.pu hf) h
 have kq:=fun w'' (hf:Pu wB w'')=>rqval_c r w'' (hr.pu hf) hrv
 have kk:=fun w'' (hf:Pu wB w'')=>rkin_c r w'' (hr.pu hf) hrk
 have kc:=fun w'' (hf:Pu wB w'')=>ocpy_c x w'' (hx.pu hf) h
 obtain⟨th,stop,trap,cnt,pc,call,ra,rd⟩:=r
 dsimp only at hst ha
 subst hst
 have ka:=fun w''=>acts_c call w'' (by unfold actsF;omega)
 have kb:=fun w''=>buf_c call w'' (by omega)
 have hbf:bufF call=2:=by rcases ha with rfl|rfl<;>rfl
 rw[hbf]at kb
 have kvl:∀(n:Int)(b:Bool)(w'':World),Ret Tryz.prog 123 [.int .i64 n,.bool b] w'' (fun u w'=>u= .agg #[.int .u8 0,.int .u16 (IntKind.u16.wrap (failF n b)),.int .i64 0,.int .i64 0,.slice none 0 0,.int .i64 (-1),.bool false]∧Pu w'' w'):=fun n b w''=>vlu_c n b w''
 have hra:Rd wB wB.heap.size ra.A (cns ra.xs):=hr.a
 have hrdo:rd.ok wB:=hr.d
 have hrdn:rd.xs.length≤16:=hrv.d
 have hrdv:∀c∈rd.xs,c.val:=hrv.dv
 have hav:∀c∈ra.xs,c.val:=hrv.av
 have hal:ra.xs.length=3:=by rcases ha with rfl|rfl<;>exact hrk.n
 unfold RqV.v at kq kk ⊢
 unfold OV.v at kv kc ⊢
 dsimp only at kq kk ⊢
 obtain⟨b1,o1,hA,hb1,r1⟩:=hra.ro (by rw[cns_len];omega)
 have r2:=r1.flat CN.cs_len (show 2<ra.xs.length by omega)
 have hv2':∀c,ra.xs[2]?=some c→c.v≤16:=hrk.b hbf
 have hv2:(ra.xs[2]'(by omega)).v≤16:=hv2' _ (List.getElem?_eq_getElem (by omega))
 unfold CN.cs at r2
 rw[hA]at kq kk ⊢
 refine enterR Tryz.func125 rfl rfl rfl fun a hs hm=>?_
 refine gcShj0_ ?_;clear hs hm a;intros;rename_i a hm hs
 obtain⟨g2,rfl⟩:=hs.pp 2
 obtain⟨g3,rfl⟩:=hs.pp 3
 obtain⟨g4,rfl⟩:=hs.pp 4
 obtain⟨g5,rfl⟩:=hs.pp 5
 refine st hs rfl rfl rfl (d_call hs rfl rfl rfl (pl 85 rfl) ((kc _ hm.fr))) ?_;clear hs a;rintro _ w1 ⟨y,R,rfl,hyo,hN,hyv,hyc,hyr,hf⟩ a hs
 replace hm:=gainE hm hf hN
 clear hN hf kc kv kq kk
 simp only[List.cons_append,List.nil_append]at hm
 refine gsab4d_ ?_;clear hs hm a;intros;rename_i a hm hs
 obtain⟨g7,rfl⟩:=hs.pp 7
 obtain⟨ga,rfl⟩:=hs.qq 8
 refine cMidE (.exit 0) (fun a w=>∃a0 a1 a2:Int,(∀(i:Nat) c,ra.xs[i]?=some c→[a0,a1,a2][i]?=some c.v)∧(∀v∈ [a0,a1,a2],0≤v∧v≤65535)∧Sl Tryz.f125.ntmps [(2,.pointer (some ⟨g2,0,none⟩)),(3,.pointer (some ⟨g3,0,none⟩)),(4,.pointer (some ⟨g4,0,none⟩)),(5,.pointer (some ⟨g5,0,none⟩)),(7,.pointer (some ⟨g7,0,none⟩)),(8,.slice (some ⟨ga,0,none⟩) 3 3)] a∧Mm (fun _=>False) wB (⟨some ga,3,[.int .i64 a0,.int .i64 a1,.int .i64 a2]⟩::⟨some g7,81,[.slice y.ck.A y.ck.xs.length y.ck.c,.slice y.rn.A y.rn.xs.length y.rn.c,.slice y.ins.A y.ins.qs.length y.ins.c,.slice y.f.dA y.f.ds.length y.f.dc,.slice y.f.oA y.f.os.length y.f.oc,.slice y.us.A y.us.us.length y.us.c]⟩::⟨some g5,175,[.int .u8 0,.int .u16 0,.int .i64 0,.int .i64 0,.slice none 0 0,.int .i64 0,.bool false]⟩::⟨some g4,81,[.slice none 0 0,.slice none 0 0,.slice none 0 0,.slice none 0 0,.slice none 0 0,.slice none 0 0]⟩::⟨some g3,173,[.int .i64 th,.int .i64 1,.int .i64 trap,.int .i64 cnt,.int .i64 pc,.int .i64 call,.slice (some ⟨b1,o1,none⟩) ra.xs.length ra.c,.slice rd.A rd.xs.length rd.c]⟩::⟨some g2,81,[.slice x.ck.A x.ck.xs.length x.ck.c,.slice x.rn.A x.rn.xs.length x.rn.c,.slice x.ins.A x.ins.qs.length x.ins.c,.slice x.f.dA x.f.ds.length x.f.dc,.slice x.f.oA x.f.os.length x.f.oc,.slice x.us.A x.us.us.length x.us.c]⟩::R) w) ?_ ?_
 ·refine cLoop (X:=DoX) (fun X a w=>X.k≤ra.xs.length∧X.l.length=3∧(∀(i:Nat) c,i<X.k→ra.xs[i]?=some c→X.l[i]?=some c.v)∧(∀v∈X.l,0≤v∧v≤65535)∧Sl Tryz.f125.ntmps [(2,.pointer (some ⟨g2,0,none⟩)),(3,.pointer (some ⟨g3,0,none⟩)),(4,.pointer (some ⟨g4,0,none⟩)),(5,.pointer (some ⟨g5,0,none⟩)),(7,.pointer (some ⟨g7,0,none⟩)),(8,.slice (some ⟨ga,0,none⟩) 3 3),(74,.slice (some ⟨b1,o1,none⟩) ra.xs.length ra.c),(75,.int .i64 (ra.xs.length:Int)),(76,.int .i64 (X.k:Int))] a∧Mm (fun _=>False) wB (⟨some ga,3,ints X.l⟩::⟨some g7,81,[.slice y.ck.A y.ck.xs.length y.ck.c,.slice y.rn.A y.rn.xs.length y.rn.c,.slice y.ins.A y.ins.qs.length y.ins.c,.slice y.f.dA y.f.ds.length y.f.dc,.slice y.f.oA y.f.os.length y.f.oc,.slice y.us.A y.us.us.length y.us.c]⟩::⟨some g5,175,[.int .u8 0,.int .u16 0,.int .i64 0,.int .i64 0,.slice none 0 0,.int .i64 0,.bool false]⟩::⟨some g4,81,[.slice none 0 0,.slice none 0 0,.slice none 0 0,.slice none 0 0,.slice none 0 0,.slice none 0 0]⟩::⟨some g3,173,[.int .i64 th,.int .i64 1,.int .i64 trap,.int .i64 cnt,.int .i64 pc,.int .i64 call,.slice (some ⟨b1,o1,none⟩) ra.xs.length ra.c,.slice rd.A rd.xs.length rd.c]⟩::⟨some g2,81,[.slice x.ck.A x.ck.xs.length x.ck.c,.slice x.rn.A x.rn.xs.length x.rn.c,.slice x.ins.A x.ins.qs.length x.ins.c,.slice x.f.dA x.f.ds.length x.f.dc,.slice x.f.oA x.f.os.length x.f.oc,.slice x.us.A x.us.us.length x.us.c]⟩::R) w) (fun X=>ra.xs.length-X.k) ⟨0,[0,0,0]⟩ ⟨Nat.zero_le _,rfl,(fun i c hi=>absurd hi (Nat.not_lt_zero _)),(fun v hv=>by simp at hv;omega),(sb_ hs),hm⟩ ?_
  clear hs hm a
  rintro⟨k,l⟩ a w ⟨hk,hl3,hl,hlv,hs,hm⟩
  dsimp only at hk hl3 hl hlv hs hm
  by_cases hlt:k<ra.xs.length
  ·obtain⟨b4,o4,hA4,hb4,r4⟩:=hra.ro (by rw[cns_len];omega)
   rw[hA]at hA4
   obtain⟨rfl,rfl⟩:b1=b4∧o1=o4:=by simpa using hA4
   have r3:=r4.flat CN.cs_len hlt
   have hcv:=hav _ (List.getElem_mem hlt)
   have hcx:ra.xs[k]?=some ra.xs[k]:=List.getElem?_eq_getElem hlt
   generalize ra.xs[k]=q at r3 hcv hcx
   unfold CN.cs at r3
   have hw:IntKind.i64.wrap q.v=q.v:=wrap_idP (by have:=hcv.v;omega)
   have hll:(ints l).length=3:=by rw[ints_len,hl3]
   refine gsab4d_ ?_;clear hs hm a;intros;rename_i a hm hs
   rw[hw]at hm
   refine⟨⟨k+1,l.set k q.v⟩,by dsimp only;omega,by dsimp only;omega,by dsimp only;rw[List.length_set];exact hl3,fun i c hi hc=>?_,fun v hv=>?_,(sb_ hs),?_⟩
   ·dsimp only at hi ⊢
    by_cases hik:i=k
    ·subst hik
     rw[hcx]at hc
     obtain rfl:=Option.some.inj hc
     exact List.getElem?_set_self (by omega)
    ·rw[List.getElem?_set_ne (fun e=>hik e.symm)]
     exact hl i c (by omega) hc
   ·dsimp only at hv
    rcases List.mem_or_eq_of_mem_set hv with hv|rfl
    ·exact hlv v hv
    ·exact hcv.v
   ·dsimp only
    rw[show ints (l.set k q.v)=(ints l).set k (.int .i64 q.v)from List.map_set]
    exact hm.sub sub_
  ·obtain rfl:k=ra.xs.length:=by omega
   obtain⟨a0,a1,a2,rfl⟩:=three hl3
   refine gsab4d_ ?_;clear hs hm a;intros;rename_i a hm hs
   exact And.intro rfl ⟨a0,a1,a2,fun i c hc=>hl i c (List.getElem?_eq_some_iff.1 hc).1 hc,hlv,(sb_ hs),hm⟩
 clear hs hm a
 rintro a w ⟨a0,a1,a2,hargs,hargv,hs,hm⟩
 have hb0:=hargv a0 (by simp)
 have hb1':=hargv a1 (by simp)
 have hb2':=hargv a2 (by simp)
 refine gcShj1_ ?_;clear hs hm a;intros;rename_i a hm hs
 obtain⟨g11,rfl⟩:=hs.pp 11
 replace hm:=hm.sub (M':=⟨some g11,175,[.int .u8 0,.int .u16 (IntKind.u16.wrap (failF 0 false)),.int .i64 0,.int .i64 0,.slice none 0 0,.int .i64 (-1),.bool false]⟩::⟨some ga,3,[.int .i64 a0,.int .i64 a1,.int .i64 a2]⟩::⟨some g7,81,[.slice y.ck.A y.ck.xs.length y.ck.c,.slice y.rn.A y.rn.xs.length y.rn.c,.slice y.ins.A y.ins.qs.length y.ins.c,.slice y.f.dA y.f.ds.length y.f.dc,.slice y.f.oA y.f.os.length y.f.oc,.slice y.us.A y.us.us.length y.us.c]⟩::⟨some g5,175,[.int .u8 0,.int .u16 0,.int .i64 0,.int .i64 0,.slice none 0 0,.int .i64 0,.bool false]⟩::⟨some g4,81,[.slice none 0 0,.slice none 0 0,.slice none 0 0,.slice none 0 0,.slice none 0 0,.slice none 0 0]⟩::⟨some g3,173,[.int .i64 th,.int .i64 1,.int .i64 trap,.int .i64 cnt,.int .i64 pc,.int .i64 call,.slice (some ⟨b1,o1,none⟩) ra.xs.length ra.c,.slice rd.A rd.xs.length rd.c]⟩::⟨some g2,81,[.slice x.ck.A x.ck.xs.length x.ck.c,.slice x.rn.A x.rn.xs.length x.rn.c,.slice x.ins.A x.ins.qs.length x.ins.c,.slice x.f.dA x.f.ds.length x.f.dc,.slice x.f.oA x.f.os.length x.f.oc,.slice x.us.A x.us.us.length x.us.c]⟩::R) sub_
 rcases ha with rfl|rfl
 ·refine gsab4d_ ?_;clear hs hm a;intros;rename_i a hm hs
  have kf:=fun w'' (hf:Pu wB w'')=>fread_c x.f a0 a2 w'' (hx.pu hf).f h.f
  unfold FV.v CnS.v at kf
  refine cMid (fun a w=>∃(f:FV)(R':List Hp)(gf:Nat)(l:CnS)(b:Bool),On R' f.ok∧f.d'.val∧On R' l.ok∧(∀c∈l.xs,c.val)∧(l.xs.length:Int)≤max 0 a2∧Sl Tryz.f125.ntmps [(2,.pointer (some ⟨g2,0,none⟩)),(3,.pointer (some ⟨g3,0,none⟩)),(4,.pointer (some ⟨g4,0,none⟩)),(5,.pointer (some ⟨g5,0,none⟩)),(7,.pointer (some ⟨g7,0,none⟩)),(8,.slice (some ⟨ga,0,none⟩) 3 3),(11,.pointer (some ⟨g11,0,none⟩)),(15,.pointer (some ⟨gf,0,none⟩)),(16,.slice l.A l.xs.length l.c),(17,.bool b)] a∧Mm (fun _=>False) wB (⟨some gf,78,[.slice f.dA f.ds.length f.dc,.slice f.oA f.os.length f.oc]⟩::⟨some g11,175,[.int .u8 0,.int .u16 (IntKind.u16.wrap (failF 0 false)),.int .i64 0,.int .i64 0,.slice none 0 0,.int .i64 (-1),.bool false]⟩::⟨some ga,3,[.int .i64 a0,.int .i64 a1,.int .i64 a2]⟩::⟨some g7,81,[.slice y.ck.A y.ck.xs.length y.ck.c,.slice y.rn.A y.rn.xs.length y.rn.c,.slice y.ins.A y.ins.qs.length y.ins.c,.slice y.f.dA y.f.ds.length y.f.dc,.slice y.f.oA y.f.os.length y.f.oc,.slice y.us.A y.us.us.length y.us.c]⟩::⟨some g5,175,[.int .u8 0,.int .u16 0,.int .i64 0,.int .i64 0,.slice none 0 0,.int .i64 0,.bool false]⟩::⟨some g4,81,[.slice none 0 0,.slice none 0 0,.slice none 0 0,.slice none 0 0,.slice none 0 0,.slice none 0 0]⟩::⟨some g3,173,[.int .i64 th,.int .i64 1,.int .i64 trap,.int .i64 cnt,.int .i64 pc,.int .i64 2,.slice (some ⟨b1,o1,none⟩) ra.xs.length ra.c,.slice rd.A rd.xs.length rd.c]⟩::⟨some g2,81,[.slice x.ck.A x.ck.xs.length x.ck.c,.slice x.rn.A x.rn.xs.length x.rn.c,.slice x.ins.A x.ins.qs.length x.ins.c,.slice x.f.dA x.f.ds.length x.f.dc,.slice x.f.oA x.f.os.length x.f.oc,.slice x.us.A x.us.us.length x.us.c]⟩::(R++R')) w) ?_ ?_
  ·with_reducible repeat(first|apply gThen|apply wp_seq)
   refine cDrawT (n:=17) (.s [0,1,2,3,4,5,6,7]<| .e [(8,.x<| .s [9,10,11,12]<| .o 13<| .o 14<| .s [15,16]<| .d),(13,.o 8<| .x<| .s [9,10,11,12]<| .o 14<| .s [15,16]<| .d)]) [⟨some ga,3,[.int .i64 a0,.int .i64 a1,.int .i64 a2]⟩,⟨some g3,173,[.int .i64 th,.int .i64 1,.int .i64 trap,.int .i64 cnt,.int .i64 pc,.int .i64 2,.slice (some ⟨b1,o1,none⟩) ra.xs.length ra.c,.slice rd.A rd.xs.length rd.c]⟩,⟨some g2,81,[.slice x.ck.A x.ck.xs.length x.ck.c,.slice x.rn.A x.rn.xs.length x.rn.c,.slice x.ins.A x.ins.qs.length x.ins.c,.slice x.f.dA x.f.ds.length x.f.dc,.slice x.f.oA x.f.os.length x.f.oc,.slice x.us.A x.us.us.length x.us.c]⟩] hm rfl rfl ?_
   clear hm;intro t_ w1_ hm
   repeat' (first|(refine dg7dd6_ ?_;clear t_ hs hm a;intros;rename_i a hm hs t_)|refine tE t_ ?_|refine tC ?_ ?_|exact tN|intro t_|(refine oDo (i:=8) hs rfl (Wnt.none rfl) rfl rfl (by exact d_call hs rfl rfl rfl (pl 133 rfl) ((kf _ hm.fr))) ?_;clear hs;rintro _ w1 ⟨f,l,b,R',rfl,hfo,hlo,hN,hfv,hlv,hl64,hln,hf⟩ a hs;(replace hm:=gainE hm hf hN);(clear hf hN);(try simp only[List.cons_append,List.nil_append,List.append_assoc]at hm);replace t_:=tX t_;refine⟨(hm.sub sub_),?_⟩)|(refine tD t_ ?_;(obtain⟨gf,rfl⟩:=hs.pp 15);(exact And.intro rfl ⟨f,R',gf,l,b,hfo,hfv,hlo,hlv,hln,(sb_ hs),hm⟩))|fail)
  clear hs hm a
  rintro a w ⟨f,R',gf,l,b,hfo,hfv,hlo,hlv,hln,hs,hm⟩
  refine cMid (fun a w=>Sl Tryz.f125.ntmps [(4,.pointer (some ⟨g4,0,none⟩)),(5,.pointer (some ⟨g5,0,none⟩)),(7,.pointer (some ⟨g7,0,none⟩)),(11,.pointer (some ⟨g11,0,none⟩))] a∧Mm (fun _=>False) wB (⟨some g11,175,[.int .u8 0,.int .u16 (IntKind.u16.wrap (failF (l.xs.length:Int) b)),.int .i64 0,.int .i64 0,.slice l.A l.xs.length l.c,.int .i64 (-1),.bool false]⟩::⟨some g7,81,[.slice y.ck.A y.ck.xs.length y.ck.c,.slice y.rn.A y.rn.xs.length y.rn.c,.slice y.ins.A y.ins.qs.length y.ins.c,.slice f.dA f.ds.length f.dc,.slice f.oA f.os.length f.oc,.slice y.us.A y.us.us.length y.us.c]⟩::⟨some g5,175,[.int .u8 0,.int .u16 0,.int .i64 0,.int .i64 0,.slice none 0 0,.int .i64 0,.bool false]⟩::⟨some g4,81,[.slice none 0 0,.slice none 0 0,.slice none 0 0,.slice none 0 0,.slice none 0 0,.slice none 0 0]⟩::(R++R')) w) ?_ ?_
  ·with_reducible repeat(first|apply gThen|apply wp_seq)
   refine cDrawT (n:=8) (.s [0,1,2,3,5]<| .o 4<| .x<| .o 6<| .o 7<| .d) [⟨some gf,78,[.slice f.dA f.ds.length f.dc,.slice f.oA f.os.length f.oc]⟩] hm rfl rfl ?_
   clear hm;intro t_ w1_ hm
   repeat' (first|(refine dg7dd6_ ?_;clear t_ hs hm a;intros;rename_i a hm hs t_)|refine tE t_ ?_|refine tC ?_ ?_|exact tN|intro t_|(refine oDo (i:=4) hs rfl (Wnt.none rfl) rfl rfl (by exact d_call hs rfl rfl rfl (pl 123 rfl) ((kvl _ _ _))) ?_;clear hs;rintro _ w1 ⟨rfl,hf⟩ a hs;(replace hm:=hm.pu hf);(clear hf);replace t_:=tX t_;refine⟨(hm.sub sub_),?_⟩)|(refine tD t_ ?_;(refine gsab4d_ ?_;clear hs hm a;intros;rename_i a hm hs);(exact And.intro rfl ⟨(sb_ hs),hm.sub sub_⟩))|fail)
  clear hs hm a
  rintro a w ⟨hs,hm⟩
  refine gsab4d_ ?_;clear hs hm a;intros;rename_i a hm hs
  have ha2:a2=(ra.xs[2]'(by omega)).v:=Option.some.inj (hargs 2 _ (List.getElem?_eq_getElem (by omega)))
  refine cDrawT (n:=5) (.s [0,1]<| .o 2<| .o 3<| .t 4<| .d) [⟨some g11,175,[.int .u8 0,.int .u16 (IntKind.u16.wrap (failF (l.xs.length:Int) b)),.int .i64 0,.int .i64 0,.slice l.A l.xs.length l.c,.int .i64 (-1),.bool false]⟩,⟨some g7,81,[.slice y.ck.A y.ck.xs.length y.ck.c,.slice y.rn.A y.rn.xs.length y.rn.c,.slice y.ins.A y.ins.qs.length y.ins.c,.slice f.dA f.ds.length f.dc,.slice f.oA f.os.length f.oc,.slice y.us.A y.us.us.length y.us.c]⟩] hm rfl rfl ?_
  clear hm;intro t_ w1_ hm
  repeat' (first|(refine dg7dd6_ ?_;clear t_ hs hm a;intros;rename_i a hm hs t_)|refine tE t_ ?_|refine tC ?_ ?_|exact tN|intro t_|(refine tD t_ ?_;(refine gsab4d_ ?_;clear hs hm a;intros;rename_i a hm hs);(exact gRetN tab hs rfl (.cons (.cells rfl rfl rfl rfl (hm.ro (k:=0) (n:=6) (g:=g4) mem_ (cutF_ok rfl))) (.cons (.cells rfl rfl rfl rfl (hm.ro (k:=0) (n:=7) (g:=g5) mem_ (cutF_ok rfl))) (.cons (.tmp rfl) .nil))) ⟨{y with f:=f},{valR (l.xs.length:Int) b with d:=l},R++R',rfl,hyo.set_f hfo,hlo.more (fun _ hh=>List.mem_append_right _ hh),hm.new sub_,hyv.set_f hfv,⟨(valR_fit _ b).v,by dsimp only;omega,hlv,(valR_fit 0 b).sp⟩,rfl,rfl,hm.fr⟩))|fail)
 ·refine gsab4d_ ?_;clear hs hm a;intros;rename_i a hm hs
  have kf:=fun w'' (hf:Pu wB w'')=>recv_c x.ins a0 a2 w'' (hx.pu hf).ins h.ins
  unfold InL.v CnS.v at kf
  refine cMid (fun a w=>∃(f:InL)(R':List Hp)(l:CnS)(b:Bool),On R' f.ok∧On R' l.ok∧f.val∧(∀c∈l.xs,c.val)∧(l.xs.length:Int)≤max 0 a2∧Sl Tryz.f125.ntmps [(2,.pointer (some ⟨g2,0,none⟩)),(3,.pointer (some ⟨g3,0,none⟩)),(4,.pointer (some ⟨g4,0,none⟩)),(5,.pointer (some ⟨g5,0,none⟩)),(7,.pointer (some ⟨g7,0,none⟩)),(8,.slice (some ⟨ga,0,none⟩) 3 3),(11,.pointer (some ⟨g11,0,none⟩)),(27,.slice f.A f.qs.length f.c),(28,.slice l.A l.xs.length l.c),(29,.bool b)] a∧Mm (fun _=>False) wB (⟨some g11,175,[.int .u8 0,.int .u16 (IntKind.u16.wrap (failF 0 false)),.int .i64 0,.int .i64 0,.slice none 0 0,.int .i64 (-1),.bool false]⟩::⟨some ga,3,[.int .i64 a0,.int .i64 a1,.int .i64 a2]⟩::⟨some g7,81,[.slice y.ck.A y.ck.xs.length y.ck.c,.slice y.rn.A y.rn.xs.length y.rn.c,.slice y.ins.A y.ins.qs.length y.ins.c,.slice y.f.dA y.f.ds.length y.f.dc,.slice y.f.oA y.f.os.length y.f.oc,.slice y.us.A y.us.us.length y.us.c]⟩::⟨some g5,175,[.int .u8 0,.int .u16 0,.int .i64 0,.int .i64 0,.slice none 0 0,.int .i64 0,.bool false]⟩::⟨some g4,81,[.slice none 0 0,.slice none 0 0,.slice none 0 0,.slice none 0 0,.slice none 0 0,.slice none 0 0]⟩::⟨some g3,173,[.int .i64 th,.int .i64 1,.int .i64 trap,.int .i64 cnt,.int .i64 pc,.int .i64 14,.slice (some ⟨b1,o1,none⟩) ra.xs.length ra.c,.slice rd.A rd.xs.length rd.c]⟩::⟨some g2,81,[.slice x.ck.A x.ck.xs.length x.ck.c,.slice x.rn.A x.rn.xs.length x.rn.c,.slice x.ins.A x.ins.qs.length x.ins.c,.slice x.f.dA x.f.ds.length x.f.dc,.slice x.f.oA x.f.os.length x.f.oc,.slice x.us.A x.us.us.length x.us.c]⟩::(R++R')) w) ?_ ?_
  ·with_reducible repeat(first|apply gThen|apply wp_seq)
   refine cDrawT (n:=16) (.s [0,1,2,3,4,5,6,7]<| .o 8<| .x<| .s [9,10,11,12,13,14,15]<| .d) [⟨some ga,3,[.int .i64 a0,.int .i64 a1,.int .i64 a2]⟩,⟨some g3,173,[.int .i64 th,.int .i64 1,.int .i64 trap,.int .i64 cnt,.int .i64 pc,.int .i64 14,.slice (some ⟨b1,o1,none⟩) ra.xs.length ra.c,.slice rd.A rd.xs.length rd.c]⟩,⟨some g2,81,[.slice x.ck.A x.ck.xs.length x.ck.c,.slice x.rn.A x.rn.xs.length x.rn.c,.slice x.ins.A x.ins.qs.length x.ins.c,.slice x.f.dA x.f.ds.length x.f.dc,.slice x.f.oA x.f.os.length x.f.oc,.slice x.us.A x.us.us.length x.us.c]⟩] hm rfl rfl ?_
   clear hm;intro t_ w1_ hm
   repeat' (first|(refine dg7dd6_ ?_;clear t_ hs hm a;intros;rename_i a hm hs t_)|refine tE t_ ?_|refine tC ?_ ?_|exact tN|intro t_|(refine oDo (i:=8) hs rfl (Wnt.none rfl) rfl rfl (by exact d_call hs rfl rfl rfl (pl 138 rfl) ((kf _ hm.fr))) ?_;clear hs;rintro _ w1 ⟨f,l,b,R',rfl,hfo,hlo,hN,hfv,hlv,hl64,hln,hf⟩ a hs;(replace hm:=gainE hm hf hN);(clear hf hN);(try simp only[List.cons_append,List.nil_append,List.append_assoc]at hm);replace t_:=tX t_;refine⟨(hm.sub sub_),?_⟩)|(refine tD t_ ?_;(exact And.intro rfl ⟨f,R',l,b,hfo,hlo,hfv,hlv,hln,(sb_ hs),hm⟩))|fail)
  clear hs hm a
  rintro a w ⟨f,R',l,b,hfo,hlo,hfv,hlv,hln,hs,hm⟩
  refine gcShj1_ ?_;clear hs hm a;intros;rename_i a hm hs
  have ha2:a2=(ra.xs[2]'(by omega)).v:=Option.some.inj (hargs 2 _ (List.getElem?_eq_getElem (by omega)))
  refine cDrawT (n:=5) (.s [0,1]<| .o 2<| .o 3<| .t 4<| .d) [⟨some g11,175,[.int .u8 0,.int .u16 (IntKind.u16.wrap (failF (l.xs.length:Int) b)),.int .i64 0,.int .i64 0,.slice l.A l.xs.length l.c,.int .i64 (-1),.bool false]⟩,⟨some g7,81,[.slice y.ck.A y.ck.xs.length y.ck.c,.slice y.rn.A y.rn.xs.length y.rn.c,.slice f.A f.qs.length f.c,.slice y.f.dA y.f.ds.length y.f.dc,.slice y.f.oA y.f.os.length y.f.oc,.slice y.us.A y.us.us.length y.us.c]⟩] hm rfl rfl ?_
  clear hm;intro t_ w1_ hm
  repeat' (first|(refine dg7dd6_ ?_;clear t_ hs hm a;intros;rename_i a hm hs t_)|refine tE t_ ?_|refine tC ?_ ?_|exact tN|intro t_|(refine tD t_ ?_;(refine gsab4d_ ?_;clear hs hm a;intros;rename_i a hm hs);(exact gRetN tab hs rfl (.cons (.cells rfl rfl rfl rfl (hm.ro (k:=0) (n:=6) (g:=g4) mem_ (cutF_ok rfl))) (.cons (.cells rfl rfl rfl rfl (hm.ro (k:=0) (n:=7) (g:=g5) mem_ (cutF_ok rfl))) (.cons (.tmp rfl) .nil))) ⟨{y with ins:=f},{valR (l.xs.length:Int) b with d:=l},R++R',rfl,hyo.set_ins hfo,hlo.more (fun _ hh=>List.mem_append_right _ hh),hm.new sub_,hyv.set_ins hfv,⟨(valR_fit _ b).v,by dsimp only;omega,hlv,(valR_fit 0 b).sp⟩,rfl,rfl,hm.fr⟩))|fail)
theorem do_c [HB](x:OV)(r:RqV)(wB:World)(hx:x.ok wB)(h:x.val)(hr:r.ok wB)(hrv:r.val)(hrk:r.kin)(hst:r.stop=1)(ha:actsF r.call):Ret Tryz.prog 125 [x.v,r.v] wB (fun u w'=>∃(y:OV)(z:RsV)(R:List Hp),u= .tuple #[y.v,z.v,.int .i64 0]∧On R y.ok∧On R z.ok∧New wB w' R∧y.val∧z.fit∧z.spawn=-1∧z.wait=false∧Pu wB w'):=by
 have hc:r.call=1∨r.call=2∨r.call=3∨r.call=4∨r.call=5∨r.call=6∨r.call=7∨r.call=13∨r.call=14:=by unfold actsF at ha;omega
 rcases hc with e|e|e|e|e|e|e|e|e
 ·exact do_g1 x r wB hx h hr hrv hrk hst (by omega)
 ·exact do_g2 x r wB hx h hr hrv hrk hst (by omega)
 ·exact zc137_
 ·exact zc137_
 ·exact zc137_
 ·exact zc137_
 ·exact zc137_
 ·exact do_g1 x r wB hx h hr hrv hrk hst (by omega)
 ·exact do_g2 x r wB hx h hr hrv hrk hst (by omega)
def newA:Ab:=⟨List.replicate 4 (-1),List.replicate 4 []⟩
def nilS:IS:=⟨none,0,0,[]⟩
theorem nilS_ok(w:World):nilS.ok w:=⟨rfl,fun h=>by cases h⟩
structure VA(a:Ab):Prop where
 o:a.os.length=4
 q:a.qs.length=4
 ob:∀v∈a.os,-1≤v∧v<4
 e:∀i,i<4→a.os.getD i 0=-1→a.qs.getD i []=[]
 qb:∀q∈a.qs,∀t∈q,0≤t∧t<4
 ne:∀i t,i<4→t∈a.qs.getD i []→t≠a.os.getD i 0
 nd:a.qs.flatten.Nodup
theorem nd_len:∀(n:Nat)(l:List Int),l.Nodup→(∀t∈l,0≤t∧t<(n:Int))→l.length≤n
 |0,[],_,_=>Nat.le_refl _
 |0,x::l,_,h=>by have:=h x (List.mem_cons_self ..);omega
 |n+1,l,hn,h=>by
  by_cases hm:(n:Int)∈l
  ·have h1:=nd_len n (l.erase (n:Int)) (hn.erase _) fun t ht=>by
    have h2:=h t (List.mem_of_mem_erase ht)
    have h3:t≠(n:Int):=fun e=>(hn.not_mem_erase) (e▸ht)
    omega
   rw[List.length_erase_of_mem hm]at h1
   omega
  ·have h1:=nd_len n l hn fun t ht=>by
    have h2:=h t ht
    have h3:t≠(n:Int):=fun e=>hm (e▸ht)
    omega
   omega
theorem VA.len{a:Ab}(h:VA a):∀q∈a.qs,q.length≤4:=fun q hq=>by
 have h1:=nd_len 4 a.qs.flatten h.nd fun t ht=>by
  obtain⟨q',hq',ht'⟩:=List.mem_flatten.1 ht
  exact h.qb q' hq' t ht'
 have h2:q.length≤a.qs.flatten.length:=(List.sublist_flatten_of_mem hq).length_le
 omega
theorem VA.sh{a:Ab}(h:VA a):a.sh:=⟨h.o,h.q,fun q hq=>by have:=h.len q hq;omega⟩
theorem getQ_set{l:List (List Int)}{i j:Nat}{v:List Int}(hi:i<l.length):(l.set i v).getD j []=if i=j then v else l.getD j []:=by
 simp only[List.getD_eq_getElem?_getD,List.getElem?_set]
 by_cases h:i=j
 ·subst h;simp[hi]
 ·simp[h]
theorem getQ{l:List (List Int)}{k:Nat}(h:k<l.length):l.getD k []=l[k]:=by rw[List.getD_eq_getElem?_getD,List.getElem?_eq_getElem h];rfl
theorem flatQ_set{qs:List (List Int)}{k:Nat}(h:k<qs.length)(q:List Int):(qs.set k q).flatten=(qs.take k).flatten++(q++(qs.drop (k+1)).flatten):=by
 rw[List.set_eq_take_append_cons_drop,if_pos h,List.flatten_append,List.flatten_cons]
theorem flatQ_at{qs:List (List Int)}{k:Nat}(h:k<qs.length):qs.flatten=(qs.take k).flatten++(qs[k]++(qs.drop (k+1)).flatten):=by
 have:=flatQ_set h qs[k]
 rwa[List.set_getElem_self]at this
theorem wt_mem{a:Ab}{t:Int}(h:a.wt t=false):∀q∈a.qs,t∉q:=fun q hq ht=>by
 unfold Ab.wt at h
 have:=List.any_eq_false.1 h q hq
 exact this (by rw[List.any_eq_true];exact⟨t,ht,by simp⟩)
theorem newA_va:VA newA:=by
 refine⟨rfl,rfl,fun v hv=>?_,fun i hi _=>?_,fun q hq t ht=>?_,fun i t hi ht=>?_,?_⟩
 ·rw[List.eq_of_mem_replicate hv];omega
 ·unfold newA
  rcases(by omega:i=0∨i=1∨i=2∨i=3)with rfl|rfl|rfl|rfl<;>rfl
 ·rw[List.eq_of_mem_replicate hq]at ht;cases ht
 ·have:newA.qs.getD i []=[]:=by
   unfold newA
   rcases(by omega:i=0∨i=1∨i=2∨i=3)with rfl|rfl|rfl|rfl<;>rfl
  rw[this]at ht;cases ht
 ·show(List.replicate 4 ([]:List Int)).flatten.Nodup
  exact List.nodup_nil
section
variable {a:Ab} {k:Nat} {t:Int}
theorem set_own_va(h:VA a)(hk:k<4){v:Int}(hv:-1≤v∧v<4)(he:v=-1→a.qs.getD k []=[])(hn:v∉a.qs.getD k []):VA ⟨a.os.set k v,a.qs⟩:=by
 have ho:=h.o
 refine⟨by dsimp only;rw[List.length_set];exact ho,h.q,fun u hu=>?_,fun i hi hi1=>?_,h.qb,fun i u hi hu=>?_,h.nd⟩
 ·rcases List.mem_or_eq_of_mem_set hu with hu|rfl
  ·exact h.ob u hu
  ·exact hv
 ·dsimp only at hi1 ⊢
  rw[getD_set (by omega)]at hi1
  by_cases e:k=i
  ·subst e;rw[if_pos rfl]at hi1;exact he hi1
  ·rw[if_neg e]at hi1;exact h.e i hi hi1
 ·dsimp only at hu ⊢
  rw[getD_set (by omega)]
  by_cases e:k=i
  ·subst e;rw[if_pos rfl];exact fun e=>hn (e▸hu)
  ·rw[if_neg e];exact h.ne i u hi hu
theorem tak_va(h:VA a)(hk:k<4)(ht:0≤t∧t<4):VA (takF a k t).1:=by
 have ho:=h.o
 have hq:=h.q
 unfold takF
 by_cases c1:a.os.getD k 0=t
 ·rw[if_pos c1];exact h
 rw[if_neg c1]
 cases hw:a.wt t
 ·rw[if_neg (by simp)]
  have hnm:=wt_mem hw
  have hkq:k<a.qs.length:=by omega
  by_cases c3:a.os.getD k 0=-1
  ·rw[if_pos c3]
   have he:=h.e k hk c3
   exact set_own_va h hk (by omega) (fun _=>he) (by rw[he];simp)
  ·rw[if_neg c3]
   have hqk:=getQ hkq
   refine⟨ho,by dsimp only;rw[List.length_set];exact hq,h.ob,fun i hi hi1=>?_,fun q hq' u hu=>?_,fun i u hi hu=>?_,?_⟩
   ·dsimp only at hi1 ⊢
    rw[getQ_set hkq]
    by_cases e:k=i
    ·subst e;exact absurd hi1 c3
    ·rw[if_neg e];exact h.e i hi hi1
   ·rcases List.mem_or_eq_of_mem_set hq' with hq'|rfl
    ·exact h.qb q hq' u hu
    ·rcases List.mem_append.1 hu with hu|hu
     ·rw[hqk]at hu;exact h.qb _ (List.getElem_mem _) u hu
     ·rcases List.mem_singleton.1 hu with rfl;exact ht
   ·dsimp only at hu ⊢
    rw[getQ_set hkq]at hu
    by_cases e:k=i
    ·subst e
     rw[if_pos rfl]at hu
     rcases List.mem_append.1 hu with hu|hu
     ·exact h.ne k u hk hu
     ·rcases List.mem_singleton.1 hu with rfl;exact fun e=>c1 e.symm
    ·rw[if_neg e]at hu;exact h.ne i u hi hu
   ·dsimp only
    have hnd:=h.nd
    rw[flatQ_at hkq]at hnd
    rw[flatQ_set hkq,hqk]
    have hp:((a.qs.take k).flatten++((a.qs[k]++[t])++(a.qs.drop (k+1)).flatten)).Perm (t::((a.qs.take k).flatten++(a.qs[k]++(a.qs.drop (k+1)).flatten))):=by
     rw[List.append_assoc a.qs[k],List.singleton_append,←List.append_assoc,←List.append_assoc]
     exact List.perm_middle
    rw[hp.nodup_iff,List.nodup_cons]
    refine⟨fun hm=>?_,hnd⟩
    rw[←flatQ_at hkq]at hm
    obtain⟨q,hq',hm'⟩:=List.mem_flatten.1 hm
    exact hnm q hq' hm'
 ·rw[if_pos rfl];exact h
theorem giv_va(h:VA a)(hk:k<4):VA (givF a k t).1:=by
 have ho:=h.o
 have hq:=h.q
 have hkq:k<a.qs.length:=by omega
 have hqk:=getQ hkq
 unfold givF
 by_cases c1:a.os.getD k 0=t
 ·rw[if_pos c1]
  cases hx:a.qs.getD k []with
  |nil=>exact set_own_va h hk (by omega) (fun _=>hx) (by rw[hx];simp)
  |cons u l=>
   dsimp only
   have hmem:u::l∈a.qs:=by rw[←hx,hqk];exact List.getElem_mem _
   have hub:=h.qb _ hmem u (List.mem_cons_self ..)
   have hnd:=h.nd
   rw[flatQ_at hkq,←hqk,hx]at hnd
   have hul:(u::l).Nodup:=hnd.sublist ((List.sublist_append_left _ _).trans (List.sublist_append_right _ _))
   have h2:VA ⟨a.os,a.qs.set k l⟩:=by
    refine⟨ho,by dsimp only;rw[List.length_set];exact hq,h.ob,fun i hi hi1=>?_,fun q hq' v hv=>?_,fun i v hi hv=>?_,?_⟩
    ·dsimp only at hi1 ⊢
     rw[getQ_set hkq]
     by_cases e:k=i
     ·subst e
      have:=h.e k hk hi1
      rw[hx]at this;cases this
     ·rw[if_neg e];exact h.e i hi hi1
    ·rcases List.mem_or_eq_of_mem_set hq' with hq'|rfl
     ·exact h.qb q hq' v hv
     ·exact h.qb _ hmem v (List.mem_cons_of_mem _ hv)
    ·dsimp only at hv ⊢
     rw[getQ_set hkq]at hv
     by_cases e:k=i
     ·subst e
      rw[if_pos rfl]at hv
      exact h.ne k v hk (by rw[hx];exact List.mem_cons_of_mem _ hv)
     ·rw[if_neg e]at hv;exact h.ne i v hi hv
    ·dsimp only
     rw[flatQ_set hkq]
     exact hnd.sublist (List.Sublist.append_left (List.Sublist.append_right (List.sublist_cons_self u l) _) _)
   refine set_own_va h2 hk (by omega) (fun e=>by omega) ?_
   dsimp only
   rw[getQ_set hkq,if_pos rfl]
   exact(List.nodup_cons.1 hul).1
 ·rw[if_neg c1];exact h
end
end Go.Proofs.YtbjffoojenpmfaaGreat
