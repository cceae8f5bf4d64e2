/- Texts put together: Sip, Siq, Flat. -/
import Derived.Test.YtbjffoojenpmfaaGreatMgSOr
set_option maxRecDepth 20000
set_option maxHeartbeats 64000000
set_option linter.unusedVariables false
set_option linter.unusedSimpArgs false
namespace Go.Proofs.YtbjffoojenpmfaaGreat
open Go.RowKit
theorem gpSip0_{G H:Prop}(k:H)(s:Bx H→G:=by intro k_;(repeat(first|(refine ovR_ ?_;(try clear hs a);intro a hs)|((with_reducible apply lCons);first|(refine dv hs gw_ rfl rfl da_ ?_;(try clear hs hm a);rintro _ w_ ⟨g_,rfl,-,hm⟩ a hs)|(refine stn hs rfl rfl ds_ ?_;(try clear hs hm a);rintro-w_ hm a hs))|refine sc_ ?_));have m_:=hm;have s_:=hs;clear hs;(try clear hm);revert m_ s_ a;(try revert w_);(repeat revert g_);exact k_.h):G:=s ⟨k⟩
def th5:ThD:=⟨1,[],5,0,-1,-1,0,0⟩
def th9:ThD:=⟨1,[],5,0,9,-1,0,0⟩
def awM(g:Nat):MV:=⟨none,0,[],0,none,0,[],none,0,[],some ⟨g,0,none⟩,2,[⟨none,0,th5⟩,⟨none,0,th9⟩]⟩
theorem awM_sm(g:Nat):(awM g).d.sm:=⟨Nat.zero_le _,Nat.zero_le _,Nat.zero_le _,(by show 2≤1000;omega),(fun y hy=>by cases hy),fun y hy=>by
 have hy':y∈ [th5,th9]:=hy
 simp only[List.mem_cons,List.not_mem_nil,or_false]at hy'
 rcases hy' with rfl|rfl
 ·exact Nat.zero_le _
 ·exact Nat.zero_le _⟩
theorem awk16_c(wB:World):Ret Tryz.prog 7 [] wB (fun u w'=>u= .bool true∧Pu wB w'):=by
 refine enterR Tryz.func7 rfl rfl rfl fun a hs hm=>?_
 refine gsce98_ ?_;clear hs hm a;intros;rename_i a hm hs
 obtain⟨g6,rfl⟩:=hs.qq 6
 obtain⟨g1,rfl⟩:=hs.pp 1
 have haw:∀(w:World)(M':List Hp),Mm (fun _=>False) wB M' w→(⟨some g6,52,[.int .i64 1,.slice none 0 0,.int .i64 5,.int .i64 0,.int .i64 (-1),.int .i64 (-1),.int .i64 0,.int .u16 0,.int .i64 1,.slice none 0 0,.int .i64 5,.int .i64 0,.int .i64 9,.int .i64 (-1),.int .i64 0,.int .u16 0]⟩:Hp)∈M'→(awM g6).ok w:=fun w M' hm hM=>⟨(fun h=>by cases h),(fun h=>by cases h),(fun h=>by cases h),hm.rd hM (List.prefix_refl _),(fun y hy=>by cases hy),fun y hy=>by
  simp only[awM,List.mem_cons,List.not_mem_nil,or_false]at hy
  rcases hy with rfl|rfl
  ·exact fun h=>by cases h
  ·exact fun h=>by cases h⟩
 have hok:=haw _ _ hm mem_
 have kdl:=pdel_c (awM g6) 1 _ hok (awM_sm g6)
 refine st hs rfl rfl rfl (d_call hs rfl rfl rfl (pl 11 rfl) ((kdl))) ?_;clear hs a;rintro _ w2 ⟨y,rfl,yo,yd,hN,hf⟩ a hs
 clear hok
 replace hm:=gainE hm hf hN
 clear hN hf kdl
 simp only[List.cons_append,List.nil_append]at hm
 have e1:(delF (awM g6).d 1).ts=[th5,delT th9]:=by rfl
 have e2:y.ts.map ThO.d=[th5,delT th9]:=by rw[←e1,←yd];rfl
 have hl2:y.ts.length=2:=by have:=congrArg List.length e2;rwa[List.length_map]at this
 have hdp:depF y.d.ts=1:=by rw[show y.d.ts=[th5,delT th9]from e2];rfl
 obtain⟨gt,hgt⟩:=yo.t.some_ (by omega)
 have hk1:1<y.ts.length:=by omega
 have hq1:(y.ts[1]).d=delT th9:=by
  have:(y.ts.map ThO.d)[1]?=([th5,delT th9])[1]?:=congrArg (fun l=>l[1]?) e2
  rw[List.getElem?_map,List.getElem?_eq_getElem hk1]at this
  exact Option.some.inj this
 have c2:y.tcs[10]?=some (.int .i64 9):=by
  have:=yo.t.get (j:=1*8+2) (u:= .int .i64 (y.ts[1]).d.pc) (by rw[flat_get ThO.v 8 ThO.len y.ts 1 2 hk1 (by omega)];rfl)
  rw[hq1]at this
  exact this
 have c5:y.tcs[13]?=some (.int .i64 5):=by
  have:=yo.t.get (j:=1*8+5) (u:= .int .i64 (y.ts[1]).d.sav) (by rw[flat_get ThO.v 8 ThO.len y.ts 1 5 hk1 (by omega)];rfl)
  rw[hq1]at this
  exact this
 have hysm:y.mv.d.sm:=by
  rw[MO.mv_d]
  have h1:y.d=delF (awM g6).d 1:=yd
  rw[h1]
  refine⟨Nat.zero_le _,Nat.zero_le _,Nat.zero_le _,(by show 2≤1000;omega),(fun z hz=>by cases hz),fun z hz=>?_⟩
  rw[e1]at hz
  simp only[List.mem_cons,List.not_mem_nil,or_false]at hz
  rcases hz with rfl|rfl
  ·exact Nat.zero_le _
  ·exact Nat.zero_le _
 have hmv:∀w M',Mm (fun _=>False) wB M' w→(∀h∈y.hps,h∈M')→y.mv.ok w:=fun w M' hm h=>MO.mv_ok hm h yo
 have kc0:=fun(w:World) (M':List Hp) (hm:Mm (fun _=>False) wB M' w) (hM:(⟨some g6,52,[.int .i64 1,.slice none 0 0,.int .i64 5,.int .i64 0,.int .i64 (-1),.int .i64 (-1),.int .i64 0,.int .u16 0,.int .i64 1,.slice none 0 0,.int .i64 5,.int .i64 0,.int .i64 9,.int .i64 (-1),.int .i64 0,.int .u16 0]⟩:Hp)∈M')=>pcan_c (awM g6) 0 w (haw w M' hm hM) (awM_sm g6)
 have kc1:=fun(w:World) (M':List Hp) (hm:Mm (fun _=>False) wB M' w) (hM:(⟨some g6,52,[.int .i64 1,.slice none 0 0,.int .i64 5,.int .i64 0,.int .i64 (-1),.int .i64 (-1),.int .i64 0,.int .u16 0,.int .i64 1,.slice none 0 0,.int .i64 5,.int .i64 0,.int .i64 9,.int .i64 (-1),.int .i64 0,.int .u16 0]⟩:Hp)∈M')=>pcan_c (awM g6) 1 w (haw w M' hm hM) (awM_sm g6)
 rw[show canS (awM g6).d 0=false by rfl]at kc0
 rw[show canS (awM g6).d 1=true by rfl]at kc1
 have kd:∀(w:World),y.mv.ok w→Ret Tryz.prog 16 [.agg #[slv y.bA y.bs.length y.bc,.int .u16 y.key,slv y.m.cA y.m.xs.length y.m.cc,slv y.m.lA y.m.ls.length y.m.lc,slv (some gt) 2 y.tc]] w (fun u w'=>u= .int .i64 1∧Pu w w'):=fun w h=>by
  have h1:=pdep_c y.mv w h hysm
  rw[MO.mv_v,MO.mv_d,hdp]at h1
  unfold MO.v at h1
  rw[hgt,hl2]at h1
  exact h1
 unfold MO.v at hs
 rw[hgt,hl2]at hs
 unfold MO.hps at hm
 rw[hgt]at hm
 have hmh:∀(w:World)(M':List Hp),Mm (fun _=>False) wB M' w→(∀h∈⟨some gt,52,y.tcs⟩::⟨y.bA,3,y.bcs⟩::(y.m.hps++y.ts.map ThO.hp),h∈M')→y.mv.ok w:=fun w M' hm h=>hmv w M' hm (by
  unfold MO.hps
  rw[hgt]
  exact h)
 repeat(first|(refine gpSip0_ ?_;clear hs hm a;intros;rename_i a hm hs)|refine sc_ ?_|((with_reducible apply lCons);first|(refine dvc hs hm gw_ rfl rfl rfl rfl rfl (pl 13 rfl) (kc0 _ _ hm mem_) ?_;clear hs hm a;intro w hm a hs)|(refine dvc hs hm gw_ rfl rfl rfl rfl rfl (pl 13 rfl) (kc1 _ _ hm mem_) ?_;clear hs hm a;intro w hm a hs)|(refine dvc hs hm gw_ rfl rfl rfl rfl rfl (pl 16 rfl) (kd _ (hmh _ _ hm (by intro z hz;simp only[List.mem_cons,List.mem_append]at hz ⊢;rcases hz with hz|hz|hz|hz<;>simp[hz]))) ?_;clear hs hm a;intro w hm a hs)))
 exact gRet1 hs rfl rfl ⟨rfl,hm.fr⟩
theorem gpSiq0_{G H:Prop}(k:H)(s:Bx H→G:=by intro k_;(repeat(first|(refine ovR_ ?_;(try clear hs a);intro a hs)|((with_reducible apply lCons);first|(refine dv hs gw_ rfl rfl da_ ?_;(try clear hs hm a);rintro _ w_ ⟨g_,rfl,-,hm⟩ a hs)|(refine stn hs rfl rfl ds_ ?_;(try clear hs hm a);rintro-w_ hm a hs))|refine sc_ ?_));have m_:=hm;have s_:=hs;clear hs;(try clear hm);revert m_ s_ a;(try revert w_);(repeat revert g_);exact k_.h):G:=s ⟨k⟩
theorem dgSiq1_{G H:Prop}(k:H)(s:Bx H→G:=by intro k_;(repeat(first|(refine tTake t_ hs rfl (by kernel_rfl) gw_ rfl rfl (by intro w hm;replace hm:Mm _ _ _ w:=hm;(first|exact kvR_|exact r_loadO hs rfl rfl tab rfl rfl rfl hm (by repeat(first|exact mH|apply mT)) (by assumption))) (hm.sub sub_) ?_;(try clear t_ hs a);intro t_ a hs)|(refine tTakeN t_ hs rfl (by kernel_rfl) rfl rfl rfl rfl rfl rfl rfl (hm.sub sub_) ?_;(try clear t_ hs a);intro t_ a hs)|(refine tTakeU t_ hs rfl (by kernel_rfl) rfl rfl rfl rfl rfl rfl (hm.sub sub_) ?_;(try clear t_ hs a);intro t_ a hs)|(refine tE1 t_ ?_;(try clear t_);intro t_)|(refine nx_ t_ rfl ?_;have t_:=t_;first|(refine oDo hs rfl gw_ rfl rfl da_ ?_;(try clear hs hm a);rintro _ w_ ⟨g_,rfl,-,hm⟩ a hs;refine⟨(hm.sub sub_),?_⟩)|(refine oDoN hs rfl gw_ rfl ds_ ?_;(try clear hs hm a);rintro-w_ hm a hs;refine⟨(hm.sub sub_),?_⟩)|(refine oDoV hs rfl gw_ rfl rfl (by(first|exact klR_|exact r_loadO hs rfl rfl tab rfl rfl rfl hm (by repeat(first|exact mH|apply mT)) (by assumption))) ?_;(try clear hs a);intro a hs;refine⟨(hm.sub sub_),?_⟩))));have y_:=t_;clear t_;(first|(have m_:=hm;have s_:=hs;have z_:=y_;clear hs;(try clear hm);revert m_ s_ z_ a)|((first|refine rexd_ hs hm ?_|refine rexb_ hs hm ?_);intro a hm hs;have z_:=y_;revert hm hs z_ a));(try revert w_);(repeat revert g_);exact k_.h):G:=s ⟨k⟩
theorem gcSiq2_{G H:Prop}(k:H)(s:Bx H→G:=by intro k_;(repeat(first|(refine ovR_ ?_;(try clear hs a);intro a hs)|((with_reducible apply lCons);first|(refine dv hs gw_ rfl rfl da_ ?_;(try clear hs hm a);rintro _ w_ ⟨g_,rfl,-,hm⟩ a hs)|(refine stn hs rfl rfl ds_ ?_;(try clear hs hm a);rintro-w_ hm a hs))|refine sc_ ?_|((with_reducible apply lCons);first|(refine dvc hs hm gw_ rfl rfl rfl rfl rfl (pl 13 rfl) (kcn _ (hok1 _ _ hm (fun _ h=>h)).2) ?_;(try clear hs hm a);intro w_ hm a hs)|(refine dvc hs hm gw_ rfl rfl rfl rfl rfl (pl 15 rfl) (ksm _ (hok1 _ _ hm (fun _ h=>h)).1 (hok1 _ _ hm (fun _ h=>h)).2) ?_;(try clear hs hm a);intro w_ hm a hs)|(refine dvc hs hm gw_ rfl rfl rfl rfl rfl (pl 7 rfl) (awk16_c _) ?_;(try clear hs hm a);intro w_ hm a hs))));(first|(have m_:=hm;have s_:=hs;clear hs;(try clear hm);revert m_ s_ a)|((first|refine rexc_ hs hm ?_|refine rexl_ hs hm ?_|refine rexg_ hs hm ?_|refine rexq_ hs hm ?_);intro a hm hs;revert hm hs a));(try revert w_);(repeat revert g_);exact k_.h):G:=s ⟨k⟩
theorem delF_len(d:MD)(t:Int):(delF d t).ts.length=d.ts.length:=by
 unfold delF
 split
 ·dsimp only
  split
  ·rw[List.length_set]
  ·rfl
 ·rfl
theorem canS_T{d:MD}{k:Nat}(h:canS d (k:Int)=true):∃q,d.ts[k]?=some q∧canT q=true:=by
 cases hq:d.ts[k]? with
 |none=>
  unfold canS at h
  rw[Int.toNat_natCast,hq]at h
  simp at h
 |some q=>exact⟨q,rfl,by rw[canS_at hq]at h;exact h⟩
theorem delF_at{d:MD}{k:Nat}{q:ThD}(h:canS d (k:Int)=true)(hq:d.ts[k]?=some q):(delF d (k:Int)).ts=d.ts.set k (delT q):=by
 unfold delF
 rw[if_pos h,Int.toNat_natCast,hq]
theorem delF_no{d:MD}{t:Int}(h:canS d t=false):delF d t=d:=by
 unfold delF
 rw[h]
 rfl
theorem MO.val_sm [HB]{y:MO}{p:PV}{B:Int}(h:y.d.val p.ss B)(hp:p.val):y.mv.d.sm:=by rw[MO.mv_d];exact h.sm hp.sz
theorem others_c(A:Option Addr)(n cc:Nat)(xs:List Int)(tt:Int)(w0:World)(hI:IsInts .i64 w0 A n cc xs):
  Ret Tryz.prog 5 [.slice A n cc,.int .i64 tt] w0 (fun v w'=>v= .bool true∧Pu w0 w'):=by
 obtain⟨hl,hnc,hc63,hrx,hwx⟩:=hI
 have hn63:n≤9223372036854775807:=by omega
 obtain⟨k,hk,hk4⟩:∃k:Nat,modF tt 4=(k:Int)∧k<4:=⟨(modF tt 4).toNat,by have:=modF_bd tt (m:=4) (by omega);omega,by have:=modF_bd tt (m:=4) (by omega);omega⟩
 have m1:=fun w=>mod_c tt 4 w (by omega) (by omega)
 rw[hk]at m1
 refine enterR Tryz.func5 rfl rfl rfl fun a hs hm=>?_
 refine gsce98_ ?_;clear hs hm a;intros;rename_i a hm hs
 refine st hs rfl rfl rfl (d_call hs rfl rfl rfl (pl 9 rfl) ((mk_c A n cc _))) ?_;clear hs a;rintro _ w1 ⟨gd,rfl,hN,hf⟩ a hs
 have hD:=Dk.start hl (hm.fr.rd' hrx) hn63 hN hf
 replace hm:=hm.gain hf hN
 clear hN hf
 simp only[List.cons_append,List.nil_append]at hm
 refine gsce98_ ?_;clear hs hm a;intros;rename_i a hm hs
 refine st hs rfl rfl rfl (d_call hs rfl rfl rfl (pl 8 rfl) ((handling_c gd A n cc 0 xs _ hD))) ?_;clear hs a;rintro _ w2 ⟨hb,p,y,a1,rfl,hhb,hpv,hp,yo,yv,hk1⟩ a hs
 have hk2:=hk1.perm (M':=y.hps++[dk gd A n cc a1]) List.perm_append_comm
 replace hm:=(hm.deck (R:=y.hps) hk2 rfl rep_).perm List.perm_append_comm
 clear hk1 hk2 hD hp
 simp only[List.cons_append,List.nil_append]at hm
 have h4:y.ts.length=4:=by have:=yv.t;rwa[MO.d_len]at this
 obtain⟨gt,hgt⟩:=yo.t.some_ (by omega)
 have ysm:=MO.val_sm yv hpv
 have hyv2:y.v= .agg #[slv y.bA y.bs.length y.bc,.int .u16 y.key,slv y.m.cA y.m.xs.length y.m.cc,slv y.m.lA y.m.ls.length y.m.lc,slv (some gt) 4 y.tc]:=by unfold MO.v;rw[hgt,h4]
 unfold PV.v at hs
 rw[hyv2]at hs
 repeat(first|(refine gpSiq0_ ?_;clear hs hm a;intros;rename_i a hm hs)|refine sc_ ?_|((with_reducible apply lCons);first|(refine dvc hs hm gw_ rfl rfl rfl rfl rfl (pl 10 rfl) (m1 _) ?_;clear hs hm a;intro w hm a hs)))
 have kdl:=pdel_c y.mv (k:Int) _ (MO.mv_ok hm (fun z hz=>by simp only[List.mem_cons];simp[hz]) yo) ysm
 rw[MO.mv_v,MO.mv_d,hyv2]at kdl
 refine st hs rfl rfl rfl (d_call hs rfl rfl rfl (pl 11 rfl) ((kdl))) ?_;clear hs a;rintro _ w3 ⟨z,rfl,zo,zd,hN,hf⟩ a hs
 replace hm:=gainE hm hf hN
 clear hN hf kdl
 simp only[List.cons_append,List.nil_append]at hm
 have hz4:z.ts.length=4:=by rw[←MO.d_len,zd,delF_len,MO.d_len];exact h4
 have zv:z.d.val p.ss 400000:=by rw[zd];exact delF_val _ yv
 obtain⟨gz,hgz⟩:=zo.t.some_ (by omega)
 have hzv2:z.v= .agg #[slv z.bA z.bs.length z.bc,.int .u16 z.key,slv z.m.cA z.m.xs.length z.m.cc,slv z.m.lA z.m.ls.length z.m.lc,slv (some gz) 4 z.tc]:=by unfold MO.v;rw[hgz,hz4]
 rw[hzv2]at hs
 refine gsce98_ ?_;clear hs hm a;intros;rename_i a hm hs
 have kcp:=rcp_c z.mv _ (MO.mv_ok hm (fun x hx=>by simp only[List.mem_cons,List.mem_append];simp[hx]) zo) (MO.val_sm zv hpv)
 rw[MO.mv_v,MO.mv_d,hzv2]at kcp
 refine st hs rfl rfl rfl (d_call hs rfl rfl rfl (pl 19 rfl) ((kcp))) ?_;clear hs a;rintro _ w4 ⟨c,rfl,co,cd,hN,hf⟩ a hs
 replace hm:=gainE hm hf hN
 clear hN hf kcp
 simp only[List.cons_append,List.nil_append,List.append_assoc]at hm
 have hc4:c.ts.length=4:=by rw[←MO.d_len,cd,MO.d_len];exact hz4
 have cv:c.d.val p.ss 400000:=by rw[cd];exact zv
 obtain⟨gc,hgc⟩:=co.t.some_ (by omega)
 have hcv2:c.v= .agg #[slv c.bA c.bs.length c.bc,.int .u16 c.key,slv c.m.cA c.m.xs.length c.m.cc,slv c.m.lA c.m.ls.length c.m.lc,slv (some gc) 4 c.tc]:=by unfold MO.v;rw[hgc,hc4]
 rw[hcv2]at hs
 refine gs730d_ ?_;clear hs hm a;intros;rename_i a hm hs
 with_reducible apply lNilThen
 with_reducible apply wp_seq
 obtain⟨g6,rfl⟩:=hs.pp 6
 obtain⟨g9,rfl⟩:=hs.pp 9
 have hyh:y.hps=⟨some gt,52,y.tcs⟩::(⟨y.bA,3,y.bcs⟩::(y.m.hps++y.ts.map ThO.hp)):=by unfold MO.hps;rw[hgt]
 have hch:c.hps=⟨some gc,52,c.tcs⟩::(⟨c.bA,3,c.bcs⟩::(c.m.hps++c.ts.map ThO.hp)):=by unfold MO.hps;rw[hgc]
 rw[hyh,hch]at hm
 replace hm:=(hm.sub (M':=⟨some g9,32,(c.cl [slv (some gc) 4 c.tc])⟩::⟨some g6,32,(y.cl [slv (some gt) 4 y.tc])⟩::((⟨some gt,52,y.tcs⟩::(⟨y.bA,3,y.bcs⟩::(y.m.hps++y.ts.map ThO.hp)))++(⟨some gc,52,c.tcs⟩::(⟨c.bA,3,c.bcs⟩::(c.m.hps++c.ts.map ThO.hp))))) (List.Sublist.cons_cons _ (List.Sublist.cons _ (List.Sublist.cons_cons _ (List.Sublist.cons _ (List.Sublist.cons _ (List.Sublist.append (List.Sublist.refl _) (List.sublist_append_right _ _)))))))).perm (M':=(⟨some g9,32,(c.cl [slv (some gc) 4 c.tc])⟩::⟨some g6,32,(y.cl [slv (some gt) 4 y.tc])⟩::⟨some gc,52,c.tcs⟩::⟨some gt,52,y.tcs⟩::((⟨y.bA,3,y.bcs⟩::(y.m.hps++y.ts.map ThO.hp))++(⟨c.bA,3,c.bcs⟩::(c.m.hps++c.ts.map ThO.hp))))) (List.Perm.cons _ (List.Perm.cons _ (List.perm_middle (l₁:=⟨some gt,52,y.tcs⟩::(⟨y.bA,3,y.bcs⟩::(y.m.hps++y.ts.map ThO.hp)))).symm))
 refine cMid (fun a w=>∃(tcs:List Value)(ts:List ThO),(c.setQ tcs ts).ok∧(c.setQ tcs ts).d=y.d∧ts.map ThO.hp=c.ts.map ThO.hp∧ts.length=4∧Sl Tryz.f5.ntmps [(1,.int .i64 (k:Int)),(6,pt g6),(9,pt g9),(8,.bool (canS y.d (k:Int)))] a∧Mm (fun _=>False) w0 (⟨some g9,32,(c.cl [slv (some gc) 4 c.tc])⟩::⟨some g6,32,(y.cl [slv (some gt) 4 y.tc])⟩::⟨some gc,52,tcs⟩::⟨some gt,52,y.tcs⟩::((⟨y.bA,3,y.bcs⟩::(y.m.hps++y.ts.map ThO.hp))++(⟨c.bA,3,c.bcs⟩::(c.m.hps++c.ts.map ThO.hp)))) w) ?_ ?_
 ·cases hcn:canS y.d (k:Int)
  ·rw[hcn]at hs
   refine gsce98_ ?_;clear hs hm a;intros;rename_i a hm hs
   exact And.intro rfl ⟨c.tcs,c.ts,co,by show c.d=_;rw[cd,zd,delF_no hcn],rfl,hc4,(sb_ hs),hm⟩
  ·rw[hcn]at hs
   obtain⟨q,hq,hqc⟩:=canS_T hcn
   have hqy:y.ts[k]?.map ThO.d=some q:=by rw[←hq];unfold MO.d;dsimp only;rw[List.getElem?_map]
   obtain⟨qy,hqy1,hqy2⟩:=Option.map_eq_some_iff.1 hqy
   have hky:k<y.ts.length:=by omega
   have hpc:y.tcs[k*8+2]?=some (.int .i64 q.pc):=yo.t.get (by
    rw[flat_get ThO.v 8 ThO.len y.ts k 2 hky (by omega)]
    rw[List.getElem?_eq_getElem hky]at hqy1
    rw[Option.some.inj hqy1,←hqy2]
    rfl)
   have hct:c.ts.map ThO.d=y.d.ts.set k (delT q):=by
    have h1:c.d.ts=(delF y.d (k:Int)).ts:=by rw[cd,zd]
    rw[delF_at hcn hq]at h1
    exact h1
   have hkc:k<c.ts.length:=by omega
   obtain⟨r,hr⟩:∃r,c.ts[k]?=some r:=⟨_,List.getElem?_eq_getElem hkc⟩
   have hrd:r.d=delT q:=by
    have h1:(c.ts.map ThO.d)[k]?=(y.d.ts.set k (delT q))[k]?:=by rw[hct]
    rw[List.getElem?_map,hr,List.getElem?_set_self (by rw[MO.d_len];exact hky)]at h1
    exact Option.some.inj h1
   have hqv:=yv.tt q (List.mem_of_getElem? hq)
   have hrv:=cv.tt r.d (List.mem_map.2 ⟨r,List.mem_of_getElem? hr,rfl⟩)
   obtain⟨s1,s2,s3,s4⟩:=MO.setQ_ok (y:=c) (j:=2) (v:= .int .i64 q.pc) (d':={r.d with pc:=q.pc}) (tcs:=c.tcs) (ts:=c.ts) co cv rfl hc4 hr (by omega) rfl ⟨hrv.st,hrv.n,hqv.pc,hrv.cnt,hrv.han,hrv.sav,hrv.trp,hrv.cod,hrv.cv⟩
   obtain⟨t1,t2,t3,t4⟩:=MO.setQ_ok (y:=c) (j:=5) (v:= .int .i64 (-1)) (d':={r.d with pc:=q.pc,sav:=-1}) s1 s2 s3 s4 (List.getElem?_set_self hkc) (by omega) rfl ⟨hrv.st,hrv.n,hqv.pc,hrv.cnt,hrv.han,by dsimp only;omega,hrv.trp,hrv.cod,hrv.cv⟩
   have hcl:c.tcs.length=c.tc*8:=co.t.len
   have hcle:=co.t.le
   have hk2:k*8+2<c.tcs.length:=by omega
   have hk5:k*8+5<(c.tcs.set (k*8+2) (.int .i64 q.pc)).length:=by rw[List.length_set];omega
   have hfin:(c.setQ ((c.tcs.set (k*8+2) (.int .i64 q.pc)).set (k*8+5) (.int .i64 (-1))) ((c.ts.set k {r with d:={r.d with pc:=q.pc}}).set k {r with d:={r.d with pc:=q.pc,sav:=-1}})).d=y.d:=by
    have hsv:q.sav=-1:=by unfold canT at hqc;simp only[Bool.and_eq_true,decide_eq_true_eq]at hqc;exact hqc.2.2
    have hqq:({r.d with pc:=q.pc,sav:=-1}:ThD)=q:=by
     rw[hrd]
     unfold delT
     obtain⟨u1,u2,u3,u4,u5,u6,u7,u8⟩:=q
     dsimp only at hsv ⊢
     rw[hsv]
    have hd1:c.d=delF y.d (k:Int):=by rw[cd,zd]
    have hts:(((c.ts.set k {r with d:={r.d with pc:=q.pc}}).set k {r with d:={r.d with pc:=q.pc,sav:=-1}}).map ThO.d)=y.d.ts:=by
     rw[List.set_set,List.map_set,hct]
     show(y.d.ts.set k (delT q)).set k ({r.d with pc:=q.pc,sav:=-1}:ThD)=y.d.ts
     rw[List.set_set,hqq]
     exact set_self hq
    have h2:(delF y.d (k:Int)).bs=y.d.bs∧(delF y.d (k:Int)).key=y.d.key∧(delF y.d (k:Int)).xs=y.d.xs∧(delF y.d (k:Int)).ls=y.d.ls:=by
     unfold delF
     split<;>exact⟨rfl,rfl,rfl,rfl⟩
    have hgen:∀(T:List Value)(TS:List ThO),TS.map ThO.d=y.d.ts→(c.setQ T TS).d=y.d:=fun T TS h=>by
     have e:(c.setQ T TS).d=⟨c.d.bs,c.d.key,c.d.xs,c.d.ls,TS.map ThO.d⟩:=rfl
     rw[e,h,hd1,h2.1,h2.2.1,h2.2.2.1,h2.2.2.2]
    exact hgen _ _ hts
   refine gsce98_ ?_;clear hs hm a;intros;rename_i a hm hs
   refine cMid (fun a w=>Sl Tryz.f5.ntmps [(1,.int .i64 (k:Int)),(6,pt g6),(9,pt g9),(8,.bool true)] a∧Mm (fun _=>False) w0 (⟨some g9,32,(c.cl [slv (some gc) 4 c.tc])⟩::⟨some g6,32,(y.cl [slv (some gt) 4 y.tc])⟩::⟨some gc,52,((c.tcs.set (k*8+2) (.int .i64 q.pc)).set (k*8+5) (.int .i64 (-1)))⟩::⟨some gt,52,y.tcs⟩::((⟨y.bA,3,y.bcs⟩::(y.m.hps++y.ts.map ThO.hp))++(⟨c.bA,3,c.bcs⟩::(c.m.hps++c.ts.map ThO.hp)))) w) ?_ ?_
   ·with_reducible repeat(first|apply gThen|apply wp_seq)
    refine cDrawT (n:=18) (.s [0,1,2,3,4,5,6,7,8,9,10,11,12,13]<| .o 14<| .s [15,16]<| .o 17<| .d) [⟨some g9,32,(c.cl [slv (some gc) 4 c.tc])⟩,⟨some g6,32,(y.cl [slv (some gt) 4 y.tc])⟩,⟨some gt,52,y.tcs⟩] hm rfl rfl ?_
    clear hm;intro t_ w1_ hm
    repeat' (first|(refine dgSiq1_ ?_;clear t_ hs hm a;intros;rename_i a hm hs t_)|refine tE t_ ?_|refine tC ?_ ?_|exact tN|intro t_|(refine tD t_ ?_;(exact And.intro rfl ⟨(sb_ hs),hm⟩))|fail)
   clear hs hm a
   rintro a w ⟨hs,hm⟩
   refine gsce98_ ?_;clear hs hm a;intros;rename_i a hm hs
   exact And.intro rfl ⟨_,_,t1,hfin,t3,t4,(sb_ hs),hm⟩
 clear hs hm a
 rintro a w ⟨tcs,ts,so,sd,sh,sl,hs,hm⟩
 have hok1:∀(w:World)(M':List Hp),Mm (fun _=>False) w0 M' w→(∀h∈(⟨some g9,32,(c.cl [slv (some gc) 4 c.tc])⟩::⟨some g6,32,(y.cl [slv (some gt) 4 y.tc])⟩::⟨some gc,52,tcs⟩::⟨some gt,52,y.tcs⟩::((⟨y.bA,3,y.bcs⟩::(y.m.hps++y.ts.map ThO.hp))++(⟨c.bA,3,c.bcs⟩::(c.m.hps++c.ts.map ThO.hp)))),h∈M')→(c.setQ tcs ts).mv.ok w∧y.mv.ok w:=fun w M' hm hM=>⟨MO.mv_ok hm (fun h hh=>hM h (by
  unfold MO.hps MO.setQ at hh
  dsimp only at hh
  rw[sh,hgc]at hh
  simp only[List.mem_cons,List.mem_append]at hh ⊢
  rcases hh with hh|hh|hh|hh<;>simp[hh])) so,MO.mv_ok hm (fun h hh=>hM h (by
  rw[hyh]at hh
  simp only[List.mem_cons,List.mem_append]at hh ⊢
  rcases hh with hh|hh|hh|hh<;>simp[hh])) yo⟩
 have hsv2:(c.setQ tcs ts).v= .agg #[slv c.bA c.bs.length c.bc,.int .u16 c.key,slv c.m.cA c.m.xs.length c.m.cc,slv c.m.lA c.m.ls.length c.m.lc,slv (some gc) 4 c.tc]:=by unfold MO.v MO.setQ;dsimp only;rw[hgc,sl]
 have kcn:∀w,y.mv.ok w→_:=fun w h=>pcan_c y.mv (k:Int) w h ysm
 have ksm:∀w,(c.setQ tcs ts).mv.ok w→y.mv.ok w→_:=fun w h1 h2=>rsm_c (c.setQ tcs ts).mv y.mv w h1 h2 (by rw[MO.mv_d,MO.mv_d,sd]) (by rw[MO.mv_d,sd,←MO.mv_d];exact ysm)
 rw[MO.mv_v,MO.mv_d,hyv2]at kcn
 simp only[MO.mv_v,hyv2,hsv2]at ksm
 cases hcn:canS y.d (k:Int)
 ·rw[hcn]at hs kcn
  refine gcSiq2_ ?_;clear hs hm a;intros;rename_i a hm hs
  exact gRet1 hs rfl rfl ⟨rfl,hm.fr⟩
 ·rw[hcn]at hs kcn
  refine gcSiq2_ ?_;clear hs hm a;intros;rename_i a hm hs
  exact gRet1 hs rfl rfl ⟨rfl,hm.fr⟩
theorem walk_SignalOthers(A:Option Addr)(n c:Nat)(xs:List Int)(tt:Int)(w:World)(h:IsInts .i64 w A n c xs)(_h0:(Lit.int .i64 tt).wf=true):Calls Tryz.prog 5 #[.slice A n c,.int .i64 tt] w (fun e w'=>e= .returned (.bool true)∧Pu w w'):=
 (others_c A n c xs tt w h).law
end Go.Proofs.YtbjffoojenpmfaaGreat
namespace Go.Proofs.YtbjffoojenpmfaaGreat
open Go.ChangeShapes Go.WideShapes Go.ChangeAt Go.RowKit
section
variable {H:Type} {enc:TypeId × Value→H} {P:Program} {W:World} {base b0:Nat} {spare:Nat→Bool} {held:Bool}
end
end Go.Proofs.YtbjffoojenpmfaaGreat
