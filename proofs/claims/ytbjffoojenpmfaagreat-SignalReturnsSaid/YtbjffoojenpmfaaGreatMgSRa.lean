/- Texts put together: Lib, Tac4, Sis, Sip, Sit, Flat. -/
import Derived.WalkKit
import Derived.WalkSpells
import Derived.WalkLawsBesides
import Derived.Deep.QuietTactic
import Derived.BigQuiet
import Derived.Lib.Hide
import Derived.Laws.OwnMore
import Derived.Deep.Draws
import Derived.Maps.AppendAt
import Derived.Deep.DeepFit
import Derived.Test.YtbjffoojenpmfaaGreatMgSOr
set_option maxRecDepth 20000
set_option maxHeartbeats 64000000
set_option linter.unusedVariables false
set_option linter.unusedSimpArgs false
namespace Go.Proofs.YtbjffoojenpmfaaGreat
open Go.RowKit
theorem block_add(a:Addr)(n:Nat):(a.add n).block=a.block:=by unfold Addr.add;split<;>rfl
theorem add_add(a:Addr)(i j:Nat):(a.add i).add j=a.add (i+j):=by
 unfold Addr.add
 by_cases hi:i=0<;>by_cases hj:j=0<;>simp[hi,hj,Nat.add_assoc]
section
variable {w w':World} {B B':Nat} {A:Option Addr} {xs:List Value}
end
section
variable {w w':World} {g:Nat} {t:TypeId} {cs:Array Value}
end
section
variable {P:Program} {f:FuncId} {args:Array Value} {w:World} {n a:Nat} {v:Value}
end
section
variable {S T:Nat→Prop} {w w' w'':World}
end
section
variable {bs:List (Nat × TypeId × Array Value)} {w w':World}
end
theorem z2bca_{G:Prop}(h:G:=by exact gRet1 hs rfl rfl ⟨false,rfl,(fun h=>by cases h),hm.fr⟩):G:=h
theorem gpSip0_{G H:Prop}(k:H)(s:Bx H→G:=by intro k_;(repeat(first|(refine ovR_ ?_;(try clear hs a);intro a hs)|((with_reducible apply lCons);first|(refine dv hs gw_ rfl rfl da_ ?_;(try clear hs hm a);rintro _ w_ ⟨g_,rfl,-,hm⟩ a hs)|(refine stn hs rfl rfl ds_ ?_;(try clear hs hm a);rintro-w_ hm a hs))|refine sc_ ?_));have m_:=hm;have s_:=hs;clear hs;(try clear hm);revert m_ s_ a;(try revert w_);(repeat revert g_);exact k_.h):G:=s ⟨k⟩
structure MV.fits(x:MV):Prop where
 b:x.bs.length≤140737488355328
 c:x.xs.length≤140737488355328
 l:x.ls.length≤140737488355328
 t:x.ts.length≤140737488355328
 ll:∀y∈x.ls,y.d.xs.length≤140737488355328
 tt:∀y∈x.ts,y.d.xs.length≤140737488355328
theorem light_c(x:MV)(wB:World)(hx:x.ok wB)(hf:x.fits):Ret Tryz.prog 6 [x.v] wB (fun u w'=>∃b:Bool,u= .bool b∧(b=true→x.d.sm)∧Pu wB w'):=by
 have f3:=hf.l
 have f4:=hf.t
 have f5:=hf.ll
 have f6:=hf.tt
 have f1:=hf.b
 have f2:=hf.c
 unfold MV.v
 refine enterR Tryz.func6 rfl rfl rfl fun a hs hm=>?_
 refine gsce98_ ?_;clear hs hm a;intros;rename_i a hm hs
 obtain⟨g1,rfl⟩:=hs.pp 1
 refine cLoop (X:=Nat) (fun k a w'=>k≤x.ts.length∧(∀j (h:j<x.ts.length),j<k→(x.ts[j]).d.xs.length≤20)∧Sl Tryz.f6.ntmps [(1,.pointer (some ⟨g1,0,none⟩)),(8,.slice x.tA x.ts.length x.tc),(9,.int .i64 (x.ts.length:Int)),(10,.int .i64 (k:Int))] a∧Mm (fun _=>False) wB [⟨some g1,32,[.slice x.bA x.bs.length x.bc,.int .u16 x.key,.slice x.cA x.xs.length x.cc,.slice x.lA x.ls.length x.lc,.slice x.tA x.ts.length x.tc]⟩] w') (fun k=>x.ts.length-k) 0 ⟨Nat.zero_le _,(fun j _ h=>absurd h (Nat.not_lt_zero j)),(sb_ hs),hm⟩ ?_
 clear hs hm a
 rintro k a w' ⟨hk,ht,hs,hm⟩
 by_cases hlt:k<x.ts.length
 ·obtain⟨b1,o1,hA,hb1,r1⟩:=hx.t.ro (by rw[flat_len ThV.v 8 ThV.len];omega)
  have r2:=r1.flat ThV.len hlt
  have f7:=f6 _ (List.getElem_mem hlt)
  have ht2:(x.ts[k]).d.xs.length≤20→∀j (h:j<x.ts.length),j<k+1→(x.ts[j]).d.xs.length≤20:=fun hq j h hj=>by
   rcases Nat.lt_or_ge j k with h1|h1
   ·exact ht j h h1
   ·obtain rfl:j=k:=by omega
    exact hq
  generalize x.ts[k]=q at r2 f7 ht2
  unfold ThV.v at r2
  rw[hA]at hs hm
  clear r1
  by_cases h20:q.d.xs.length≤20
  ·refine gsce98_ ?_;clear hs hm a;intros;rename_i a hm hs
   rw[←hA]at hs hm
   exact⟨k+1,by omega,by omega,ht2 h20,(sb_ hs),hm.sub sub_⟩
  ·refine gsce98_ ?_;clear hs hm a;intros;rename_i a hm hs
   exact z2bca_
 obtain rfl:k=x.ts.length:=by omega
 refine gsce98_ ?_;clear hs hm a;intros;rename_i a hm hs
 refine cLoop (X:=Nat) (fun k a w'=>k≤x.ls.length∧(∀j (h:j<x.ls.length),j<k→(x.ls[j]).d.xs.length≤20)∧Sl Tryz.f6.ntmps [(1,.pointer (some ⟨g1,0,none⟩)),(21,.slice x.lA x.ls.length x.lc),(22,.int .i64 (x.ls.length:Int)),(23,.int .i64 (k:Int))] a∧Mm (fun _=>False) wB [⟨some g1,32,[.slice x.bA x.bs.length x.bc,.int .u16 x.key,.slice x.cA x.xs.length x.cc,.slice x.lA x.ls.length x.lc,.slice x.tA x.ts.length x.tc]⟩] w') (fun k=>x.ls.length-k) 0 ⟨Nat.zero_le _,(fun j _ h=>absurd h (Nat.not_lt_zero j)),(sb_ hs),hm⟩ ?_
 clear hs hm a
 rintro k a w' ⟨hk,hl,hs,hm⟩
 by_cases hlt:k<x.ls.length
 ·obtain⟨b1,o1,hA,hb1,r1⟩:=hx.l.ro (by rw[flat_len LnV.v 3 LnV.len];omega)
  have r2:=r1.flat LnV.len hlt
  have f7:=f5 _ (List.getElem_mem hlt)
  have hl2:(x.ls[k]).d.xs.length≤20→∀j (h:j<x.ls.length),j<k+1→(x.ls[j]).d.xs.length≤20:=fun hq j h hj=>by
   rcases Nat.lt_or_ge j k with h1|h1
   ·exact hl j h h1
   ·obtain rfl:j=k:=by omega
    exact hq
  generalize x.ls[k]=q at r2 f7 hl2
  unfold LnV.v at r2
  rw[hA]at hs hm
  clear r1
  by_cases h20:q.d.xs.length≤20
  ·refine gsce98_ ?_;clear hs hm a;intros;rename_i a hm hs
   rw[←hA]at hs hm
   exact⟨k+1,by omega,by omega,hl2 h20,(sb_ hs),hm.sub sub_⟩
  ·refine gsce98_ ?_;clear hs hm a;intros;rename_i a hm hs
   exact z2bca_
 obtain rfl:k=x.ls.length:=by omega
 by_cases e1:x.xs.length≤600
 ·by_cases e2:x.ls.length≤20
  ·by_cases e3:x.ts.length≤20
   ·by_cases e4:x.bs.length≤20
    ·refine gsce98_ ?_;clear hs hm a;intros;rename_i a hm hs
     refine gRet1 hs rfl rfl ⟨true,rfl,(fun _=>⟨?_,?_,?_,?_,fun y hy=>?_,fun y hy=>?_⟩),hm.fr⟩
     ·show x.bs.length≤1000;omega
     ·show x.xs.length≤1000;omega
     ·show(x.ls.map LnV.d).length≤1000;rw[List.length_map];omega
     ·show(x.ts.map ThV.d).length≤1000;rw[List.length_map];omega
     ·have hy':y∈x.ls.map LnV.d:=hy
      obtain⟨z,hz,rfl⟩:=List.mem_map.1 hy'
      obtain⟨j,hj,rfl⟩:=List.getElem_of_mem hz
      have:=hl j hj hj
      omega
     ·have hy':y∈x.ts.map ThV.d:=hy
      obtain⟨z,hz,rfl⟩:=List.mem_map.1 hy'
      obtain⟨j,hj,rfl⟩:=List.getElem_of_mem hz
      have:=ht j hj hj
      omega
    ·refine gsce98_ ?_;clear hs hm a;intros;rename_i a hm hs
     exact z2bca_
   ·refine gsce98_ ?_;clear hs hm a;intros;rename_i a hm hs
    exact z2bca_
  ·refine gsce98_ ?_;clear hs hm a;intros;rename_i a hm hs
   exact z2bca_
 ·refine gsce98_ ?_;clear hs hm a;intros;rename_i a hm hs
  exact z2bca_
def th5:ThD:=⟨1,[],5,0,-1,-1,0,0⟩
def th9:ThD:=⟨1,[],5,0,9,-1,0,0⟩
def awM(g:Nat):MV:=⟨none,0,[],0,none,0,[],none,0,[],some ⟨g,0,none⟩,2,[⟨none,0,th5⟩,⟨none,0,th9⟩]⟩
theorem awM_sm(g:Nat):(awM g).d.sm:=⟨Nat.zero_le _,Nat.zero_le _,Nat.zero_le _,(by show 2≤1000;omega),(fun y hy=>by cases hy),fun y hy=>by
 have hy':y∈ [th5,th9]:=hy
 simp only[List.mem_cons,List.not_mem_nil,or_false]at hy'
 rcases hy' with rfl|rfl
 ·exact Nat.zero_le _
 ·exact Nat.zero_le _⟩
theorem awk16_c(wB:World):Ret Tryz.prog 7 [] wB (fun u w'=>u= .bool true∧Pu wB w'):=by
 refine enterR Tryz.func7 rfl rfl rfl fun a hs hm=>?_
 refine gsce98_ ?_;clear hs hm a;intros;rename_i a hm hs
 obtain⟨g6,rfl⟩:=hs.qq 6
 obtain⟨g1,rfl⟩:=hs.pp 1
 have haw:∀(w:World)(M':List Hp),Mm (fun _=>False) wB M' w→(⟨some g6,52,[.int .i64 1,.slice none 0 0,.int .i64 5,.int .i64 0,.int .i64 (-1),.int .i64 (-1),.int .i64 0,.int .u16 0,.int .i64 1,.slice none 0 0,.int .i64 5,.int .i64 0,.int .i64 9,.int .i64 (-1),.int .i64 0,.int .u16 0]⟩:Hp)∈M'→(awM g6).ok w:=fun w M' hm hM=>⟨(fun h=>by cases h),(fun h=>by cases h),(fun h=>by cases h),hm.rd hM (List.prefix_refl _),(fun y hy=>by cases hy),fun y hy=>by
  simp only[awM,List.mem_cons,List.not_mem_nil,or_false]at hy
  rcases hy with rfl|rfl
  ·exact fun h=>by cases h
  ·exact fun h=>by cases h⟩
 have hok:=haw _ _ hm mem_
 have kdl:=pdel_c (awM g6) 1 _ hok (awM_sm g6)
 refine st hs rfl rfl rfl (d_call hs rfl rfl rfl (pl 11 rfl) ((kdl))) ?_;clear hs a;rintro _ w2 ⟨y,rfl,yo,yd,hN,hf⟩ a hs
 clear hok
 replace hm:=gainE hm hf hN
 clear hN hf kdl
 simp only[List.cons_append,List.nil_append]at hm
 have e1:(delF (awM g6).d 1).ts=[th5,delT th9]:=by rfl
 have e2:y.ts.map ThO.d=[th5,delT th9]:=by rw[←e1,←yd];rfl
 have hl2:y.ts.length=2:=by have:=congrArg List.length e2;rwa[List.length_map]at this
 have hdp:depF y.d.ts=1:=by rw[show y.d.ts=[th5,delT th9]from e2];rfl
 obtain⟨gt,hgt⟩:=yo.t.some_ (by omega)
 have hk1:1<y.ts.length:=by omega
 have hq1:(y.ts[1]).d=delT th9:=by
  have:(y.ts.map ThO.d)[1]?=([th5,delT th9])[1]?:=congrArg (fun l=>l[1]?) e2
  rw[List.getElem?_map,List.getElem?_eq_getElem hk1]at this
  exact Option.some.inj this
 have c2:y.tcs[10]?=some (.int .i64 9):=by
  have:=yo.t.get (j:=1*8+2) (u:= .int .i64 (y.ts[1]).d.pc) (by rw[flat_get ThO.v 8 ThO.len y.ts 1 2 hk1 (by omega)];rfl)
  rw[hq1]at this
  exact this
 have c5:y.tcs[13]?=some (.int .i64 5):=by
  have:=yo.t.get (j:=1*8+5) (u:= .int .i64 (y.ts[1]).d.sav) (by rw[flat_get ThO.v 8 ThO.len y.ts 1 5 hk1 (by omega)];rfl)
  rw[hq1]at this
  exact this
 have hysm:y.mv.d.sm:=by
  rw[MO.mv_d]
  have h1:y.d=delF (awM g6).d 1:=yd
  rw[h1]
  refine⟨Nat.zero_le _,Nat.zero_le _,Nat.zero_le _,(by show 2≤1000;omega),(fun z hz=>by cases hz),fun z hz=>?_⟩
  rw[e1]at hz
  simp only[List.mem_cons,List.not_mem_nil,or_false]at hz
  rcases hz with rfl|rfl
  ·exact Nat.zero_le _
  ·exact Nat.zero_le _
 have hmv:∀w M',Mm (fun _=>False) wB M' w→(∀h∈y.hps,h∈M')→y.mv.ok w:=fun w M' hm h=>MO.mv_ok hm h yo
 have kc0:=fun(w:World) (M':List Hp) (hm:Mm (fun _=>False) wB M' w) (hM:(⟨some g6,52,[.int .i64 1,.slice none 0 0,.int .i64 5,.int .i64 0,.int .i64 (-1),.int .i64 (-1),.int .i64 0,.int .u16 0,.int .i64 1,.slice none 0 0,.int .i64 5,.int .i64 0,.int .i64 9,.int .i64 (-1),.int .i64 0,.int .u16 0]⟩:Hp)∈M')=>pcan_c (awM g6) 0 w (haw w M' hm hM) (awM_sm g6)
 have kc1:=fun(w:World) (M':List Hp) (hm:Mm (fun _=>False) wB M' w) (hM:(⟨some g6,52,[.int .i64 1,.slice none 0 0,.int .i64 5,.int .i64 0,.int .i64 (-1),.int .i64 (-1),.int .i64 0,.int .u16 0,.int .i64 1,.slice none 0 0,.int .i64 5,.int .i64 0,.int .i64 9,.int .i64 (-1),.int .i64 0,.int .u16 0]⟩:Hp)∈M')=>pcan_c (awM g6) 1 w (haw w M' hm hM) (awM_sm g6)
 rw[show canS (awM g6).d 0=false by rfl]at kc0
 rw[show canS (awM g6).d 1=true by rfl]at kc1
 have kd:∀(w:World),y.mv.ok w→Ret Tryz.prog 16 [.agg #[slv y.bA y.bs.length y.bc,.int .u16 y.key,slv y.m.cA y.m.xs.length y.m.cc,slv y.m.lA y.m.ls.length y.m.lc,slv (some gt) 2 y.tc]] w (fun u w'=>u= .int .i64 1∧Pu w w'):=fun w h=>by
  have h1:=pdep_c y.mv w h hysm
  rw[MO.mv_v,MO.mv_d,hdp]at h1
  unfold MO.v at h1
  rw[hgt,hl2]at h1
  exact h1
 unfold MO.v at hs
 rw[hgt,hl2]at hs
 unfold MO.hps at hm
 rw[hgt]at hm
 have hmh:∀(w:World)(M':List Hp),Mm (fun _=>False) wB M' w→(∀h∈⟨some gt,52,y.tcs⟩::⟨y.bA,3,y.bcs⟩::(y.m.hps++y.ts.map ThO.hp),h∈M')→y.mv.ok w:=fun w M' hm h=>hmv w M' hm (by
  unfold MO.hps
  rw[hgt]
  exact h)
 repeat(first|(refine gpSip0_ ?_;clear hs hm a;intros;rename_i a hm hs)|refine sc_ ?_|((with_reducible apply lCons);first|(refine dvc hs hm gw_ rfl rfl rfl rfl rfl (pl 13 rfl) (kc0 _ _ hm mem_) ?_;clear hs hm a;intro w hm a hs)|(refine dvc hs hm gw_ rfl rfl rfl rfl rfl (pl 13 rfl) (kc1 _ _ hm mem_) ?_;clear hs hm a;intro w hm a hs)|(refine dvc hs hm gw_ rfl rfl rfl rfl rfl (pl 16 rfl) (kd _ (hmh _ _ hm (by intro z hz;simp only[List.mem_cons,List.mem_append]at hz ⊢;rcases hz with hz|hz|hz|hz<;>simp[hz]))) ?_;clear hs hm a;intro w hm a hs)))
 exact gRet1 hs rfl rfl ⟨rfl,hm.fr⟩
end Go.Proofs.YtbjffoojenpmfaaGreat
namespace Go.Proofs.YtbjffoojenpmfaaGreat
open Go.ChangeShapes Go.WideShapes Go.ChangeAt Go.RowKit
section
variable {H:Type} {enc:TypeId × Value→H} {P:Program} {W:World} {base b0:Nat} {spare:Nat→Bool} {held:Bool}
theorem flatten_get{s:Nat}(rows:List (List Value))(hs:∀r∈rows,r.length=s)(j:Nat)(u:Value)(h:rows.flatten[j]?=some u):∃(k i:Nat)(hk:k<rows.length),i<s∧j=k*s+i∧rows[k][i]?=some u:=by
 induction rows generalizing j with
 |nil=>simp at h
 |cons r t ih=>
  rw[List.flatten_cons]at h
  have hr:=hs r (by simp)
  by_cases hj:j<s
  ·rw[List.getElem?_append_left (by omega)]at h
   exact⟨0,j,by simp,hj,by omega,by simpa using h⟩
  ·rw[List.getElem?_append_right (by omega)]at h
   obtain⟨k,i,hk,hi,e,hu⟩:=ih (fun r hr=>hs r (by simp[hr])) _ h
   exact⟨k+1,i,by simp;omega,hi,by rw[Nat.succ_mul];omega,by simpa using hu⟩
theorem mapM_get{α β:Type}(f:α→Option β)(l:List α)(r:List β)(h:l.mapM f=some r):r.length=l.length∧∀i (hi:i<l.length),f l[i]=r[i]?:=by
 induction l generalizing r with
 |nil=>simp at h;subst h;exact⟨rfl,fun i hi=>by simp at hi⟩
 |cons a t ih=>
  rw[List.mapM_cons]at h
  cases ha:f a with
  |none=>rw[ha]at h;simp at h
  |some b=>
   rw[ha]at h
   cases ht:t.mapM f with
   |none=>rw[ht]at h;simp at h
   |some r'=>
    rw[ht]at h
    simp at h
    subst h
    obtain⟨h1,h2⟩:=ih r' ht
    exact⟨by simp[h1],fun i hi=>by
     cases i with
     |zero=>simpa using ha
     |succ i=>simpa using h2 i (by simpa using hi)⟩
theorem cells?_get{w:World}{b:Nat}{a:Addr}{n:Nat}{l:List Value}(h:w.cells? b a n=some l):l.length=n∧∀i,i<n→w.cell? (a.add i)=l[i]?:=by
 unfold World.cells? at h
 split at h
 ·obtain⟨h1,h2⟩:=mapM_get _ _ _ h
  simp only[List.length_range]at h1 h2
  exact⟨h1,fun i hi=>by have:=h2 i hi;simpa using this⟩
 ·cases h
end
end Go.Proofs.YtbjffoojenpmfaaGreat
namespace Go.Proofs.YtbjffoojenpmfaaGreat
open Go.RowKit
theorem gpSis0_{G H:Prop}(k:H)(s:Bx H→G:=by intro k_;(repeat(first|(refine ov701a_ ?_;(try clear hs a);intro a hs)|((with_reducible apply lCons);first|(refine dv hs gw_ rfl rfl da_ ?_;(try clear hs hm a);rintro _ w_ ⟨g_,rfl,-,hm⟩ a hs)|(refine stn hs rfl rfl ds_ ?_;(try clear hs hm a);rintro-w_ hm a hs))|refine sc_ ?_));have m_:=hm;have s_:=hs;clear hs;(try clear hm);revert m_ s_ a;(try revert w_);(repeat revert g_);exact k_.h):G:=s ⟨k⟩
theorem gpSis1_{G H:Prop}(k:H)(s:Bx H→G:=by intro k_;(repeat(first|(refine ovR_ ?_;(try clear hs a);intro a hs)|((with_reducible apply lCons);first|(refine dv hs gw_ rfl rfl da_ ?_;(try clear hs hm a);rintro _ w_ ⟨g_,rfl,-,hm⟩ a hs)|(refine stn hs rfl rfl ds_ ?_;(try clear hs hm a);rintro-w_ hm a hs))|refine sc_ ?_));have m_:=hm;have s_:=hs;clear hs;(try clear hm);revert m_ s_ a;(try revert w_);(repeat revert g_);exact k_.h):G:=s ⟨k⟩
def rtiT(q:ThD):ThD:={q with pc:=q.sav,sav:=-1,cnt:=q.cnt+1}
theorem rti_c [HB](p:PV)(N gm:Nat)(y:MO)(B:Int)(t:Nat)(qd:ThD)(wB:World)(hp:p.at wB N)(hpv:p.val)(hN:N≤wB.heap.size)(hM:Mm (own y.hps) wB y.hps wB)(hno:∀b,b<N→¬own y.hps b)(hy:y.ok)(hv:y.d.val p.ss B)(hB:B≤1099511627776)(hh:Ro wB gm 0 y.vs)(hng:¬own y.hps gm)(ht:t<4)(hqt:y.d.ts[t]?=some qd) (hpi:p.code[qd.pc.toNat]?=some ⟨24,0,0,0,0⟩) (hsv:qd.sav≠-1):
  Ret Tryz.prog 28 [p.v,pt gm,.int .i64 (t:Int)] wB (fun u w'=>∃z:MO,u= .int .i64 (-1)∧z.ok∧z.vs=y.vs∧z.d={y.d with ts:=y.d.ts.set t (rtiT qd)}∧Mm (own y.hps) wB z.hps w'):=by
 obtain⟨A0,hA0⟩:∃A0,own y.hps=A0:=⟨_,rfl⟩
 rw[hA0]
 have htl:y.ts.length=4:=by have:=hv.t;unfold MO.d at this;dsimp only at this;rwa[List.length_map]at this
 have htk:t<y.ts.length:=by omega
 obtain⟨q,hq⟩:∃q,y.ts[t]?=some q:=⟨_,List.getElem?_eq_getElem htk⟩
 have hqk:y.ts[t]=q:=(List.getElem?_eq_some_iff.1 hq).2
 have hqd:y.d.ts[t]?=some q.d:=by unfold MO.d;dsimp only;rw[List.getElem?_map,hq];rfl
 have hqv:q.d.val B:=hv.tt q.d (List.mem_map.2 ⟨q,List.mem_of_getElem? hq,rfl⟩)
 have hqo:=hy.tt q (List.mem_of_getElem? hq)
 have hrt:=hy.t
 rw[htl]at hrt
 have hm0:Mm A0 wB (q.hp::((⟨y.tA,52,y.tcs⟩::⟨y.bA,3,y.bcs⟩::y.m.hps)++(y.ts.eraseIdx t).map ThO.hp)) wB:=by
  rw[←hA0]
  exact Mm.frontG ThO.hp (L:=⟨y.tA,52,y.tcs⟩::⟨y.bA,3,y.bcs⟩::y.m.hps) hM hq
 obtain⟨gt,hgt⟩:=hrt.some_ (by omega)
 rw[hgt]at hrt hm0
 have hcl:=hrt.len
 have hle:=hrt.le
 have hget:∀j,j<8→(y.ts.flatMap ThO.v)[t*8+j]?=(ThO.v q)[j]?:=fun j hj=>by rw[flat_get ThO.v 8 ThO.len y.ts t j htk hj,hqk]
 have e1:y.tcs[t*8+1]?=some (slv q.A q.d.xs.length q.c):=hrt.get (by rw[hget 1 (by omega)];rfl)
 have e2:y.tcs[t*8+2]?=some (.int .i64 q.d.pc):=hrt.get (by rw[hget 2 (by omega)];rfl)
 have e5:y.tcs[t*8+5]?=some (.int .i64 q.d.sav):=hrt.get (by rw[hget 5 (by omega)];rfl)
 have hqr:Row q.A q.d.xs.length q.c 2 (cvs q.d.xs) q.cs:=hqo
 rw[hqv.n]at hqr e1
 obtain⟨gq,hgq⟩:=hqr.some_ (by omega)
 rw[hgq]at hqr e1
 obtain⟨R,hR⟩:∃R,(y.ts.eraseIdx t).map ThO.hp=R:=⟨_,rfl⟩
 replace hm0:Mm A0 wB (⟨some gq,103,q.cs⟩::⟨some gt,52,y.tcs⟩::⟨y.bA,3,y.bcs⟩::(y.m.hps++R)) wB:=by
  rw[←hR,←hgq]
  exact hm0
 have hh1:Ro wB gm 0 (y.cl [slv (some gt) 4 y.tc]):=by rw[←hgt,←htl];exact hh
 obtain⟨W,hW⟩:∃W,y.m.hps++R=W:=⟨_,rfl⟩
 rw[hW]at hm0
 have hnA:∀b,b<N→¬A0 b:=hA0▸hno
 have hngA:¬A0 gm:=hA0▸hng
 have hc1:=hpv.c1
 have hc2:=hpv.c2
 obtain⟨bc,oc,hcA,hbc,rc⟩:=hp.c.ro (by rw[flat_len inV 5 inV_len];omega)
 have hnc:=hnA bc hbc
 obtain⟨pc,hpc⟩:∃pc:Nat,q.d.pc=(pc:Int):=⟨q.d.pc.toNat,by have:=hqv.pc;omega⟩
 rw[hpc]at e2
 have hmv:y.m.val:=⟨hv.n,by have:=hv.l;unfold MO.d at this;dsimp only at this;rwa[List.length_map]at this,hv.cv,fun i hi=>by
  have:=hv.ll i (by unfold MO.d;dsimp only;rw[List.length_map];exact hi)
  unfold MO.d at this
  dsimp only at this
  rwa[List.getElem_map]at this⟩
 have hqi:ThI q.d q.d:=⟨rfl,rfl,rfl,rfl,rfl,rfl,hqv.n,hqv.cv,hqv.sav⟩
 have hrow:Row (some gt) 4 y.tc 8 ((y.ts.set t q).flatMap ThO.v) y.tcs:=by rw[set_self hq];exact hrt
 have hqcl:=hqr.len
 have hqle:=hqr.le
 rw[hqd]at hqt
 obtain rfl:=Option.some.inj hqt
 rw[hpc,Int.toNat_natCast]at hpi
 obtain⟨hpl,hci⟩:=List.getElem?_eq_some_iff.1 hpi
 have q1:=rc.flat inV_len hpl
 rw[hci]at q1
 unfold inV at q1
 dsimp only at q1
 unfold PV.v
 rw[hcA]
 refine enterR Tryz.func28 rfl rfl rfl fun a hs hm=>?_
 clear hm
 have hm:=hm0
 refine gq20dc_ ?_;clear hs hm a;intros;rename_i a hm hs
 obtain⟨g3,rfl⟩:=hs.pp 3
 refine cMid (fun a w=>∃g8:Nat,Sl Tryz.f28.ntmps [(1,pt gm),(3,pt g3),(7,.pointer (some ⟨gt,t*8,none⟩)),(8,pt g8)] a∧Mm A0 wB (⟨some g8,54,[.int .i64 24,.int .i64 0,.int .i64 0,.int .i64 0,.int .i64 0]⟩::⟨some g3,38,[.slice (some ⟨bc,oc,none⟩) p.code.length p.cc,.slice p.sA p.ss.length p.sc,.slice p.dA p.ws.length p.dc]⟩::⟨some gq,103,q.cs⟩::⟨some gt,52,y.tcs⟩::⟨y.bA,3,y.bcs⟩::W) w) ?_ ?_
 ·with_reducible repeat(first|apply gThen|apply wp_seq)
  refine cDrawT (n:=10) (.s [0,1,2,3,4,5,6,7]<| .o 8<| .o 9<| .d) [⟨some g3,38,[.slice (some ⟨bc,oc,none⟩) p.code.length p.cc,.slice p.sA p.ss.length p.sc,.slice p.dA p.ws.length p.dc]⟩,⟨some gq,103,q.cs⟩,⟨some gt,52,y.tcs⟩] hm rfl rfl ?_
  clear hm;intro t_ w1_ hm
  repeat' (first|(refine dgd799_ ?_;clear t_ hs hm a;intros;rename_i a hm hs t_)|refine tE t_ ?_|refine tC ?_ ?_|exact tN|intro t_|(refine tD t_ ?_;(obtain⟨g8,rfl⟩:=hs.pp 8);(exact And.intro rfl ⟨g8,(sb_ hs),hm⟩))|fail)
 clear hs hm a
 rintro a w ⟨g8,hs,hm⟩
 have hxl:=hqv.n
 have ka:=reg_cut hqr (k:=0) (by omega)
 obtain⟨ca,hca⟩:∃c,q.d.xs[0]'(by omega)=c:=⟨_,rfl⟩
 rw[hca]at ka
 rw[Nat.zero_mul]at ka
 have hp1:(pc:Int)+1=((pc+1:Nat):Int):=by omega
 have l2:t*8+2<y.tcs.length:=by omega
 refine gsc5af_ ?_;clear hs hm a;intros;rename_i a hm hs
 refine cMid (fun a w=>∃g10 g11:Nat,Sl Tryz.f28.ntmps [(1,pt gm),(3,pt g3),(7,.pointer (some ⟨gt,t*8,none⟩)),(8,pt g8),(9,.int .i64 ((pc+1:Nat):Int)),(10,pt g10),(11,pt g11)] a∧Mm A0 wB (⟨some g11,103,[.int .u8 ca.t,.int .u16 ca.v]⟩::⟨some g10,103,[.int .u8 ca.t,.int .u16 ca.v]⟩::⟨some g8,54,[.int .i64 24,.int .i64 0,.int .i64 0,.int .i64 0,.int .i64 0]⟩::⟨some g3,38,[.slice (some ⟨bc,oc,none⟩) p.code.length p.cc,.slice p.sA p.ss.length p.sc,.slice p.dA p.ws.length p.dc]⟩::⟨some gq,103,q.cs⟩::⟨some gt,52,y.tcs⟩::⟨y.bA,3,y.bcs⟩::W) w) ?_ ?_
 ·with_reducible repeat(first|apply gThen|apply wp_seq)
  refine cDrawT (n:=20) (.s [0,1,2,3,4,5,6,7,8,9,10,11,12,13,14,15]<| .e [(16,.o 17<| .o 18<| .o 19<| .d),(17,.o 16<| .o 18<| .o 19<| .d)]) [⟨some g8,54,[.int .i64 24,.int .i64 0,.int .i64 0,.int .i64 0,.int .i64 0]⟩,⟨some gq,103,q.cs⟩,⟨some gt,52,y.tcs⟩] hm rfl rfl ?_
  clear hm;intro t_ w1_ hm
  repeat' (first|(refine dgd799_ ?_;clear t_ hs hm a;intros;rename_i a hm hs t_)|refine tE t_ ?_|refine tC ?_ ?_|exact tN|intro t_|(refine tD t_ ?_;(obtain⟨g10,rfl⟩:=hs.pp 10);(obtain⟨g11,rfl⟩:=hs.pp 11);(first|exact And.intro rfl ⟨g10,g11,(sb_ hs),hm⟩|exact And.intro rfl ⟨g10,g11,(sb_ hs),hm.perm (List.Perm.swap _ _ _)⟩))|fail)
 clear hs hm a
 rintro a w ⟨g10,g11,hs,hm⟩
 have l5:t*8+5<y.tcs.length:=by omega
 obtain⟨sv,hsv2⟩:∃sv:Nat,q.d.sav=(sv:Int):=⟨q.d.sav.toNat,by have:=hqv.sav;omega⟩
 rw[hsv2]at e5
 have l2':t*8+2<(y.tcs.set (t*8+5) (.int .i64 (-1))).length:=by rw[List.length_set];omega
 have l3':t*8+3<((y.tcs.set (t*8+5) (.int .i64 (-1))).set (t*8+2) (.int .i64 (sv:Int))).length:=by rw[List.length_set,List.length_set];omega
 have e3:((y.tcs.set (t*8+5) (.int .i64 (-1))).set (t*8+2) (.int .i64 (sv:Int)))[t*8+3]?=some (.int .i64 q.d.cnt):=by
  rw[List.getElem?_set_ne (by omega),List.getElem?_set_ne (by omega)]
  exact hrt.get (by rw[hget 3 (by omega)];rfl)
 have hcb:=hqv.cnt
 have hbr:=fun w=>bran_c 24 w
 rw[show branB 24=true from rfl]at hbr
 have r1:=trow_set hrow htk 5 (by omega) (.int .i64 (-1)) (q2:={q with d:={q.d with sav:=-1}}) rfl
 have r2:=trow_set r1 htk 2 (by omega) (.int .i64 (sv:Int)) (q2:={q with d:={q.d with sav:=-1,pc:=(sv:Int)}}) rfl
 have r3:=trow_set r2 htk 3 (by omega) (.int .i64 (q.d.cnt+1)) (q2:={q with d:=rtiT q.d}) (by unfold rtiT;rw[hsv2];rfl)
 have hsb:=hqv.sav
 repeat(first|(refine gpSis0_ ?_;clear hs hm a;intros;rename_i a hm hs)|refine sc_ ?_|((with_reducible apply lCons);first|(refine dvc hs hm gw_ rfl rfl rfl rfl rfl (pl 47 rfl) (hbr _) ?_;clear hs hm a;intro w hm a hs)))
 refine gRet1 hs rfl rfl ⟨y.upd t {q with d:=rtiT q.d} _ y.m,rfl,MO.upd_ok hy hy.m hqo (by rw[hgt,htl];exact r3),MO.upd_vs (MeO.like.refl _),?_,MO.upd_mm htk ?_⟩
 ·unfold MO.upd MO.d
  dsimp only
  rw[List.map_set]
 ·rw[hR,hW,hgt]
  show Mm A0 wB (⟨q.A,103,q.cs⟩::_) _
  rw[hgq]
  exact hm.sub sub_
theorem rone_c [HB](p:PV)(x:MV)(B:Int)(t:Nat)(q0:ThD)(wB:World)(hp:p.ok wB)(hpv:p.val)(hx:x.ok wB)(h:x.d.val p.ss B)(hcap:x.bs.length≤x.bc)(hB:B≤1000000000)(ht:t<4)(hq0:x.d.ts[t]?=some q0) (hst:q0.st=1) (hpi:p.code[q0.pc.toNat]?=some ⟨24,0,0,0,0⟩) (hsv:q0.sav≠-1):
  Ret Tryz.prog 18 [p.v,x.v,.int .i64 (t:Int)] wB (fun u w'=>∃z:MO,u= .tuple #[z.v,.int .i64 (-1),.int .i64 0]∧z.ok∧z.d={x.d with ts:=x.d.ts.set t (rtiT q0)}∧New wB w' z.hps∧Pu wB w'):=by
 have hsm:=h.sm hpv.sz
 have k1:=fun w'' (hf:Pu wB w'')=>xval_c p x B w'' (hp.pu hf) hpv (hx.pu hf) h hcap (by omega)
 have k2:=fun w'' (hf:Pu wB w'')=>rcp_c x w'' (hx.pu hf) hsm
 have htl:x.ts.length=4:=by have:=h.t;rwa[MV.d_len]at this
 obtain⟨xt,hxt,hxd⟩:=MV.d_th hq0
 have htx:t<x.ts.length:=by omega
 obtain⟨bt,ot,hbt,hbt2,rt⟩:=hx.t.ro (by rw[flat_len ThV.v 8 ThV.len];omega)
 have q1:=rt.flat ThV.len htx
 rw[(List.getElem?_eq_some_iff.1 hxt).2]at q1
 unfold ThV.v at q1
 rw[hxd,hst]at q1
 have hpe:p.v= .agg #[.slice p.cA p.code.length p.cc,.slice p.sA p.ss.length p.sc,.slice p.dA p.ws.length p.dc]:=rfl
 have hxe:x.v= .agg #[.slice x.bA x.bs.length x.bc,.int .u16 x.key,.slice x.cA x.xs.length x.cc,.slice x.lA x.ls.length x.lc,.slice (some ⟨bt,ot,none⟩) x.ts.length x.tc]:=by unfold MV.v;rw[hbt]
 rw[hpe,hxe]at k1 ⊢
 rw[hxe]at k2
 refine enterR Tryz.func18 rfl rfl rfl fun a hs hm=>?_
 repeat(first|(refine gpSis1_ ?_;clear hs hm a;intros;rename_i a hm hs)|refine sc_ ?_|((with_reducible apply lCons);first|(refine dvc hs hm gw_ rfl rfl rfl rfl rfl (pl 27 rfl) (k1 _ hm.fr) ?_;clear hs hm a;intro w hm a hs)))
 obtain⟨g3,rfl⟩:=hs.pp 3
 obtain⟨g4,rfl⟩:=hs.pp 4
 obtain⟨g6,rfl⟩:=hs.pp 6
 refine st hs rfl rfl rfl (d_call hs rfl rfl rfl (pl 19 rfl) ((k2 _ hm.fr))) ?_;clear hs a;rintro _ w1 ⟨y,rfl,hyo,hyd,hN,hf⟩ a hs
 replace hm:=gainE hm hf hN
 clear hN hf
 unfold MO.v at hs
 have hyl:y.ts.length=4:=by have:=congrArg (fun d=>d.ts.length) hyd;rwa[MO.d_len,MV.d_len,htl]at this
 have hot:=hyo.t
 obtain⟨gt,hgt⟩:=hot.some_ (by omega)
 have hyv:y.d.val p.ss B:=hyd▸h
 rw[hgt,hyl]at hs
 refine gsce98_ ?_;clear hs hm a;intros;rename_i a hm hs
 obtain⟨g9,rfl⟩:=hs.pp 9
 have hN:p.at wB wB.heap.size:=hp.at
 have hvse:y.vs=(y.cl [slv (some gt) 4 y.tc]):=by unfold MO.vs;rw[hgt,hyl]
 replace hm:=hm.sub (M':=[⟨some g9,32,(y.cl [slv (some gt) 4 y.tc])⟩,⟨some g6,32,[nS,.int .u16 0,nS,nS,nS]⟩,⟨some g3,38,(p.cl [])⟩]++y.hps) (List.Sublist.cons_cons _ (List.Sublist.cons_cons _ (List.Sublist.cons _ (List.Sublist.cons_cons _ (List.Sublist.refl _)))))
 refine st hs rfl rfl rfl (d_call hs rfl rfl rfl (pl 28 rfl) ((rti_c p wB.heap.size g9 y B t q0 _ (hN.fr hm.fr (Nat.le_refl _) (fun b _ e=>e)) hpv hm.fr.size (hm.sub (List.sublist_append_right _ _)).rebase (fun b hb=>hm.old hb) hyo hyv (by omega) (by rw[hvse];exact hm.ro (k:=0) (n:=5) mem_ (cutF_ok rfl)) (hm.notinR (x:=⟨some g9,32,(y.cl [slv (some gt) 4 y.tc])⟩) mem_ rfl) ht (hyd▸hq0) hpi hsv))) ?_;clear hs a;rintro _ w1 ⟨Z,rfl,z1,z3,z5,hk⟩ a hs
 replace hm:=hm.swapE _ hk
 clear hk
 obtain⟨zA,zl,zc⟩:=MO.vs_t z3 hgt
 have hZv:Z.v= .agg #[slv y.bA y.bs.length y.bc,.int .u16 y.key,slv y.m.cA y.m.xs.length y.m.cc,slv y.m.lA y.m.ls.length y.m.lc,slv (some gt) 4 y.tc]:=by rw[MO.v_vs,z3,hvse]
 simp only[List.cons_append,List.nil_append]at hm
 refine gsce98_ ?_;clear hs hm a;intros;rename_i a hm hs
 exact gRetN tab hs rfl (.cons (.cells rfl rfl rfl rfl (hm.ro (k:=0) (n:=5) (g:=g6) mem_ (cutF_ok rfl))) (.cons (.tmp rfl) (.cons (.tmp rfl) .nil))) ⟨Z,by rw[hZv];rfl,z1,by rw[z5,hyd],hm.new (List.Sublist.cons _ (List.Sublist.cons _ (List.Sublist.cons _ (List.Sublist.refl _)))),hm.fr⟩
end Go.Proofs.YtbjffoojenpmfaaGreat
namespace Go.Proofs.YtbjffoojenpmfaaGreat
open Go.RowKit
theorem gpSit0_{G H:Prop}(k:H)(s:Bx H→G:=by intro k_;(repeat(first|(refine ov701a_ ?_;(try clear hs a);intro a hs)|((with_reducible apply lCons);first|(refine dv hs gw_ rfl rfl da_ ?_;(try clear hs hm a);rintro _ w_ ⟨g_,rfl,-,hm⟩ a hs)|(refine stn hs rfl rfl ds_ ?_;(try clear hs hm a);rintro-w_ hm a hs))|refine sc_ ?_));have m_:=hm;have s_:=hs;clear hs;(try clear hm);revert m_ s_ a;(try revert w_);(repeat revert g_);exact k_.h):G:=s ⟨k⟩
theorem gpSit1_{G H:Prop}(k:H)(s:Bx H→G:=by intro k_;(repeat(first|(refine oq8d44_ ?_;(try clear hs a);intro a hs)|((with_reducible apply lCons);first|(refine dv hs gw_ rfl rfl da_ ?_;(try clear hs hm a);rintro _ w_ ⟨g_,rfl,-,hm⟩ a hs)|(refine stn hs rfl rfl ds_ ?_;(try clear hs hm a);rintro-w_ hm a hs))|((with_reducible apply qNil);(try clear hm);intro w_ hm)|refine cQ_ ?_|refine sc_ ?_));have m_:=hm;have s_:=hs;clear hs;(try clear hm);revert m_ s_ a;(try revert w_);(repeat revert g_);exact k_.h):G:=s ⟨k⟩
theorem depF_cons(q:ThD)(l:List ThD):depF (q::l)=depF l+if q.sav=-1 then 0 else 1:=by
 unfold depF
 by_cases h:q.sav=-1
 ·rw[if_pos h,List.filter_cons,decide_eq_true h];rfl
 ·rw[if_neg h,List.filter_cons,decide_eq_false h];rfl
theorem depF_set:∀(l:List ThD)(k:Nat)(q q':ThD),l[k]?=some q→q.sav=-1→q'.sav≠-1→depF (l.set k q')=depF l+1
 |[],_,_,_,h,_,_=>by cases h
 |x::t,0,q,q',h,h1,h2=>by
  obtain rfl:x=q:=Option.some.inj h
  rw[List.set_cons_zero,depF_cons,depF_cons,if_pos h1,if_neg h2]
 |x::t,k+1,q,q',h,h1,h2=>by
  rw[List.set_cons_succ,depF_cons,depF_cons,depF_set t k q q' h h1 h2]
  omega
theorem depF_le(l:List ThD):depF l≤l.length:=List.length_filter_le _ _
def rtiI:In:=⟨24,0,0,0,0⟩
theorem rtiI_inv(n:Int):InV rtiI n:=⟨by unfold rtiI;dsimp only;omega,by unfold rtiI;exact⟨by decide,by decide,fun _=>rfl⟩,by unfold rtiI;exact⟨by decide,by decide,fun _=>rfl⟩,by unfold rtiI;exact⟨by decide,by decide,fun _=>rfl⟩,by unfold rtiI;exact⟨by decide,by decide,fun _=>rfl⟩,fun h=>absurd h (by unfold rtiI;decide),fun h=>absurd h (by unfold rtiI;decide)⟩
def PV.at_(p:PV)(g rc n:Nat):PV:={p with cA:=some ⟨g,0,none⟩,cc:=rc,code:=p.code.set n rtiI}
theorem PV.at_val [HB]{p:PV}(h:p.val)(g rc n:Nat):(p.at_ g rc n).val:=by
 have hl:(p.code.set n rtiI).length=p.code.length:=List.length_set
 refine⟨h.sz,h.wl,h.fit,h.bd,by show 1≤(p.code.set n rtiI).length;rw[hl];exact h.c1,by show(p.code.set n rtiI).length≤64;rw[hl];exact h.c2,fun i hi=>?_,fun i hi hj=>?_,by show((p.code.set n rtiI).length:Int)≤_;rw[hl];exact h.hb⟩
 ·rcases List.mem_or_eq_of_mem_set hi with hi|rfl
  ·exact h.inv i hi
  ·exact rtiI_inv _
 ·show i.m<((p.code.set n rtiI).length:Int)
  rw[hl]
  rcases List.mem_or_eq_of_mem_set hi with hi|rfl
  ·exact h.ju i hi hj
  ·cases hj
theorem rti_back(q:ThD)(h:q.sav=-1):rtiT (delT q)={q with cnt:=q.cnt+1}:=by
 obtain⟨a,b,c,d,e,f,g,i⟩:=q
 dsimp only at h
 subst h
 rfl
theorem delF_ts{d:MD}{k:Nat}{q:ThD}(h:canS d (k:Int)=true)(hq:d.ts[k]?=some q):delF d (k:Int)={d with ts:=d.ts.set k (delT q)}:=by
 unfold delF
 rw[if_pos h,Int.toNat_natCast,hq]
theorem delF_not{d:MD}{t:Int}(h:canS d t=false):delF d t=d:=by
 unfold delF
 rw[h]
 rfl
theorem canS_T'{d:MD}{k:Nat}(h:canS d (k:Int)=true):∃q,d.ts[k]?=some q∧canT q=true:=by
 cases hq:d.ts[k]? with
 |none=>
  unfold canS at h
  rw[Int.toNat_natCast,hq]at h
  simp at h
 |some q=>exact⟨q,rfl,by rw[canS_at hq]at h;exact h⟩
theorem returns_c(A:Option Addr)(n cc:Nat)(xs:List Int)(tt:Int)(w0:World)(hI:IsInts .i64 w0 A n cc xs):
  Ret Tryz.prog 4 [.slice A n cc,.int .i64 tt] w0 (fun v w'=>v= .bool true∧Pu w0 w'):=by
 obtain⟨hl,hnc,hc63,hrx,hwx⟩:=hI
 have hn63:n≤9223372036854775807:=by omega
 obtain⟨k,hk,hk4⟩:∃k:Nat,modF tt 4=(k:Int)∧k<4:=⟨(modF tt 4).toNat,by have:=modF_bd tt (m:=4) (by omega);omega,by have:=modF_bd tt (m:=4) (by omega);omega⟩
 have m1:=fun w=>mod_c tt 4 w (by omega) (by omega)
 rw[hk]at m1
 refine enterR Tryz.func4 rfl rfl rfl fun a hs hm=>?_
 refine gsc5af_ ?_;clear hs hm a;intros;rename_i a hm hs
 refine st hs rfl rfl rfl (d_call hs rfl rfl rfl (pl 9 rfl) ((mk_c A n cc _))) ?_;clear hs a;rintro _ w1 ⟨gd,rfl,hN,hf⟩ a hs
 have hD:=Dk.start hl (hm.fr.rd' hrx) hn63 hN hf
 replace hm:=hm.gain hf hN
 clear hN hf
 simp only[List.cons_append,List.nil_append]at hm
 refine gsc5af_ ?_;clear hs hm a;intros;rename_i a hm hs
 refine st hs rfl rfl rfl (d_call hs rfl rfl rfl (pl 8 rfl) ((handling_c gd A n cc 0 xs _ hD))) ?_;clear hs a;rintro _ w2 ⟨hb,p,y,a1,rfl,hhb,hpv,pok,yo,yv,hk1⟩ a hs
 have hk2:=hk1.perm (M':=y.hps++[dk gd A n cc a1]) List.perm_append_comm
 replace hm:=(hm.deck (R:=y.hps) hk2 rfl rep_).perm List.perm_append_comm
 clear hk1 hk2 hD
 simp only[List.cons_append,List.nil_append]at hm
 have xok:y.mv.ok w2:=MO.mv_ok hm (fun z hz=>by simp only[List.mem_cons,List.mem_append];simp[hz]) yo
 have xv:y.mv.d.val p.ss 400000:=by rw[MO.mv_d];exact yv
 have hB:=hm.fr
 rw[←MO.mv_v]at hs
 clear hm yv yo
 generalize y.mv=x at hs xok xv
 clear y
 have hm:=Mm.nil (fun _=>False) w2
 have xsm:=xv.sm hpv.sz
 have x4:x.ts.length=4:=by have:=xv.t;rwa[MV.d_len]at this
 obtain⟨bt,ot,hbt,hbt2,rt⟩:=xok.t.ro (by rw[flat_len ThV.v 8 ThV.len];omega)
 have hkx:k<x.ts.length:=by omega
 have hxk:=x.d_ts hkx
 have q1:=rt.flat ThV.len hkx
 generalize x.ts[k]=qv at q1 hxk
 obtain⟨qA,qc,q⟩:=qv
 dsimp only at hxk
 unfold ThV.v at q1
 dsimp only at q1
 have qval:=xv.tt q (List.mem_of_getElem? hxk)
 have hcs:=canS_at hxk
 have hpe:p.v= .agg #[.slice p.cA p.code.length p.cc,.slice p.sA p.ss.length p.sc,.slice p.dA p.ws.length p.dc]:=rfl
 have hxe:x.v= .agg #[.slice x.bA x.bs.length x.bc,.int .u16 x.key,.slice x.cA x.xs.length x.cc,.slice x.lA x.ls.length x.lc,.slice (some ⟨bt,ot,none⟩) 4 x.tc]:=by unfold MV.v;rw[hbt,x4]
 rw[hpe,hxe]at hs
 have kdl:=fun w (h:Pu w2 w)=>pdel_c x (k:Int) w (xok.pu h) xsm
 have kcn:=fun w (h:Pu w2 w)=>pcan_c x (k:Int) w (xok.pu h) xsm
 have kdp:=fun w (h:Pu w2 w)=>pdep_c x w (xok.pu h) xsm
 have kcp:=fun w (h:Pu w2 w)=>rcp_c x w (xok.pu h) xsm
 rw[hxe]at kdl kcn kdp kcp
 repeat(first|(refine gpSit0_ ?_;clear hs hm a;intros;rename_i a hm hs)|refine sc_ ?_|((with_reducible apply lCons);first|(refine dvc hs hm gw_ rfl rfl rfl rfl rfl (pl 10 rfl) (m1 _) ?_;clear hs hm a;intro w hm a hs)))
 obtain⟨g5,rfl⟩:=hs.pp 5
 obtain⟨g6,rfl⟩:=hs.pp 6
 refine st hs rfl rfl rfl (d_call hs rfl rfl rfl (pl 11 rfl) ((kdl _ hm.fr))) ?_;clear hs a;rintro _ w3 ⟨z,rfl,zo,zd,hN,hf⟩ a hs
 replace hm:=gainE hm hf hN
 clear hN hf kdl
 simp only[List.cons_append,List.nil_append]at hm
 have zsm:z.mv.d.sm:=by
  rw[MO.mv_d,zd]
  unfold delF
  split
  ·refine⟨xsm.b,xsm.c,xsm.l,?_,xsm.ll,?_⟩
   ·dsimp only
    split
    ·rw[List.length_set];exact xsm.t
    ·exact xsm.t
   ·dsimp only
    split
    ·next q hq=>
     intro y hy
     rcases List.mem_or_eq_of_mem_set hy with h1|h1
     ·exact xsm.tt y h1
     ·subst h1
      exact xsm.tt q (List.mem_of_getElem? hq)
    ·exact xsm.tt
  ·exact xsm
 have zv:z.d.val p.ss 400000:=by rw[zd];exact delF_val _ xv
 have hz4:z.ts.length=4:=by have:=zv.t;rwa[MO.d_len]at this
 obtain⟨gz,hgz⟩:=zo.t.some_ (by omega)
 have hze:z.v= .agg #[slv z.bA z.bs.length z.bc,.int .u16 z.key,slv z.m.cA z.m.xs.length z.m.cc,slv z.m.lA z.m.ls.length z.m.lc,slv (some gz) 4 z.tc]:=by unfold MO.v;rw[hgz,hz4]
 rw[hze]at hs
 have zok:∀(w:World)(M':List Hp),Mm (fun _=>False) w2 M' w→(∀h∈z.hps,h∈M')→z.mv.ok w:=fun w M' hm hM=>MO.mv_ok hm hM zo
 cases hcn:canS x.d (k:Int)
 ·rw[hcn]at hs kcn
  have ksm:=fun w (h:z.mv.ok w) (h2:Pu w2 w)=>rsm_c z.mv x w h (xok.pu h2) (by rw[MO.mv_d,zd,delF_not hcn]) zsm
  rw[MO.mv_v,hze,hxe]at ksm
  repeat(first|(refine gpSit0_ ?_;clear hs hm a;intros;rename_i a hm hs)|refine sc_ ?_|((with_reducible apply lCons);first|(refine dvc hs hm gw_ rfl rfl rfl rfl rfl (pl 15 rfl) (ksm _ (zok _ _ hm (fun h hh=>by simp only[List.mem_cons,List.mem_append];simp[hh])) hm.fr) ?_;clear hs hm a;intro w hm a hs)|(refine dvc hs hm gw_ rfl rfl rfl rfl rfl (pl 13 rfl) (kcn _ hm.fr) ?_;clear hs hm a;intro w hm a hs)|(refine dvc hs hm gw_ rfl rfl rfl rfl rfl (pl 7 rfl) (awk16_c _) ?_;clear hs hm a;intro w hm a hs)))
  exact gRet1 hs rfl rfl ⟨rfl,hB.pu hm.fr⟩
 rw[hcn]at hs
 rw[hcn]at hcs
 have hct:=hcs.symm
 have hzd:=delF_ts hcn hxk
 rw[←zd]at hzd
 have hq3:=hct
 unfold canT at hq3
 simp only[Bool.and_eq_true,decide_eq_true_eq,Bool.not_eq_true',decide_eq_false_iff_not]at hq3
 obtain⟨hst,hhan,hsav⟩:=hq3
 have hpc:=qval.pc
 have hzk:z.d.ts[k]?=some (delT q):=by rw[hzd];exact List.getElem?_set_self (by rw[MV.d_len];exact hkx)
 have hzk':z.mv.d.ts[k]?=some (delT q):=by rw[MO.mv_d];exact hzk
 have hsz:(delT q).sav≠-1:=by show q.pc≠-1;omega
 have kcz:=fun w (h:z.mv.ok w)=>pcan_c z.mv (k:Int) w h zsm
 rw[canS_at hzk',show canT (delT q)=false by unfold canT;rw[decide_eq_false hsz,Bool.and_false,Bool.and_false],MO.mv_v,hze]at kcz
 have kdz:=fun w (h:z.mv.ok w)=>pdep_c z.mv w h zsm
 have hds:depF z.mv.d.ts=depF x.d.ts+1:=by rw[MO.mv_d,hzd];exact depF_set _ _ _ _ hxk hsav hsz
 rw[hds,MO.mv_v,hze]at kdz
 have hdl:=depF_le x.d.ts
 rw[MV.d_len,x4]at hdl
 generalize depF x.d.ts=dn at kdz kdp hdl hds
 refine gsc5af_ ?_;clear hs hm a;intros;rename_i a hm hs
 repeat(first|(refine gpSit1_ ?_;clear hs hm a;intros;rename_i a hm hs)|refine sc_ ?_|((with_reducible apply lCons);first|(refine dvc hs hm gw_ rfl rfl rfl rfl rfl (pl 13 rfl) (kcz _ (zok _ _ hm (fun h hh=>by simp only[List.mem_cons,List.mem_append];simp[hh]))) ?_;clear hs hm a;intro w hm a hs)|(refine dvc hs hm gw_ rfl rfl rfl rfl rfl (pl 16 rfl) (kdz _ (zok _ _ hm (fun h hh=>by simp only[List.mem_cons,List.mem_append];simp[hh]))) ?_;clear hs hm a;intro w hm a hs)|(refine dvc hs hm gw_ rfl rfl rfl rfl rfl (pl 16 rfl) (kdp _ hm.fr) ?_;clear hs hm a;intro w hm a hs))|((with_reducible apply qCons);first|(refine qwc hs gw_ rfl rfl rfl rfl rfl (pl 13 rfl) (fun w hm=>kcz _ (zok _ _ hm (fun h hh=>by simp only[List.mem_cons,List.mem_append];simp[hh]))) ?_;clear hs a;intro a hs)|(refine qwc hs gw_ rfl rfl rfl rfl rfl (pl 16 rfl) (fun w hm=>kdz _ (zok _ _ hm (fun h hh=>by simp only[List.mem_cons,List.mem_append];simp[hh]))) ?_;clear hs a;intro a hs)|(refine qwc hs gw_ rfl rfl rfl rfl rfl (pl 16 rfl) (fun w hm=>kdp _ hm.fr) ?_;clear hs a;intro a hs)))
 have hc1:=hpv.c1
 have hc2:=hpv.c2
 have hhb2:=qval.han
 obtain⟨hn,hhn⟩:∃hn:Nat,q.han=(hn:Int):=⟨q.han.toNat,by omega⟩
 have hnl:hn<p.code.length:=by omega
 rw[hhn]at q1
 refine dv hs (Wnt.none rfl) rfl rfl (d_appendS (A:=none) (n:=0) (c:=0) (xs:=[]) (news:=p.code.flatMap inV) hs rfl rfl rfl rfl tab rfl rfl rfl rfl rfl (hm.zero 54) mem_ (Row.empty 5) (flat_len inV 5 inV_len _) (hm.fr.rd' pok.c) (flat_one (fun _=>rfl) _) (by show(0+p.code.length)*40≤_;omega) (by omega)) ?_
 clear hs
 rintro _ w5 ⟨rA,rc,rcs,rfl,hrr,hM⟩ a hs
 replace hm:=hM _ rep_
 clear hM
 rw[Nat.zero_add,List.nil_append]at hrr
 rw[Nat.zero_add]at hs
 obtain⟨gr,rfl⟩:=hrr.some_ (by omega)
 replace hrr:Row (some gr) p.code.length rc 5 (p.code.flatMap inV) rcs:=hrr
 have hrl:rcs.length=rc*5:=hrr.len
 have hrle:=hrr.le
 refine gsc5af_ ?_;clear hs hm a;intros;rename_i a hm hs
 with_reducible apply lCons
 refine stn hs rfl rfl (d_store hs rfl rfl rfl tab rfl rfl rfl rfl hm rep_ (putG (by show hn*5+5≤_;omega))) ?_
 clear hs hm a
 rintro-w6 hm a hs
 have hsp:=hrr.splice (o:=hn*5) (ys:=inV rtiI) (by rw[inV_len];omega)
 rw[inV_len,flat_splice inV 5 inV_len p.code hn rtiI hnl]at hsp
 have hpo:∀(w:World)(M':List Hp),Mm (fun _=>False) w2 M' w→(⟨some gr,54,rcs.take (hn*5)++inV rtiI++rcs.drop (hn*5+5)⟩:Hp)∈M'→(p.at_ gr rc hn).ok w:=fun w M' hm hM=>⟨hm.rd_row hM hsp,hm.fr.rd' pok.s,hm.fr.rd' pok.d,fun r hr=>hm.fr.rd' (pok.dd r hr)⟩
 have hp2e:(p.at_ gr rc hn).v= .agg #[.slice (some ⟨gr,0,none⟩) p.code.length rc,.slice p.sA p.ss.length p.sc,.slice p.dA p.ws.length p.dc]:=by unfold PV.v PV.at_;dsimp only;rw[List.length_set]
 have kone:=fun w (h:(p.at_ gr rc hn).ok w) (h2:z.mv.ok w)=>rone_c (p.at_ gr rc hn) z.mv 400000 k (delT q) w h (PV.at_val hpv gr rc hn) h2 (by rw[MO.mv_d];exact zv) (by have:=zo.b.le;exact this) (by omega) hk4 hzk' hst (by
  show(p.code.set hn rtiI)[(q.han).toNat]?=some rtiI
  rw[hhn,Int.toNat_natCast]
  exact List.getElem?_set_self hnl) hsz
 rw[hp2e,MO.mv_v,hze]at kone
 refine gsc5af_ ?_;clear hs hm a;intros;rename_i a hm hs
 refine st hs rfl rfl rfl (d_call hs rfl rfl rfl (pl 18 rfl) ((kone _ (hpo _ _ hm (by simp only[List.mem_cons,List.mem_append];simp[inV,rtiI])) (zok _ _ hm (fun h hh=>by simp only[List.mem_cons,List.mem_append];simp[hh]))))) ?_;clear hs a;rintro _ w7 ⟨y2,rfl,y2o,y2d,hN,hf⟩ a hs
 replace hm:=gainE hm hf hN
 clear hN hf
 simp only[List.cons_append,List.nil_append]at hm
 have y2d':y2.d={x.d with ts:=x.d.ts.set k {q with cnt:=q.cnt+1}}:=by
  rw[y2d,MO.mv_d,hzd,rti_back q hsav]
  dsimp only
  rw[List.set_set]
 have y24:y2.ts.length=4:=by rw[←MO.d_len,y2d'];dsimp only;rw[List.length_set,MV.d_len,x4]
 obtain⟨gy,hgy⟩:=y2o.t.some_ (by omega)
 have hye:y2.v= .agg #[slv y2.bA y2.bs.length y2.bc,.int .u16 y2.key,slv y2.m.cA y2.m.xs.length y2.m.cc,slv y2.m.lA y2.m.ls.length y2.m.lc,slv (some gy) 4 y2.tc]:=by unfold MO.v;rw[hgy,y24]
 rw[hye]at hs
 refine gsc5af_ ?_;clear hs hm a;intros;rename_i a hm hs
 refine st hs rfl rfl rfl (d_call hs rfl rfl rfl (pl 19 rfl) ((kcp _ hm.fr))) ?_;clear hs a;rintro _ w8 ⟨c,rfl,co,cd,hN,hf⟩ a hs
 replace hm:=gainE hm hf hN
 clear hN hf
 simp only[List.cons_append,List.nil_append]at hm
 have c4:c.ts.length=4:=by rw[←MO.d_len,cd,MV.d_len,x4]
 obtain⟨gc,hgc⟩:=co.t.some_ (by omega)
 have hce:c.v= .agg #[slv c.bA c.bs.length c.bc,.int .u16 c.key,slv c.m.cA c.m.xs.length c.m.cc,slv c.m.lA c.m.ls.length c.m.lc,slv (some gc) 4 c.tc]:=by unfold MO.v;rw[hgc,c4]
 rw[hce]at hs
 have hch:c.hps=⟨some gc,52,c.tcs⟩::(⟨c.bA,3,c.bcs⟩::(c.m.hps++c.ts.map ThO.hp)):=by unfold MO.hps;rw[hgc]
 rw[hch]at hm
 replace hm:=hm.perm (List.perm_middle (l₁:=_::_::_::_::_::_::(z.hps++y2.hps)) (a:=⟨some gc,52,c.tcs⟩) (l₂:=⟨c.bA,3,c.bcs⟩::(c.m.hps++c.ts.map ThO.hp))).symm
 simp only[List.cons_append]at hm
 have hkc:k<c.ts.length:=by omega
 obtain⟨r,hr⟩:∃r,c.ts[k]?=some r:=⟨_,List.getElem?_eq_getElem hkc⟩
 have hrd:r.d=q:=by
  have h1:(c.ts.map ThO.d)[k]?=x.d.ts[k]?:=by rw[←cd];rfl
  rw[List.getElem?_map,hr,hxk]at h1
  exact Option.some.inj h1
 have cv:c.d.val p.ss 400001:=by rw[cd];exact xv.up (by omega)
 have hcc:=qval.cnt
 obtain⟨s1,s2,s3,s4⟩:=MO.setQ_ok (y:=c) (j:=3) (v:= .int .i64 (q.cnt+1)) (d':={q with cnt:=q.cnt+1}) (tcs:=c.tcs) (ts:=c.ts) co cv rfl c4 hr (by omega) (by rw[←hrd];rfl) ⟨qval.st,qval.n,qval.pc,⟨by dsimp only;omega,by dsimp only;omega⟩,qval.han,qval.sav,qval.trp,qval.cod,qval.cv⟩ (by rw[hrd])
 have hcl:c.tcs.length=c.tc*8:=co.t.len
 have hcle:=co.t.le
 have hk3:k*8+3<c.tcs.length:=by omega
 have e3:c.tcs[k*8+3]?=some (.int .i64 q.cnt):=co.t.get (by
  rw[flat_get ThO.v 8 ThO.len c.ts k 3 hkc (by omega),(List.getElem?_eq_some_iff.1 hr).2,←hrd]
  rfl)
 refine gsc5af_ ?_;clear hs hm a;intros;rename_i a hm hs
 obtain⟨c2,hc2e⟩:∃c2,c2=c.setQ (c.tcs.set (k*8+3) (.int .i64 (q.cnt+1))) (c.ts.set k {r with d:={q with cnt:=q.cnt+1}}):=⟨_,rfl⟩
 have hc2d:c2.d=y2.d:=by
  rw[y2d',hc2e]
  have h1:c.ts.map ThO.d=x.d.ts:=by rw[←cd];rfl
  show(⟨c.d.bs,c.d.key,c.d.xs,c.d.ls,(c.ts.set k {r with d:={q with cnt:=q.cnt+1}}).map ThO.d⟩:MD)=_
  rw[List.map_set,h1,cd]
 have hc2v:c2.v= .agg #[slv c.bA c.bs.length c.bc,.int .u16 c.key,slv c.m.cA c.m.xs.length c.m.cc,slv c.m.lA c.m.ls.length c.m.lc,slv (some gc) 4 c.tc]:=by rw[hc2e];unfold MO.v MO.setQ;dsimp only;rw[hgc,s4]
 have hc2m:∀h∈c2.hps,h∈(⟨some gc,52,c.tcs.set (k*8+3) (.int .i64 (q.cnt+1))⟩:Hp)::(⟨c.bA,3,c.bcs⟩::(c.m.hps++c.ts.map ThO.hp)):=fun h hh=>by
  rw[hc2e]at hh
  unfold MO.hps MO.setQ at hh
  dsimp only at hh
  rw[s3,hgc]at hh
  exact hh
 have c2o:c2.ok:=by rw[hc2e];exact s1
 have y2sm:y2.mv.d.sm:=by
  rw[MO.mv_d,←hc2d,hc2e]
  exact s2.sm hpv.sz
 have ksm:=fun w (h1:y2.mv.ok w) (h2:c2.mv.ok w)=>rsm_c y2.mv c2.mv w h1 h2 (by rw[MO.mv_d,MO.mv_d,hc2d]) y2sm
 rw[MO.mv_v,MO.mv_v,hye,hc2v]at ksm
 have kcy:=fun w (h:y2.mv.ok w)=>pcan_c y2.mv (k:Int) w h y2sm
 rw[canS_at (d:=y2.mv.d) (q:={q with cnt:=q.cnt+1}) (by rw[MO.mv_d,y2d'];exact List.getElem?_set_self (by rw[MV.d_len];exact hkx)),show canT {q with cnt:=q.cnt+1}=true from hct,MO.mv_v,hye]at kcy
 have yok:∀(w:World)(M':List Hp),Mm (fun _=>False) w2 M' w→(∀h∈y2.hps,h∈M')→y2.mv.ok w:=fun w M' hm hM=>MO.mv_ok hm hM y2o
 have cok:∀(w:World)(M':List Hp),Mm (fun _=>False) w2 M' w→(∀h∈c2.hps,h∈M')→c2.mv.ok w:=fun w M' hm hM=>MO.mv_ok hm hM c2o
 repeat(first|(refine gpSit0_ ?_;clear hs hm a;intros;rename_i a hm hs)|refine sc_ ?_|((with_reducible apply lCons);first|(refine dvc hs hm gw_ rfl rfl rfl rfl rfl (pl 15 rfl) (ksm _ (yok _ _ hm (fun h hh=>by simp only[List.mem_cons,List.mem_append];simp[hh])) (cok _ _ hm (fun h hh=>by have h1:=hc2m h hh;simp only[List.mem_cons,List.mem_append]at h1 ⊢;rcases h1 with h1|h1|h1|h1<;>simp[h1]))) ?_;clear hs hm a;intro w hm a hs)|(refine dvc hs hm gw_ rfl rfl rfl rfl rfl (pl 13 rfl) (kcy _ (yok _ _ hm (fun h hh=>by simp only[List.mem_cons,List.mem_append];simp[hh]))) ?_;clear hs hm a;intro w hm a hs)|(refine dvc hs hm gw_ rfl rfl rfl rfl rfl (pl 7 rfl) (awk16_c _) ?_;clear hs hm a;intro w hm a hs)))
 exact gRet1 hs rfl rfl ⟨rfl,hB.pu hm.fr⟩
theorem walk_SignalReturns(A:Option Addr)(n c:Nat)(xs:List Int)(tt:Int)(w:World)(h:IsInts .i64 w A n c xs)(_h0:(Lit.int .i64 tt).wf=true):Calls Tryz.prog 4 #[.slice A n c,.int .i64 tt] w (fun e w'=>e= .returned (.bool true)∧Pu w w'):=
 (returns_c A n c xs tt w h).law
end Go.Proofs.YtbjffoojenpmfaaGreat
