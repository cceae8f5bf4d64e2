/- Texts put together: Lib, Tac4, Sip, Flat, Deep, Sir. -/
import Derived.WalkKit
import Derived.WalkSpells
import Derived.WalkLawsBesides
import Derived.Deep.QuietTactic
import Derived.BigQuiet
import Derived.Lib.Hide
import Derived.Laws.OwnMore
import Derived.Deep.Draws
import Derived.Maps.AppendAt
import Derived.Deep.DeepFit
import Derived.SizedLaws
import Derived.Test.YtbjffoojenpmfaaGreatMgSOr
set_option maxRecDepth 20000
set_option maxHeartbeats 64000000
set_option linter.unusedVariables false
set_option linter.unusedSimpArgs false
namespace Go.Proofs.YtbjffoojenpmfaaGreat
open Go.RowKit
theorem block_add(a:Addr)(n:Nat):(a.add n).block=a.block:=by unfold Addr.add;split<;>rfl
theorem add_add(a:Addr)(i j:Nat):(a.add i).add j=a.add (i+j):=by
 unfold Addr.add
 by_cases hi:i=0<;>by_cases hj:j=0<;>simp[hi,hj,Nat.add_assoc]
section
variable {w w':World} {B B':Nat} {A:Option Addr} {xs:List Value}
end
section
variable {w w':World} {g:Nat} {t:TypeId} {cs:Array Value}
end
section
variable {P:Program} {f:FuncId} {args:Array Value} {w:World} {n a:Nat} {v:Value}
end
section
variable {S T:Nat→Prop} {w w' w'':World}
end
section
variable {bs:List (Nat × TypeId × Array Value)} {w w':World}
end
theorem z2bca_{G:Prop}(h:G:=by exact gRet1 hs rfl rfl ⟨false,rfl,(fun h=>by cases h),hm.fr⟩):G:=h
theorem gpSip0_{G H:Prop}(k:H)(s:Bx H→G:=by intro k_;(repeat(first|(refine ovR_ ?_;(try clear hs a);intro a hs)|((with_reducible apply lCons);first|(refine dv hs gw_ rfl rfl da_ ?_;(try clear hs hm a);rintro _ w_ ⟨g_,rfl,-,hm⟩ a hs)|(refine stn hs rfl rfl ds_ ?_;(try clear hs hm a);rintro-w_ hm a hs))|refine sc_ ?_));have m_:=hm;have s_:=hs;clear hs;(try clear hm);revert m_ s_ a;(try revert w_);(repeat revert g_);exact k_.h):G:=s ⟨k⟩
structure MV.fits(x:MV):Prop where
 b:x.bs.length≤140737488355328
 c:x.xs.length≤140737488355328
 l:x.ls.length≤140737488355328
 t:x.ts.length≤140737488355328
 ll:∀y∈x.ls,y.d.xs.length≤140737488355328
 tt:∀y∈x.ts,y.d.xs.length≤140737488355328
theorem light_c(x:MV)(wB:World)(hx:x.ok wB)(hf:x.fits):Ret Tryz.prog 6 [x.v] wB (fun u w'=>∃b:Bool,u= .bool b∧(b=true→x.d.sm)∧Pu wB w'):=by
 have f3:=hf.l
 have f4:=hf.t
 have f5:=hf.ll
 have f6:=hf.tt
 have f1:=hf.b
 have f2:=hf.c
 unfold MV.v
 refine enterR Tryz.func6 rfl rfl rfl fun a hs hm=>?_
 refine gsce98_ ?_;clear hs hm a;intros;rename_i a hm hs
 obtain⟨g1,rfl⟩:=hs.pp 1
 refine cLoop (X:=Nat) (fun k a w'=>k≤x.ts.length∧(∀j (h:j<x.ts.length),j<k→(x.ts[j]).d.xs.length≤20)∧Sl Tryz.f6.ntmps [(1,.pointer (some ⟨g1,0,none⟩)),(8,.slice x.tA x.ts.length x.tc),(9,.int .i64 (x.ts.length:Int)),(10,.int .i64 (k:Int))] a∧Mm (fun _=>False) wB [⟨some g1,32,[.slice x.bA x.bs.length x.bc,.int .u16 x.key,.slice x.cA x.xs.length x.cc,.slice x.lA x.ls.length x.lc,.slice x.tA x.ts.length x.tc]⟩] w') (fun k=>x.ts.length-k) 0 ⟨Nat.zero_le _,(fun j _ h=>absurd h (Nat.not_lt_zero j)),(sb_ hs),hm⟩ ?_
 clear hs hm a
 rintro k a w' ⟨hk,ht,hs,hm⟩
 by_cases hlt:k<x.ts.length
 ·obtain⟨b1,o1,hA,hb1,r1⟩:=hx.t.ro (by rw[flat_len ThV.v 8 ThV.len];omega)
  have r2:=r1.flat ThV.len hlt
  have f7:=f6 _ (List.getElem_mem hlt)
  have ht2:(x.ts[k]).d.xs.length≤20→∀j (h:j<x.ts.length),j<k+1→(x.ts[j]).d.xs.length≤20:=fun hq j h hj=>by
   rcases Nat.lt_or_ge j k with h1|h1
   ·exact ht j h h1
   ·obtain rfl:j=k:=by omega
    exact hq
  generalize x.ts[k]=q at r2 f7 ht2
  unfold ThV.v at r2
  rw[hA]at hs hm
  clear r1
  by_cases h20:q.d.xs.length≤20
  ·refine gsce98_ ?_;clear hs hm a;intros;rename_i a hm hs
   rw[←hA]at hs hm
   exact⟨k+1,by omega,by omega,ht2 h20,(sb_ hs),hm.sub sub_⟩
  ·refine gsce98_ ?_;clear hs hm a;intros;rename_i a hm hs
   exact z2bca_
 obtain rfl:k=x.ts.length:=by omega
 refine gsce98_ ?_;clear hs hm a;intros;rename_i a hm hs
 refine cLoop (X:=Nat) (fun k a w'=>k≤x.ls.length∧(∀j (h:j<x.ls.length),j<k→(x.ls[j]).d.xs.length≤20)∧Sl Tryz.f6.ntmps [(1,.pointer (some ⟨g1,0,none⟩)),(21,.slice x.lA x.ls.length x.lc),(22,.int .i64 (x.ls.length:Int)),(23,.int .i64 (k:Int))] a∧Mm (fun _=>False) wB [⟨some g1,32,[.slice x.bA x.bs.length x.bc,.int .u16 x.key,.slice x.cA x.xs.length x.cc,.slice x.lA x.ls.length x.lc,.slice x.tA x.ts.length x.tc]⟩] w') (fun k=>x.ls.length-k) 0 ⟨Nat.zero_le _,(fun j _ h=>absurd h (Nat.not_lt_zero j)),(sb_ hs),hm⟩ ?_
 clear hs hm a
 rintro k a w' ⟨hk,hl,hs,hm⟩
 by_cases hlt:k<x.ls.length
 ·obtain⟨b1,o1,hA,hb1,r1⟩:=hx.l.ro (by rw[flat_len LnV.v 3 LnV.len];omega)
  have r2:=r1.flat LnV.len hlt
  have f7:=f5 _ (List.getElem_mem hlt)
  have hl2:(x.ls[k]).d.xs.length≤20→∀j (h:j<x.ls.length),j<k+1→(x.ls[j]).d.xs.length≤20:=fun hq j h hj=>by
   rcases Nat.lt_or_ge j k with h1|h1
   ·exact hl j h h1
   ·obtain rfl:j=k:=by omega
    exact hq
  generalize x.ls[k]=q at r2 f7 hl2
  unfold LnV.v at r2
  rw[hA]at hs hm
  clear r1
  by_cases h20:q.d.xs.length≤20
  ·refine gsce98_ ?_;clear hs hm a;intros;rename_i a hm hs
   rw[←hA]at hs hm
   exact⟨k+1,by omega,by omega,hl2 h20,(sb_ hs),hm.sub sub_⟩
  ·refine gsce98_ ?_;clear hs hm a;intros;rename_i a hm hs
   exact z2bca_
 obtain rfl:k=x.ls.length:=by omega
 by_cases e1:x.xs.length≤600
 ·by_cases e2:x.ls.length≤20
  ·by_cases e3:x.ts.length≤20
   ·by_cases e4:x.bs.length≤20
    ·refine gsce98_ ?_;clear hs hm a;intros;rename_i a hm hs
     refine gRet1 hs rfl rfl ⟨true,rfl,(fun _=>⟨?_,?_,?_,?_,fun y hy=>?_,fun y hy=>?_⟩),hm.fr⟩
     ·show x.bs.length≤1000;omega
     ·show x.xs.length≤1000;omega
     ·show(x.ls.map LnV.d).length≤1000;rw[List.length_map];omega
     ·show(x.ts.map ThV.d).length≤1000;rw[List.length_map];omega
     ·have hy':y∈x.ls.map LnV.d:=hy
      obtain⟨z,hz,rfl⟩:=List.mem_map.1 hy'
      obtain⟨j,hj,rfl⟩:=List.getElem_of_mem hz
      have:=hl j hj hj
      omega
     ·have hy':y∈x.ts.map ThV.d:=hy
      obtain⟨z,hz,rfl⟩:=List.mem_map.1 hy'
      obtain⟨j,hj,rfl⟩:=List.getElem_of_mem hz
      have:=ht j hj hj
      omega
    ·refine gsce98_ ?_;clear hs hm a;intros;rename_i a hm hs
     exact z2bca_
   ·refine gsce98_ ?_;clear hs hm a;intros;rename_i a hm hs
    exact z2bca_
  ·refine gsce98_ ?_;clear hs hm a;intros;rename_i a hm hs
   exact z2bca_
 ·refine gsce98_ ?_;clear hs hm a;intros;rename_i a hm hs
  exact z2bca_
def th5:ThD:=⟨1,[],5,0,-1,-1,0,0⟩
def th9:ThD:=⟨1,[],5,0,9,-1,0,0⟩
def awM(g:Nat):MV:=⟨none,0,[],0,none,0,[],none,0,[],some ⟨g,0,none⟩,2,[⟨none,0,th5⟩,⟨none,0,th9⟩]⟩
theorem awM_sm(g:Nat):(awM g).d.sm:=⟨Nat.zero_le _,Nat.zero_le _,Nat.zero_le _,(by show 2≤1000;omega),(fun y hy=>by cases hy),fun y hy=>by
 have hy':y∈ [th5,th9]:=hy
 simp only[List.mem_cons,List.not_mem_nil,or_false]at hy'
 rcases hy' with rfl|rfl
 ·exact Nat.zero_le _
 ·exact Nat.zero_le _⟩
theorem awk16_c(wB:World):Ret Tryz.prog 7 [] wB (fun u w'=>u= .bool true∧Pu wB w'):=by
 refine enterR Tryz.func7 rfl rfl rfl fun a hs hm=>?_
 refine gsce98_ ?_;clear hs hm a;intros;rename_i a hm hs
 obtain⟨g6,rfl⟩:=hs.qq 6
 obtain⟨g1,rfl⟩:=hs.pp 1
 have haw:∀(w:World)(M':List Hp),Mm (fun _=>False) wB M' w→(⟨some g6,52,[.int .i64 1,.slice none 0 0,.int .i64 5,.int .i64 0,.int .i64 (-1),.int .i64 (-1),.int .i64 0,.int .u16 0,.int .i64 1,.slice none 0 0,.int .i64 5,.int .i64 0,.int .i64 9,.int .i64 (-1),.int .i64 0,.int .u16 0]⟩:Hp)∈M'→(awM g6).ok w:=fun w M' hm hM=>⟨(fun h=>by cases h),(fun h=>by cases h),(fun h=>by cases h),hm.rd hM (List.prefix_refl _),(fun y hy=>by cases hy),fun y hy=>by
  simp only[awM,List.mem_cons,List.not_mem_nil,or_false]at hy
  rcases hy with rfl|rfl
  ·exact fun h=>by cases h
  ·exact fun h=>by cases h⟩
 have hok:=haw _ _ hm mem_
 have kdl:=pdel_c (awM g6) 1 _ hok (awM_sm g6)
 refine st hs rfl rfl rfl (d_call hs rfl rfl rfl (pl 11 rfl) ((kdl))) ?_;clear hs a;rintro _ w2 ⟨y,rfl,yo,yd,hN,hf⟩ a hs
 clear hok
 replace hm:=gainE hm hf hN
 clear hN hf kdl
 simp only[List.cons_append,List.nil_append]at hm
 have e1:(delF (awM g6).d 1).ts=[th5,delT th9]:=by rfl
 have e2:y.ts.map ThO.d=[th5,delT th9]:=by rw[←e1,←yd];rfl
 have hl2:y.ts.length=2:=by have:=congrArg List.length e2;rwa[List.length_map]at this
 have hdp:depF y.d.ts=1:=by rw[show y.d.ts=[th5,delT th9]from e2];rfl
 obtain⟨gt,hgt⟩:=yo.t.some_ (by omega)
 have hk1:1<y.ts.length:=by omega
 have hq1:(y.ts[1]).d=delT th9:=by
  have:(y.ts.map ThO.d)[1]?=([th5,delT th9])[1]?:=congrArg (fun l=>l[1]?) e2
  rw[List.getElem?_map,List.getElem?_eq_getElem hk1]at this
  exact Option.some.inj this
 have c2:y.tcs[10]?=some (.int .i64 9):=by
  have:=yo.t.get (j:=1*8+2) (u:= .int .i64 (y.ts[1]).d.pc) (by rw[flat_get ThO.v 8 ThO.len y.ts 1 2 hk1 (by omega)];rfl)
  rw[hq1]at this
  exact this
 have c5:y.tcs[13]?=some (.int .i64 5):=by
  have:=yo.t.get (j:=1*8+5) (u:= .int .i64 (y.ts[1]).d.sav) (by rw[flat_get ThO.v 8 ThO.len y.ts 1 5 hk1 (by omega)];rfl)
  rw[hq1]at this
  exact this
 have hysm:y.mv.d.sm:=by
  rw[MO.mv_d]
  have h1:y.d=delF (awM g6).d 1:=yd
  rw[h1]
  refine⟨Nat.zero_le _,Nat.zero_le _,Nat.zero_le _,(by show 2≤1000;omega),(fun z hz=>by cases hz),fun z hz=>?_⟩
  rw[e1]at hz
  simp only[List.mem_cons,List.not_mem_nil,or_false]at hz
  rcases hz with rfl|rfl
  ·exact Nat.zero_le _
  ·exact Nat.zero_le _
 have hmv:∀w M',Mm (fun _=>False) wB M' w→(∀h∈y.hps,h∈M')→y.mv.ok w:=fun w M' hm h=>MO.mv_ok hm h yo
 have kc0:=fun(w:World) (M':List Hp) (hm:Mm (fun _=>False) wB M' w) (hM:(⟨some g6,52,[.int .i64 1,.slice none 0 0,.int .i64 5,.int .i64 0,.int .i64 (-1),.int .i64 (-1),.int .i64 0,.int .u16 0,.int .i64 1,.slice none 0 0,.int .i64 5,.int .i64 0,.int .i64 9,.int .i64 (-1),.int .i64 0,.int .u16 0]⟩:Hp)∈M')=>pcan_c (awM g6) 0 w (haw w M' hm hM) (awM_sm g6)
 have kc1:=fun(w:World) (M':List Hp) (hm:Mm (fun _=>False) wB M' w) (hM:(⟨some g6,52,[.int .i64 1,.slice none 0 0,.int .i64 5,.int .i64 0,.int .i64 (-1),.int .i64 (-1),.int .i64 0,.int .u16 0,.int .i64 1,.slice none 0 0,.int .i64 5,.int .i64 0,.int .i64 9,.int .i64 (-1),.int .i64 0,.int .u16 0]⟩:Hp)∈M')=>pcan_c (awM g6) 1 w (haw w M' hm hM) (awM_sm g6)
 rw[show canS (awM g6).d 0=false by rfl]at kc0
 rw[show canS (awM g6).d 1=true by rfl]at kc1
 have kd:∀(w:World),y.mv.ok w→Ret Tryz.prog 16 [.agg #[slv y.bA y.bs.length y.bc,.int .u16 y.key,slv y.m.cA y.m.xs.length y.m.cc,slv y.m.lA y.m.ls.length y.m.lc,slv (some gt) 2 y.tc]] w (fun u w'=>u= .int .i64 1∧Pu w w'):=fun w h=>by
  have h1:=pdep_c y.mv w h hysm
  rw[MO.mv_v,MO.mv_d,hdp]at h1
  unfold MO.v at h1
  rw[hgt,hl2]at h1
  exact h1
 unfold MO.v at hs
 rw[hgt,hl2]at hs
 unfold MO.hps at hm
 rw[hgt]at hm
 have hmh:∀(w:World)(M':List Hp),Mm (fun _=>False) wB M' w→(∀h∈⟨some gt,52,y.tcs⟩::⟨y.bA,3,y.bcs⟩::(y.m.hps++y.ts.map ThO.hp),h∈M')→y.mv.ok w:=fun w M' hm h=>hmv w M' hm (by
  unfold MO.hps
  rw[hgt]
  exact h)
 repeat(first|(refine gpSip0_ ?_;clear hs hm a;intros;rename_i a hm hs)|refine sc_ ?_|((with_reducible apply lCons);first|(refine dvc hs hm gw_ rfl rfl rfl rfl rfl (pl 13 rfl) (kc0 _ _ hm mem_) ?_;clear hs hm a;intro w hm a hs)|(refine dvc hs hm gw_ rfl rfl rfl rfl rfl (pl 13 rfl) (kc1 _ _ hm mem_) ?_;clear hs hm a;intro w hm a hs)|(refine dvc hs hm gw_ rfl rfl rfl rfl rfl (pl 16 rfl) (kd _ (hmh _ _ hm (by intro z hz;simp only[List.mem_cons,List.mem_append]at hz ⊢;rcases hz with hz|hz|hz|hz<;>simp[hz]))) ?_;clear hs hm a;intro w hm a hs)))
 exact gRet1 hs rfl rfl ⟨rfl,hm.fr⟩
end Go.Proofs.YtbjffoojenpmfaaGreat
namespace Go.Proofs.YtbjffoojenpmfaaGreat
open Go.ChangeShapes Go.WideShapes Go.ChangeAt Go.RowKit
section
variable {H:Type} {enc:TypeId × Value→H} {P:Program} {W:World} {base b0:Nat} {spare:Nat→Bool} {held:Bool}
theorem flatten_get{s:Nat}(rows:List (List Value))(hs:∀r∈rows,r.length=s)(j:Nat)(u:Value)(h:rows.flatten[j]?=some u):∃(k i:Nat)(hk:k<rows.length),i<s∧j=k*s+i∧rows[k][i]?=some u:=by
 induction rows generalizing j with
 |nil=>simp at h
 |cons r t ih=>
  rw[List.flatten_cons]at h
  have hr:=hs r (by simp)
  by_cases hj:j<s
  ·rw[List.getElem?_append_left (by omega)]at h
   exact⟨0,j,by simp,hj,by omega,by simpa using h⟩
  ·rw[List.getElem?_append_right (by omega)]at h
   obtain⟨k,i,hk,hi,e,hu⟩:=ih (fun r hr=>hs r (by simp[hr])) _ h
   exact⟨k+1,i,by simp;omega,hi,by rw[Nat.succ_mul];omega,by simpa using hu⟩
theorem mapM_get{α β:Type}(f:α→Option β)(l:List α)(r:List β)(h:l.mapM f=some r):r.length=l.length∧∀i (hi:i<l.length),f l[i]=r[i]?:=by
 induction l generalizing r with
 |nil=>simp at h;subst h;exact⟨rfl,fun i hi=>by simp at hi⟩
 |cons a t ih=>
  rw[List.mapM_cons]at h
  cases ha:f a with
  |none=>rw[ha]at h;simp at h
  |some b=>
   rw[ha]at h
   cases ht:t.mapM f with
   |none=>rw[ht]at h;simp at h
   |some r'=>
    rw[ht]at h
    simp at h
    subst h
    obtain⟨h1,h2⟩:=ih r' ht
    exact⟨by simp[h1],fun i hi=>by
     cases i with
     |zero=>simpa using ha
     |succ i=>simpa using h2 i (by simpa using hi)⟩
theorem cells?_get{w:World}{b:Nat}{a:Addr}{n:Nat}{l:List Value}(h:w.cells? b a n=some l):l.length=n∧∀i,i<n→w.cell? (a.add i)=l[i]?:=by
 unfold World.cells? at h
 split at h
 ·obtain⟨h1,h2⟩:=mapM_get _ _ _ h
  simp only[List.length_range]at h1 h2
  exact⟨h1,fun i hi=>by have:=h2 i hi;simpa using this⟩
 ·cases h
end
inductive Sh where
 |int (k:IntKind)
 |bool
 |str
 |sl (e:Sh) (size bytes:Nat)
 |nil
 |pr (a:Sh) (b:Sh)
def Sh.sz:Sh→Nat
 | .nil=>0
 | .pr a b=>a.sz+b.sz
 |_=>1
def Sh.app:Sh→Sh→Sh
 | .nil,s=>s
 | .pr a b,s=> .pr a (b.app s)
 |x,s=> .pr x s
def Sh.rep:Nat→Sh→Sh
 |0,_=> .nil
 |n+1,s=>s.app (Sh.rep n s)
theorem Sh.app_sz(a b:Sh):(a.app b).sz=a.sz+b.sz:=by
 induction a with
 |nil=>simp[Sh.app,Sh.sz]
 |pr x y _ ih=>simp only[Sh.app,Sh.sz,ih];omega
 |_=>simp[Sh.app,Sh.sz]
def Dp(W:World):Sh→List Value→Prop
 | .int k,cs=>∃n,cs=[.int k n]∧(Lit.int k n).wf=true
 | .bool,cs=>∃b,cs=[.bool b]
 | .str,cs=>∃s:ByteArray,cs=[.string s]∧s.size≤maxLen
 | .sl e size bytes,cs=>∃(A:Option Addr)(n c:Nat)(rows:List (List Value)),cs=[.slice A n c]∧rows.length=n∧n*bytes≤140737488351232∧n≤c∧c≤9223372036854775807∧Rd W W.heap.size A rows.flatten∧∀r∈rows,r.length=size∧Dp W e r
 | .nil,cs=>cs=[]
 | .pr a b,cs=>∃x y,cs=x++y∧Dp W a x∧Dp W b y
section
variable {H:Type} {enc:TypeId × Value→H} {P:Program} {W:World} {base b0:Nat} {spare:Nat→Bool} {held:Bool}
theorem Dp.app{a b:Sh}{x y:List Value}(h:Dp W a x)(k:Dp W b y):Dp W (a.app b) (x++y):=by
 induction a generalizing x with
 |nil=>simp only[Dp]at h;subst h;exact k
 |pr s t _ ih=>
  obtain⟨u,v,rfl,h1,h2⟩:=h
  exact⟨u,v++y,by rw[List.append_assoc],h1,ih h2⟩
 |int _=>exact⟨x,y,rfl,h,k⟩
 |bool=>exact⟨x,y,rfl,h,k⟩
 |str=>exact⟨x,y,rfl,h,k⟩
 |sl _ _ _=>exact⟨x,y,rfl,h,k⟩
theorem Dp.len{s:Sh}{cs:List Value}(h:Dp W s cs):cs.length=s.sz:=by
 induction s generalizing cs with
 |nil=>simp only[Dp]at h;subst h;rfl
 |pr a b iha ihb=>obtain⟨x,y,rfl,h1,h2⟩:=h;rw[List.length_append,iha h1,ihb h2];rfl
 |int _=>obtain⟨n,rfl,_⟩:=h;rfl
 |bool=>obtain⟨b,rfl⟩:=h;rfl
 |str=>obtain⟨s,rfl,_⟩:=h;rfl
 |sl _ _ _=>obtain⟨A,n,c,rows,rfl,_⟩:=h;rfl
def shpFs(P:Program)(F:TypeId→Option Sh):Nat→List Field→Option Sh
 |_,[]=>some .nil
 |o,f::r=>if f.offset=o then(F f.type).bind fun l=>if P.cellsOf f.type=l.sz then(shpFs P F (o+l.sz) r).bind fun l'=>some (l.app l')else none else none
def shp(P:Program):Nat→TypeId→Option Sh
 |0,_=>none
 |n+1,t=>match P.underlying t with
  |some (.int k)=>some (.int k)
  |some .bool=>some .bool
  |some .string=>some .str
  |some (.slice e)=>(shp P n e).bind fun s=>if P.cellsOf e=s.sz then some (.sl s s.sz (P.bytesOf e))else none
  |some (.struct fs)=>(shpFs P (shp P n) 0 fs.toList).bind fun l=>if P.cellsOf t=l.sz then some l else none
  |some (.array m e)=>(shp P n e).bind fun l=>if P.cellsOf e=l.sz then if P.cellsOf t=m*l.sz then some (Sh.rep m l)else none else none
  |_=>none
theorem shpFs_ok{F:TypeId→Option Sh}{cs:List Value}(hF:∀t l ws,F t=some l→(∃n x,DataW.trod enc P W base spare held n t ws=some x∧∀k∈x.1.weights P t,k≤reachBytes)→Dp W l ws)(fs:List Field):
  ∀(o:Nat)(l:Sh),shpFs P F o fs=some l→cs.length=o+l.sz→(∀f∈fs,∃n x,DataW.trod enc P W base spare held n f.type ((cs.drop f.offset).take (P.cellsOf f.type))=some x∧∀k∈x.1.weights P f.type,k≤reachBytes)→Dp W l (cs.drop o):=by
 induction fs with
 |nil=>
  intro o l h hl _
  simp only[shpFs,Option.some.injEq]at h
  subst h
  rw[List.drop_of_length_le (by simp[Sh.sz]at hl;omega)]
  rfl
 |cons f r ih=>
  intro o l h hl ht
  simp only[shpFs]at h
  split at h
  ·rename_i ho
   subst ho
   cases h1:F f.type with
   |none=>rw[h1]at h;simp at h
   |some l1=>
    rw[h1]at h
    simp only[Option.bind_some]at h
    split at h
    ·rename_i hc
     cases h2:shpFs P F (f.offset+l1.sz) r with
     |none=>rw[h2]at h;simp at h
     |some l2=>
      rw[h2]at h
      simp only[Option.bind_some,Option.some.injEq]at h
      subst h
      have a1:=hF _ _ _ h1 (ht f (by simp))
      have a2:=ih _ _ h2 (by rw[hl,Sh.app_sz];omega) (fun g hg=>ht g (by simp[hg]))
      have:=a1.app a2
      rw[hc,←List.drop_drop,List.take_append_drop]at this
      exact this
    ·simp at h
  ·simp at h
theorem shp_arr{l:Sh}(m:Nat):∀(cs:List Value),cs.length=m*l.sz→(∀i,i<m→Dp W l ((cs.drop (i*l.sz)).take l.sz))→Dp W (Sh.rep m l) cs:=by
 induction m with
 |zero=>
  intro cs h _
  have:cs=[]:=List.eq_nil_of_length_eq_zero (by omega)
  subst this;rfl
 |succ m ih=>
  intro cs h ha
  have h0:=ha 0 (by omega)
  rw[Nat.zero_mul,List.drop_zero]at h0
  have h1:=ih (cs.drop l.sz) (by rw[List.length_drop,h,Nat.succ_mul];omega) (fun i hi=>by
   have:=ha (i+1) (by omega)
   rw[List.drop_drop]
   have e:l.sz+i*l.sz=(i+1)*l.sz:=by rw[Nat.succ_mul];omega
   rw[e];exact this)
  have:=h0.app h1
  rwa[List.take_append_drop]at this
theorem weights_all{e:TypeId}:∀{ds:List (DataW H)}{d:DataW H},d∈ds→∀k∈d.weights P e,k∈DataW.weightsAll P e ds
 |d0::r,d,h,k,hk=>by
  simp only[DataW.weightsAll,List.mem_append]
  rcases List.mem_cons.1 h with rfl|h
  ·exact .inl hk
  ·exact .inr (weights_all h k hk)
theorem shp_ok(n:Nat):∀(t:TypeId)(l:Sh)(cs:List Value),shp P n t=some l→(∃m x,DataW.trod enc P W base spare held m t cs=some x∧∀k∈x.1.weights P t,k≤reachBytes)→Dp W l cs:=by
 induction n with
 |zero=>intro t l cs h;simp[shp]at h
 |succ n ih=>
  intro t l cs h ⟨m,x,hx,hw⟩
  simp only[shp]at h
  split at h
  ·rename_i k hk
   simp only[Option.some.injEq]at h;subst h
   obtain⟨z,rfl,_,hz⟩:=DataW.trod_int hk hx
   exact⟨z,rfl,hz⟩
  ·rename_i hk
   simp only[Option.some.injEq]at h;subst h
   obtain⟨z,rfl,_⟩:=DataW.trod_bool hk hx
   exact⟨z,rfl⟩
  ·rename_i hk
   simp only[Option.some.injEq]at h;subst h
   obtain⟨z,rfl,_,hz⟩:=DataW.trod_string hk hx
   exact⟨z,rfl,hz⟩
  ·rename_i e hk
   cases h1:shp P n e with
   |none=>rw[h1]at h;simp at h
   |some s=>
    rw[h1]at h
    simp only[Option.bind_some]at h
    split at h
    ·rename_i hc
     simp only[Option.some.injEq]at h;subst h
     rcases DataW.trod_slice hk hx with⟨rfl,_⟩|⟨a,len,cap,elems,rest,m',_,rfl,rfl,_,hl,hm,hel,hget,_⟩
     ·exact⟨none,0,0,[],rfl,rfl,by omega,Nat.le_refl _,by omega,Rd.nil,by simp⟩
     ·have each:∀i,i<len→∃row,W.cells? base (a.add (i*P.cellsOf e)) (P.cellsOf e)=some row∧Dp W s row:=fun i hi=>by
       have h1':=hget i hi
       rw[List.getElem?_eq_getElem (by omega)]at h1'
       cases h2:W.cells? base (a.add (i*P.cellsOf e)) (P.cellsOf e)with
       |none=>rw[h2]at h1';simp at h1'
       |some row=>
        rw[h2]at h1'
        have h3:DataW.trod enc P W base spare held m' e row=some (elems[i]'(by omega)):=by simpa using h1'
        refine⟨row,rfl,ih e s row h1 ⟨m',_,h3,fun k hk'=>hw k ?_⟩⟩
        simp only[DataW.weights,hk,List.mem_cons,List.mem_append]
        exact .inr (.inl (weights_all (List.mem_map.2 ⟨_,List.getElem_mem _,rfl⟩) k hk'))
      refine⟨some a,len,cap,(List.range len).map fun i=>(W.cells? base (a.add (i*P.cellsOf e)) (P.cellsOf e)).getD [],rfl,by simp,?_,hl,by unfold maxLen at hm;exact hm,?_,?_⟩
      ·have h4:=hw ((elems.length+rest.length)*P.bytesOf e) (by simp[DataW.weights,hk])
       have h5:len*P.bytesOf e≤(elems.length+rest.length)*P.bytesOf e:=Nat.mul_le_mul_right _ (by omega)
       unfold reachBytes at h4
       omega
      ·have hrow:∀r∈(List.range len).map fun i=>(W.cells? base (a.add (i*P.cellsOf e)) (P.cellsOf e)).getD [],r.length=s.sz:=fun r hr=>by
        obtain⟨i,hi,rfl⟩:=List.mem_map.1 hr
        obtain⟨row,h1,h2⟩:=each i (by simpa using hi)
        rw[h1];exact h2.len
       have hcell:∀j u,((List.range len).map fun i=>(W.cells? base (a.add (i*P.cellsOf e)) (P.cellsOf e)).getD []).flatten[j]?=some u→W.cell? (a.add j)=some u:=fun j u hu=>by
        obtain⟨k,i,hk,hi,rfl,hku⟩:=flatten_get _ hrow j u hu
        have hk':k<len:=by simpa using hk
        obtain⟨row,h1,h2⟩:=each k hk'
        simp only[List.getElem_map,List.getElem_range,h1,Option.getD_some]at hku
        have:=(cells?_get h1).2 i (by omega)
        rw[add_add,hc]at this
        rw[this];exact hku
       intro hn
       have h0:=hcell 0 _ (List.getElem?_eq_getElem hn)
       have hb:a.block<W.heap.size:=by have:=cell_lt h0;rwa[block_add]at this
       exact Rd.of_add hb hcell hn
      ·intro r hr
       obtain⟨i,hi,rfl⟩:=List.mem_map.1 hr
       obtain⟨row,h1,h2⟩:=each i (by simpa using hi)
       rw[h1];exact⟨h2.len,h2⟩
    ·simp at h
  ·rename_i fs hk
   cases h1:shpFs P (shp P n) 0 fs.toList with
   |none=>rw[h1]at h;simp at h
   |some l'=>
    rw[h1]at h
    simp only[Option.bind_some]at h
    split at h
    ·rename_i hc
     simp only[Option.some.injEq]at h;subst h
     obtain⟨xs,n',_,rfl,hl,hlen,hf⟩:=DataW.trod_struct hk hx
     have:=shpFs_ok (F:=shp P n) (cs:=cs) (fun t l ws h1 h2=>ih t l ws h1 h2) fs.toList 0 l' h1 (by omega) (fun f hfm=>by
      obtain⟨i,hi,rfl⟩:=List.getElem_of_mem hfm
      have hi':i<fs.size:=by simpa using hi
      have h2:=hf i fs[i] (Array.getElem?_eq_getElem hi')
      rw[List.getElem?_eq_getElem (by omega)]at h2
      refine⟨n',_,by simpa using h2,fun k hk'=>hw k ?_⟩
      simp only[DataW.weights,hk]
      exact DataW.weights_mem_each (j:=i) (by simp[hi']) (by rw[List.getElem?_map,List.getElem?_eq_getElem (by omega)];rfl) k hk')
     simpa using this
    ·simp at h
  ·rename_i m' e hk
   cases h1:shp P n e with
   |none=>rw[h1]at h;simp at h
   |some l'=>
    rw[h1]at h
    simp only[Option.bind_some]at h
    split at h
    ·rename_i hc
     split at h
     ·rename_i hc2
      simp only[Option.some.injEq]at h;subst h
      obtain⟨xs,n',_,rfl,hl,hlen,hf⟩:=DataW.trod_array hk hx
      refine shp_arr m' cs (by omega) fun i hi=>?_
      have h2:=hf i hi
      rw[List.getElem?_eq_getElem (by omega),hc]at h2
      refine ih e l' _ h1 ⟨n',_,h2,fun k hk'=>hw k ?_⟩
      simp only[DataW.weights,hk]
      exact weights_all (List.mem_map.2 ⟨_,List.getElem_mem _,rfl⟩) k hk'
     ·simp at h
    ·simp at h
  ·simp at h
theorem opn{T:TypeId}{v:Value}{d:DataW H}{p:List MemPlace}{l:Sh}(n:Nat)(hl:shp P n T=some l)(hw:∀k∈d.weights P T,k≤reachBytes)(h:DataW.Trod enc P W base spare held T v d p):Dp W l v.cells.toList:=by
 obtain⟨fuel,hf⟩:=h
 exact shp_ok n T l _ hl ⟨fuel,_,hf,hw⟩
theorem opn_agg{T:TypeId}{v:Value}{d:DataW H}{p:List MemPlace}{l:Sh}{r:Reach}(n:Nat)(hs:(∃fs,P.underlying T=some (.struct fs))∨(∃m e,P.underlying T=some (.array m e)))(hl:shp P n T=some l)(hw:∀k∈d.weights P T,k≤reachBytes)(hval:Value.okWide P W r b0 T v)(h:DataW.Trod enc P W base spare held T v d p):∃vs:List Value,v= .agg vs.toArray∧Dp W l vs:=by
 have h1:=opn n hl hw h
 rcases hs with⟨fs,hs⟩|⟨m,e,hs⟩
 ·obtain⟨cs,rfl,_⟩:=okWide_struct hs hval
  exact⟨cs.toList,by simp,h1⟩
 ·simp only[Value.okWide,hs]at hval
  obtain⟨cs,rfl,_⟩:=hval
  exact⟨cs.toList,by simp,h1⟩
end
theorem gcSir0_{G H:Prop}(k:H)(s:Bx H→G:=by intro k_;(repeat(first|(refine ov2c7d_ ?_;(try clear hs a);intro a hs)|((with_reducible apply lCons);first|(refine dv hs gw_ rfl rfl da_ ?_;(try clear hs hm a);rintro _ w_ ⟨g_,rfl,-,hm⟩ a hs)|(refine stn hs rfl rfl ds_ ?_;(try clear hs hm a);rintro-w_ hm a hs))|refine sc_ ?_|((with_reducible apply lCons);first|(refine dvc hs hm gw_ rfl rfl rfl rfl rfl (pl 7 rfl) (awk16_c _) ?_;(try clear hs hm a);intro w_ hm a hs))));(first|(have m_:=hm;have s_:=hs;clear hs;(try clear hm);revert m_ s_ a)|((first|refine rexc_ hs hm ?_|refine rexl_ hs hm ?_|refine rexg_ hs hm ?_|refine rexq_ hs hm ?_);intro a hm hs;revert hm hs a));(try revert w_);(repeat revert g_);exact k_.h):G:=s ⟨k⟩
theorem gpSir1_{G H:Prop}(k:H)(s:Bx H→G:=by intro k_;(repeat(first|(refine ov2c7d_ ?_;(try clear hs a);intro a hs)|((with_reducible apply lCons);first|(refine dv hs gw_ rfl rfl da_ ?_;(try clear hs hm a);rintro _ w_ ⟨g_,rfl,-,hm⟩ a hs)|(refine stn hs rfl rfl ds_ ?_;(try clear hs hm a);rintro-w_ hm a hs))|refine sc_ ?_));have m_:=hm;have s_:=hs;clear hs;(try clear hm);revert m_ s_ a;(try revert w_);(repeat revert g_);exact k_.h):G:=s ⟨k⟩
theorem oqSir2_{G H:Prop}(k:H)(s:H→G:=by intro k;(with_reducible first|refine toL hm ?_|refine toQ ?_);first|exact oneV hs gw_ rfl rfl (by intro w hm;(first|exact kvR_|exact r_loadO hs rfl rfl tab rfl rfl rfl hm (by repeat(first|exact mH|apply mT)) (by assumption))) k|exact oneN hs rfl rfl rfl rfl rfl rfl rfl k|exact oneU hs rfl rfl rfl rfl rfl rfl k):G:=s k
theorem gpSir3_{G H:Prop}(k:H)(s:Bx H→G:=by intro k_;(repeat(first|(refine oqSir2_ ?_;(try clear hs a);intro a hs)|((with_reducible apply lCons);first|(refine dv hs gw_ rfl rfl da_ ?_;(try clear hs hm a);rintro _ w_ ⟨g_,rfl,-,hm⟩ a hs)|(refine stn hs rfl rfl ds_ ?_;(try clear hs hm a);rintro-w_ hm a hs))|((with_reducible apply qNil);(try clear hm);intro w_ hm)|refine cQ_ ?_|refine sc_ ?_));have m_:=hm;have s_:=hs;clear hs;(try clear hm);revert m_ s_ a;(try revert w_);(repeat revert g_);exact k_.h):G:=s ⟨k⟩
theorem gcSir4_{G H:Prop}(k:H)(s:Bx H→G:=by intro k_;(repeat(first|(refine oqSir2_ ?_;(try clear hs a);intro a hs)|((with_reducible apply lCons);first|(refine dv hs gw_ rfl rfl da_ ?_;(try clear hs hm a);rintro _ w_ ⟨g_,rfl,-,hm⟩ a hs)|(refine stn hs rfl rfl ds_ ?_;(try clear hs hm a);rintro-w_ hm a hs))|((with_reducible apply qNil);(try clear hm);intro w_ hm)|refine cQ_ ?_|refine sc_ ?_|((with_reducible apply lCons);first|(refine dvc hs hm gw_ rfl rfl rfl rfl rfl (pl 13 rfl) (kc _ hm.fr) ?_;(try clear hs hm a);intro w_ hm a hs)|(refine dvc hs hm gw_ rfl rfl rfl rfl rfl (pl 14 rfl) (kb _ hm.fr) ?_;(try clear hs hm a);intro w_ hm a hs)|(refine dvc hs hm gw_ rfl rfl rfl rfl rfl (pl 15 rfl) (ksm _ (zok _ _ hm (fun h hh=>by rcases List.mem_append.1 hh with hh|hh<;>(simp only[List.mem_cons,List.mem_append];simp[hh]))).1 (zok _ _ hm (fun h hh=>by rcases List.mem_append.1 hh with hh|hh<;>(simp only[List.mem_cons,List.mem_append];simp[hh]))).2) ?_;(try clear hs hm a);intro w_ hm a hs))|((with_reducible apply qCons);first|(refine qwc hs gw_ rfl rfl rfl rfl rfl (pl 13 rfl) (fun w hm=>kc _ hm.fr) ?_;(try clear hs a);intro a hs)|(refine qwc hs gw_ rfl rfl rfl rfl rfl (pl 14 rfl) (fun w hm=>kb _ hm.fr) ?_;(try clear hs a);intro a hs)|(refine qwc hs gw_ rfl rfl rfl rfl rfl (pl 15 rfl) (fun w hm=>ksm _ (zok _ _ hm (fun h hh=>by rcases List.mem_append.1 hh with hh|hh<;>(simp only[List.mem_cons,List.mem_append];simp[hh]))).1 (zok _ _ hm (fun h hh=>by rcases List.mem_append.1 hh with hh|hh<;>(simp only[List.mem_cons,List.mem_append];simp[hh]))).2) ?_;(try clear hs a);intro a hs))));(first|(have m_:=hm;have s_:=hs;clear hs;(try clear hm);revert m_ s_ a)|((first|refine rexc_ hs hm ?_|refine rexl_ hs hm ?_|refine rexg_ hs hm ?_|refine rexq_ hs hm ?_);intro a hm hs;revert hm hs a));(try revert w_);(repeat revert g_);exact k_.h):G:=s ⟨k⟩
theorem choose_listQ{α β:Type}{f:β→List α}{Q:β→Prop}:∀(rows:List (List α)),(∀r∈rows,∃x,r=f x∧Q x)→∃xs:List β,rows=xs.map f∧∀x∈xs,Q x
 |[],_=>⟨[],rfl,fun x hx=>by cases hx⟩
 |r::t,h=>by
  obtain⟨x,rfl,hx⟩:=h r (List.mem_cons_self ..)
  obtain⟨xs,rfl,hxs⟩:=choose_listQ t fun s hs=>h s (List.mem_cons_of_mem _ hs)
  exact⟨x::xs,rfl,fun y hy=>by
   rcases List.mem_cons.1 hy with rfl|hy
   ·exact hx
   ·exact hxs y hy⟩
theorem flat_ints:∀bs:List Int,bs.flatMap (fun n:Int=>[Value.int .i64 n])=ints bs
 |[]=>rfl
 |x::t=>by rw[List.flatMap_cons,flat_ints t];rfl
theorem dpq_any{W:World}{e:Sh}{sz by_:Nat}{β:Type}(f:β→List Value)(Q:β→Prop)(h1:1≤by_)(ho:∀r,Dp W e r→∃x,r=f x∧Q x){cs:List Value}(h:Dp W (.sl e sz by_) cs):∃(A:Option Addr)(c:Nat)(l:List β),cs=[.slice A l.length c]∧Rd W W.heap.size A (l.flatMap f)∧l.length≤140737488355328∧∀x∈l,Q x:=by
 obtain⟨A,n,c,rows,rfl,hl,hn,hc,hm,hr,hrow⟩:=h
 obtain⟨xs,rfl,hxs⟩:=choose_listQ (f:=f) (Q:=Q) rows fun r hr=>ho r (hrow r hr).2
 have e2:xs.length=n:=by simpa using hl
 have h2:n≤n*by_:=Nat.le_mul_of_pos_right n h1
 exact⟨A,c,xs,by rw[e2],by rw[List.flatMap_def];exact hr,by omega,hxs⟩
def shCe:Sh:= .pr (.int .u8) (.pr (.int .u16) .nil)
def shLn:Sh:= .pr (.int .i64) (.pr .bool (.pr (.sl shCe 2 4) .nil))
def shTh:Sh:= .pr (.int .i64) (.pr (.sl shCe 2 4) (.pr (.int .i64) (.pr (.int .i64) (.pr (.int .i64) (.pr (.int .i64) (.pr (.int .i64) (.pr (.int .u16) .nil)))))))
theorem dpq_cs{W:World}{cs:List Value}(h:Dp W (.sl shCe 2 4) cs):∃(A:Option Addr)(c:Nat)(l:List CV),cs=[.slice A l.length c]∧Rd W W.heap.size A (cvs l)∧l.length≤140737488355328:=by
 obtain⟨A,c,l,h1,h2,h3,-⟩:=dpq_any CV.cs (fun _=>True) (by omega) (fun r hr=>by
  obtain⟨_,_,rfl,⟨t,rfl,-⟩,_,_,rfl,⟨v,rfl,-⟩,h2⟩:=hr
  simp only[Dp]at h2
  subst h2
  exact⟨⟨t,v⟩,rfl,trivial⟩) h
 exact⟨A,c,l,h1,h2,h3⟩
section
variable {H:Type} {enc:TypeId × Value→H} {W:World} {base b0:Nat} {spare:Nat→Bool} {held:Bool} {v:Value} {d:DataW H} {p:List MemPlace} {r:Reach}
theorem opn_mach(hval:Value.okWide Tryz.prog W r b0 32 v)(hw:∀k∈d.weights Tryz.prog 32,k≤reachBytes)(h:DataW.Trod enc Tryz.prog W base spare held 32 v d p):∃y:MV,v=y.v∧y.ok W∧y.fits:=by
 obtain⟨vs,rfl,h1⟩:=opn_agg 9 (.inl ⟨_,Tryz.underlying32⟩) (l:= .pr (.sl (.int .i64) 1 8) (.pr (.int .u16) (.pr (.sl shCe 2 4) (.pr (.sl shLn 3 40) (.pr (.sl shTh 8 80) .nil))))) (by kernel_rfl) hw hval h
 obtain⟨_,_,rfl,h2,_,_,rfl,⟨key,rfl,-⟩,_,_,rfl,h3,_,_,rfl,h4,_,_,rfl,h5,h6⟩:=h1
 simp only[Dp]at h6
 subst h6
 obtain⟨bA,bc,bs,rfl,x1,x2,-⟩:=dpq_any (fun n:Int=>[Value.int .i64 n]) (fun _=>True) (by omega) (fun r hr=>by
  obtain⟨n,rfl,-⟩:=hr
  exact⟨n,rfl,trivial⟩) h2
 obtain⟨cA,cc,xs,rfl,y1,y2⟩:=dpq_cs h3
 obtain⟨lA,lc,ls,rfl,u1,u2,u3⟩:=dpq_any LnV.v (fun y=>Rd W W.heap.size y.A (cvs y.d.xs)∧y.d.xs.length≤140737488355328) (by omega) (fun r hr=>by
  obtain⟨_,_,rfl,⟨t,rfl,-⟩,_,_,rfl,⟨b,rfl⟩,_,_,rfl,hc,h2⟩:=hr
  simp only[Dp]at h2
  subst h2
  obtain⟨A,c,l,rfl,z1,z2⟩:=dpq_cs hc
  exact⟨⟨A,c,⟨t,b,l⟩⟩,rfl,z1,z2⟩) h4
 obtain⟨tA,tc,ts,rfl,t1,t2,t3⟩:=dpq_any ThV.v (fun y=>Rd W W.heap.size y.A (cvs y.d.xs)∧y.d.xs.length≤140737488355328) (by omega) (fun r hr=>by
  obtain⟨_,_,rfl,⟨a,rfl,-⟩,_,_,rfl,hc,_,_,rfl,⟨a2,rfl,-⟩,_,_,rfl,⟨a3,rfl,-⟩,_,_,rfl,⟨a4,rfl,-⟩,_,_,rfl,⟨a5,rfl,-⟩,_,_,rfl,⟨a6,rfl,-⟩,_,_,rfl,⟨a7,rfl,-⟩,h2⟩:=hr
  simp only[Dp]at h2
  subst h2
  obtain⟨A,c,l,rfl,z1,z2⟩:=dpq_cs hc
  exact⟨⟨A,c,⟨a,l,a2,a3,a4,a5,a6,a7⟩⟩,rfl,z1,z2⟩) h5
 rw[flat_ints]at x1
 exact⟨⟨bA,bc,bs,key,cA,cc,xs,lA,lc,ls,tA,tc,ts⟩,rfl,⟨x1,y1,u1,t1,fun y hy=>(u3 y hy).1,fun y hy=>(t3 y hy).1⟩,⟨x2,y2,u2,t2,fun y hy=>(u3 y hy).2,fun y hy=>(t3 y hy).2⟩⟩
end
theorem delF_sm{d:MD}(h:d.sm)(t:Int):(delF d t).sm:=by
 unfold delF
 split
 ·refine⟨h.b,h.c,h.l,?_,h.ll,?_⟩
  ·dsimp only
   split
   ·rw[List.length_set];exact h.t
   ·exact h.t
  ·dsimp only
   split
   ·next q hq=>
    intro y hy
    rcases List.mem_or_eq_of_mem_set hy with h1|h1
    ·exact h.tt y h1
    ·subst h1
     exact h.tt q (List.mem_of_getElem? hq)
   ·exact h.tt
 ·exact h
theorem delivers_c(x0:MV)(A:Option Addr)(n cc:Nat)(xs:List Int)(tt:Int)(w0:World)(hx0:x0.ok w0)(hf0:x0.fits)(hI:IsInts .i64 w0 A n cc xs):
  Ret Tryz.prog 3 [x0.v,.slice A n cc,.int .i64 tt] w0 (fun v w'=>v= .bool true∧Pu w0 w'):=by
 obtain⟨hl,hnc,hc63,hrx,hwx⟩:=hI
 have hn63:n≤9223372036854775807:=by omega
 obtain⟨j,hj,hj0,hj7⟩:∃j:Int,modF tt 7=j∧0≤j∧j<7:=⟨modF tt 7,rfl,by have:=modF_bd tt (m:=7) (by omega);omega,by have:=modF_bd tt (m:=7) (by omega);omega⟩
 have m1:=fun w=>mod_c tt 7 w (by omega) (by omega)
 rw[hj]at m1
 have kl:=fun w (h:Pu w0 w)=>light_c x0 w (hx0.pu h) hf0
 unfold MV.v at kl ⊢
 refine enterR Tryz.func3 rfl rfl rfl fun a hs hm=>?_
 refine gsb5fb_ ?_;clear hs hm a;intros;rename_i a hm hs
 obtain⟨g3,rfl⟩:=hs.pp 3
 refine st hs rfl rfl rfl (d_call hs rfl rfl rfl (pl 6 rfl) ((kl _ hm.fr))) ?_;clear hs a;rintro _ w1 ⟨b,rfl,hb,hf⟩ a hs
 replace hm:=hm.pu hf
 clear hf kl
 cases b
 ·refine gcSir0_ ?_;clear hs hm a;intros;rename_i a hm hs
  exact gRet1 hs rfl rfl ⟨rfl,hm.fr⟩
 have hsm0:=hb rfl
 refine gsb5fb_ ?_;clear hs hm a;intros;rename_i a hm hs
 refine st hs rfl rfl rfl (d_call hs rfl rfl rfl (pl 9 rfl) ((mk_c A n cc _))) ?_;clear hs a;rintro _ w2 ⟨gd,rfl,hN,hf⟩ a hs
 have hD:=Dk.start hl (hm.fr.rd' hrx) hn63 hN hf
 replace hm:=hm.gain hf hN
 clear hN hf
 simp only[List.cons_append,List.nil_append]at hm
 refine gsb5fb_ ?_;clear hs hm a;intros;rename_i a hm hs
 refine st hs rfl rfl rfl (d_call hs rfl rfl rfl (pl 8 rfl) ((handling_c gd A n cc 0 xs _ hD))) ?_;clear hs a;rintro _ w3 ⟨hb,p,y,a1,rfl,hhb,hpv,hp,yo,yv,hk1⟩ a hs
 have hk2:=hk1.perm (M':=y.hps++[dk gd A n cc a1]) List.perm_append_comm
 replace hm:=(hm.deck (R:=y.hps) hk2 rfl rep_).perm List.perm_append_comm
 clear hk1 hk2 hD hp
 simp only[List.cons_append,List.nil_append]at hm
 have xok:y.mv.ok w3:=MO.mv_ok hm (fun z hz=>by simp only[List.mem_cons];simp[hz]) yo
 have xsm:y.mv.d.sm:=by rw[MO.mv_d];exact yv.sm hpv.sz
 have x0ok:x0.ok w3:=hx0.pu hm.fr
 have r3:=hm.ro (k:=0) (n:=5) (g:=g3) mem_ (cutF_ok rfl)
 have hB:=hm.fr
 rw[←MO.mv_v]at hs
 clear hm yv yo
 generalize y.mv=x at hs xok xsm
 clear y
 unfold MV.v PV.v at hs
 have hm:=Mm.nil (fun _=>False) w3
 refine gsb5fb_ ?_;clear hs hm a;intros;rename_i a hm hs
 obtain⟨g29,rfl⟩:=hs.qq 29
 refine cLoop (X:=Nat) (fun k a w'=>k≤2∧Sl Tryz.f3.ntmps [(2,.int .i64 tt),(29,.slice (some ⟨g29,0,none⟩) 2 2),(30,.int .i64 2),(31,.int .i64 (k:Int))] a∧Mm (fun _=>False) w3 [⟨some g29,32,(x.cl (.slice x.tA x.ts.length x.tc::x0.cl [.slice x0.tA x0.ts.length x0.tc]))⟩] w') (fun k=>2-k) 0 ⟨Nat.zero_le _,(sb_ hs),hm.sub sub_⟩ ?_
 clear hs hm a
 rintro k a w' ⟨hk,hs,hm⟩
 by_cases hlt:k<2
 rotate_left
 ·obtain rfl:k=2:=by omega
  refine gcSir0_ ?_;clear hs hm a;intros;rename_i a hm hs
  exact gRet1 hs rfl rfl ⟨rfl,hB.pu hm.fr⟩
 obtain⟨q,qok,qsm,hcut⟩:∃q:MV,q.ok w3∧q.d.sm∧cutF (x.cl (.slice x.tA x.ts.length x.tc::x0.cl [.slice x0.tA x0.ts.length x0.tc])) (k*5) 5=some (q.cl [.slice q.tA q.ts.length q.tc]):=by
  rcases(by omega:k=0∨k=1)with rfl|rfl
  ·exact⟨x,xok,xsm,rfl⟩
  ·exact⟨x0,x0ok,hsm0,rfl⟩
 repeat(first|(refine gpSir1_ ?_;clear hs hm a;intros;rename_i a hm hs)|refine sc_ ?_|((with_reducible apply lCons);first|(refine dvc hs hm gw_ rfl rfl rfl rfl rfl (pl 10 rfl) (m1 _) ?_;clear hs hm a;intro w hm a hs)))
 obtain⟨g10,rfl⟩:=hs.pp 10
 obtain⟨g39,rfl⟩:=hs.qq 39
 refine cLoop (X:=Nat) (fun i a w'=>i≤6∧Sl Tryz.f3.ntmps [(2,.int .i64 tt),(10,pt g10),(29,.slice (some ⟨g29,0,none⟩) 2 2),(30,.int .i64 2),(31,.int .i64 (k:Int)),(39,.slice (some ⟨g39,0,none⟩) 6 6),(40,.int .i64 6),(41,.int .i64 (i:Int))] a∧Mm (fun _=>False) w3 [⟨some g39,3,[.int .i64 tt,.int .i64 0,.int .i64 1,.int .i64 2,.int .i64 3,.int .i64 (j-1)]⟩,⟨some g10,32,(q.cl [.slice q.tA q.ts.length q.tc])⟩,⟨some g29,32,(x.cl (.slice x.tA x.ts.length x.tc::x0.cl [.slice x0.tA x0.ts.length x0.tc]))⟩] w') (fun i=>6-i) 0 ⟨Nat.zero_le _,(sb_ hs),hm.sub sub_⟩ ?_
 clear hs hm a
 rintro i a w' ⟨hi,hs,hm⟩
 by_cases hlt2:i<6
 rotate_left
 ·obtain rfl:i=6:=by omega
  have kp:=fun w (h:Pu w3 w)=>pdep_c q w (qok.pu h) qsm
  have kr:=fun w (h:Pu w3 w)=>rdep_c q w (qok.pu h) qsm
  unfold MV.v at kp kr
  repeat(first|(refine gpSir3_ ?_;clear hs hm a;intros;rename_i a hm hs)|refine sc_ ?_|((with_reducible apply lCons);first|(refine dvc hs hm gw_ rfl rfl rfl rfl rfl (pl 16 rfl) (kp _ hm.fr) ?_;clear hs hm a;intro w hm a hs)|(refine dvc hs hm gw_ rfl rfl rfl rfl rfl (pl 17 rfl) (kr _ hm.fr) ?_;clear hs hm a;intro w hm a hs))|((with_reducible apply qCons);first|(refine qwc hs gw_ rfl rfl rfl rfl rfl (pl 16 rfl) (fun w hm=>kp _ hm.fr) ?_;clear hs a;intro a hs)|(refine qwc hs gw_ rfl rfl rfl rfl rfl (pl 17 rfl) (fun w hm=>kr _ hm.fr) ?_;clear hs a;intro a hs)))
  exact zfe81_
 obtain⟨u,hu⟩:∃u:Int,([.int .i64 tt,.int .i64 0,.int .i64 1,.int .i64 2,.int .i64 3,.int .i64 (j-1)]:List Value)[i]?=some (.int .i64 u):=by
  rcases(by omega:i=0∨i=1∨i=2∨i=3∨i=4∨i=5)with rfl|rfl|rfl|rfl|rfl|rfl<;>exact⟨_,rfl⟩
 have kd:=fun w (h:Pu w3 w)=>pdel_c q u w (qok.pu h) qsm
 have ke:=fun w (h:Pu w3 w)=>rdel_c q u w (qok.pu h) qsm
 have kc:=fun w (h:Pu w3 w)=>pcan_c q u w (qok.pu h) qsm
 have kb:=fun w (h:Pu w3 w)=>rcan_c q u w (qok.pu h) qsm
 unfold MV.v at kd ke kc kb
 refine gsb5fb_ ?_;clear hs hm a;intros;rename_i a hm hs
 refine st hs rfl rfl rfl (d_call hs rfl rfl rfl (pl 11 rfl) ((kd _ hm.fr))) ?_;clear hs a;rintro _ w5 ⟨z1,rfl,z1o,z1d,hN,hf⟩ a hs
 replace hm:=gainE hm hf hN
 clear hN hf kd
 unfold MO.v at hs
 refine gsb5fb_ ?_;clear hs hm a;intros;rename_i a hm hs
 refine st hs rfl rfl rfl (d_call hs rfl rfl rfl (pl 12 rfl) ((ke _ hm.fr))) ?_;clear hs a;rintro _ w6 ⟨z2,rfl,z2o,z2d,hN,hf⟩ a hs
 replace hm:=gainE hm hf hN
 clear hN hf ke
 unfold MO.v at hs
 refine gsb5fb_ ?_;clear hs hm a;intros;rename_i a hm hs
 have z1sm:z1.mv.d.sm:=by rw[MO.mv_d,z1d];exact delF_sm qsm u
 have ksm:=fun w (h1:z1.mv.ok w) (h2:z2.mv.ok w)=>rsm_c z1.mv z2.mv w h1 h2 (by rw[MO.mv_d,MO.mv_d,z1d,z2d]) z1sm
 rw[MO.mv_v,MO.mv_v]at ksm
 unfold MO.v at ksm
 have zok:∀(w:World)(M':List Hp),Mm (fun _=>False) w3 M' w→(∀h∈z1.hps++z2.hps,h∈M')→z1.mv.ok w∧z2.mv.ok w:=fun w M' hm hM=>⟨MO.mv_ok hm (fun h hh=>hM h (List.mem_append_left _ hh)) z1o,MO.mv_ok hm (fun h hh=>hM h (List.mem_append_right _ hh)) z2o⟩
 cases hcs:canS q.d u
 ·rw[hcs]at hs kc kb
  refine gcSir4_ ?_;clear hs hm a;intros;rename_i a hm hs
  exact⟨i+1,by omega,by omega,(sb_ hs),hm.sub (List.Sublist.cons _ ((List.Sublist.cons _ (List.sublist_append_left _ _)).trans (List.sublist_append_left _ _)))⟩
 ·rw[hcs]at hs kc kb
  refine gcSir4_ ?_;clear hs hm a;intros;rename_i w a hm hs
  exact⟨i+1,by omega,by omega,(sb_ hs),hm.sub (List.Sublist.cons _ ((List.Sublist.cons _ (List.sublist_append_left _ _)).trans (List.sublist_append_left _ _)))⟩
theorem walk_SignalDelivers(x0:MV)(A:Option Addr)(n c:Nat)(xs:List Int)(tt:Int)(w:World)(h0:x0.ok w∧x0.fits)(h:IsInts .i64 w A n c xs)(_h1:(Lit.int .i64 tt).wf=true):Calls Tryz.prog 3 #[x0.v,.slice A n c,.int .i64 tt] w (fun e w'=>e= .returned (.bool true)∧Pu w w'):=
 (delivers_c x0 A n c xs tt w h0.1 h0.2 h).law
end Go.Proofs.YtbjffoojenpmfaaGreat
