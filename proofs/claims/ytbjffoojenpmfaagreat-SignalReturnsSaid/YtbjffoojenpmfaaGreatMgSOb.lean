/- Texts put together: Eng13, Eng12, Eng22, Tac, Eng15, Eng16, Eng17, Tac3. -/
import Derived.OrdersHeld
import Derived.Deep.RegionHeld3
import Derived.Test.YtbjffoojenpmfaaGreatMgSOa
set_option maxRecDepth 20000
set_option maxHeartbeats 64000000
namespace Go.Proofs.YtbjffoojenpmfaaGreat
open Go.RowKit
section
variable (T:List (Nat × TI)) (L:List (Nat × Value))
def pkF(c y z:Operand):Option Value:=match ev L c with
 |some (.bool b)=>bif b then ev L y else ev L z
 |_=>none
def faF(t:TypeId)(x:Operand)(f:Nat):Option Value:=match ev L x with
 |some (.pointer (some ⟨g,n,none⟩))=>match tlk T t with
  |some ⟨_,_,_,.st fs⟩=>match fs[f]? with
   |some (off,ft)=>match tlk T ft with
    |some ⟨s,_,_,_⟩=>bif Nat.beq s 0 then none else some (.pointer (some ⟨g,n+off,none⟩))
    |none=>none
   |none=>none
  |_=>none
 |_=>none
def fdF(t:TypeId)(x:Operand)(f:Nat):Option Value:=match ev L x with
 |some (.agg cs)=>match tlk T t with
  |some ⟨_,_,_,.st fs⟩=>match fs[f]? with
   |some (off,ft)=>match tlk T ft with
    |some ⟨_,_,_,d⟩=>bif d.flat then cs.toList[off]? else none
    |none=>none
   |none=>none
  |_=>none
 |_=>none
def lnF(c:Call):Option Value:=match c.callee with
 | .builtin .len=>match c.args.toList with
  |[x]=>match c.argTypes.toList with
   |t::_=>match tlk T t with
    |some ⟨_,_,_,.sl _⟩=>match ev L x with
     |some (.slice _ n _)=>some (.int .i64 (n:Int))
     |_=>none
    |some ⟨_,_,_,.str⟩=>match ev L x with
     |some (.string s)=>some (.int .i64 (s.size:Int))
     |_=>none
    |_=>none
   |_=>none
  |_=>none
 |_=>none
def cvF(s t:TypeId)(x:Operand):Option Value:=match ev L x with
 |some (.int _ n)=>match tlk T s with
  |some _=>match tlk T t with
   |some ⟨_,_,_,.int k⟩=>some (.int k (k.wrap n))
   |_=>none
  |none=>none
 |_=>none
def bdF(t:TypeId)(ps:Array (Nat × Operand)):Option Value:=match tlk T t with
 |some ⟨_,_,z,.st fs⟩=>bif fs.all (fun p=>(tlk T p.2).isSome)then match evp L ps.toList with
  |some vs=>match vcF z with
   |some zs=>match fillF T fs vs zs with
    |some cs=>some (.agg cs.toArray)
    |none=>none
   |none=>none
  |none=>none else none
 |some ⟨_,_,z,.arr _ e⟩=>match tlk T e with
  |some ⟨s,_,_,_⟩=>match evp L ps.toList with
   |some vs=>match vcF z with
    |some zs=>match fillAF s vs zs with
     |some cs=>some (.agg cs.toArray)
     |none=>none
    |none=>none
   |none=>none
  |none=>none
 |_=>none
def nkF(x:Operand):Option Value:=match ev L x with
 |some (.pointer (some p))=>some (.pointer (some p))
 |some (.func (.func n) p q)=>some (.func (.func n) p q)
 |_=>none
def exF(x:Operand)(k:Nat):Option Value:=match ev L x with
 |some (.tuple vs)=>vs.toList[k]?
 |_=>none
def mfF(f:Fn)(x y:Array Operand):Option Value:=match evs L x.toList with
 |some vs=>match evs L y.toList with
  |some us=>some (.func f vs.toArray us.toArray)
  |none=>none
 |none=>none
def eqF(b:Bool)(t:TypeId)(x y:Operand):Option Value:=match ev L x with
 |some (.bool p)=>match ev L y with
  |some (.bool q)=>match tlk T t with
   |some ⟨_,_,_,.bool⟩=>bif b then some (.bool (p==q))else some (.bool (!(p==q)))
   |_=>none
  |_=>none
 |some (.string s)=>match ev L y with
  |some (.string u)=>bif b then some (.bool (s.toList==u.toList))else some (.bool (!(s.toList==u.toList)))
  |_=>none
 |some (.slice A _ _)=>match ev L y with
  |some (.slice none 0 0)=>match tlk T t with
   |some ⟨_,_,_,.sl _⟩=>bif b then some (.bool A.isNone)else some (.bool (!A.isNone))
   |_=>none
  |_=>none
 |_=>none
def valF:Op→Option Value
 | .move x=>ev L x
 | .assign x=>ev L x
 | .pick c y z=>pkF L c y z
 | .fieldAddr t x f=>faF T L t x f
 | .field t x f=>fdF T L t x f
 | .call c=>lnF T L c
 | .convert s t x=>cvF T L s t x
 | .build t ps=>bdF T L t ps
 | .nilCheck x=>nkF L x
 | .extract x k=>exF L x k
 | .makeFunc f x y=>mfF L f x y
 | .unOp .not _ x=>match ev L x with
  |some (.bool b)=>some (.bool (!b))
  |_=>none
 | .binOp .eql t x y _=>eqF T L true t x y
 | .binOp .neq t x y _=>eqF T L false t x y
 |_=>none
end
section
variable {P:Program} {T:List (Nat × TI)} {N:Nat} {L:List (Nat × Value)} {a:Act} {w w0:World} {S:Nat→Prop} {M:List Hp} {o:Oper} {x y z:Operand} {v u:Value}
theorem pk_ok(hs:Sl N L a)(ho:o.op= .pick x y z)(h:pkF L x y z=some v):RunV P a o w v:=by
 unfold pkF at h
 split at h
 ·rename_i b hb
  cases b
  ·exact r_pickF hs ho hb h
  ·exact r_pickT hs ho hb h
 ·cases h
theorem fa_ok{t:TypeId}{f:Nat}(hs:Sl N L a)(hT:TabOk P T)(ho:o.op= .fieldAddr t x f)(h:faF T L t x f=some v):RunV P a o w v:=by
 unfold faF at h
 split at h
 ·rename_i g n hx
  split at h
  ·rename_i fs ht
   split at h
   ·rename_i off ft hf
    split at h
    ·rename_i s _ _ _ hft
     cases hb:Nat.beq s 0 with
     |true=>rw[hb]at h;cases h
     |false=>
      rw[hb]at h
      obtain rfl:=Option.some.inj h
      exact r_fieldAddr hs ho hx hT ht rfl hf hft hb
    ·cases h
   ·cases h
  ·cases h
 ·cases h
theorem fd_ok{t:TypeId}{f:Nat}(hs:Sl N L a)(hT:TabOk P T)(ho:o.op= .field t x f)(h:fdF T L t x f=some v):RunV P a o w v:=by
 unfold fdF at h
 split at h
 ·rename_i cs hx
  split at h
  ·rename_i fs ht
   split at h
   ·rename_i off ft hf
    split at h
    ·rename_i s b z d hft
     cases hb:d.flat with
     |false=>rw[hb]at h;cases h
     |true=>rw[hb]at h;exact r_field (cs:=cs.toList) hs ho (by rw[hx,Array.toArray_toList]) hT ht rfl hf hft hb h
    ·cases h
   ·cases h
  ·cases h
 ·cases h
theorem arr1{α:Type}{a:Array α}{x:α}(h:a.toList=[x]):a=#[x]:=by cases a;simp_all
theorem ln_ok{c:Call}(hs:Sl N L a)(hT:TabOk P T)(ho:o.op= .call c)(h:lnF T L c=some v):RunV P a o w v:=by
 obtain⟨ce,ar,ty⟩:=c
 unfold lnF at h
 dsimp only at h
 split at h
 ·split at h
  ·rename_i x hx
   split at h
   ·rename_i t r ht
    have ht':ty[0]?=some t:=by cases ty;simp_all
    rw[arr1 hx]at ho
    split at h
    ·rename_i e htl
     split at h
     ·rename_i A n c hv
      obtain rfl:=Option.some.inj h
      exact r_len hs ho hv ht' hT htl rfl
     ·cases h
    ·rename_i htl
     split at h
     ·rename_i s hv
      obtain rfl:=Option.some.inj h
      exact r_slen hs ho hv ht' hT htl rfl
     ·cases h
    ·cases h
   ·cases h
  ·cases h
 ·cases h
theorem cv_ok{s t:TypeId}(hs:Sl N L a)(hT:TabOk P T)(ho:o.op= .convert s t x)(h:cvF T L s t x=some v):RunV P a o w v:=by
 unfold cvF at h
 split at h
 ·rename_i k n hx
  split at h
  ·rename_i i hi
   split at h
   ·rename_i k' hk
    obtain rfl:=Option.some.inj h
    exact r_conv hs ho hx hT hi hk rfl
   ·cases h
  ·cases h
 ·cases h
theorem bd_ok{t:TypeId}{ps:Array (Nat × Operand)}(hs:Sl N L a)(hT:TabOk P T)(ho:o.op= .build t ps)(h:bdF T L t ps=some v):RunV P a o w v:=by
 have ho':o.op= .build t ps.toList.toArray:=by rw[ho,Array.toArray_toList]
 unfold bdF at h
 split at h
 ·rename_i z fs ht
  cases hb:fs.all (fun p=>(tlk T p.2).isSome)with
  |false=>rw[hb]at h;cases h
  |true=>
   rw[hb,cond_true]at h
   split at h
   ·rename_i vs hv
    split at h
    ·rename_i zs hz
     split at h
     ·rename_i cs hc
      obtain rfl:=Option.some.inj h
      exact r_build hs ho' hT ht rfl hb hv hz hc
     ·cases h
    ·cases h
   ·cases h
 ·rename_i z n e ht
  split at h
  ·rename_i s _ _ _ he
   split at h
   ·rename_i vs hv
    split at h
    ·rename_i zs hz
     split at h
     ·rename_i cs hc
      obtain rfl:=Option.some.inj h
      exact r_buildA hs ho' hT ht rfl he hv hz hc
     ·cases h
    ·cases h
   ·cases h
  ·cases h
 ·cases h
theorem nk_ok(hs:Sl N L a)(ho:o.op= .nilCheck x)(h:nkF L x=some v):RunV P a o w v:=by
 unfold nkF at h
 split at h
 ·rename_i p hx
  obtain rfl:=Option.some.inj h
  exact r_nilCheck hs ho hx
 ·rename_i n p q hx
  obtain rfl:=Option.some.inj h
  exact r_nilCheckF hs ho hx rfl
 ·cases h
theorem ex_ok{k:Nat}(hs:Sl N L a)(ho:o.op= .extract x k)(h:exF L x k=some v):RunV P a o w v:=by
 unfold exF at h
 split at h
 ·rename_i vs hx
  exact r_extract (vs:=vs.toList) hs ho (by rw[hx,Array.toArray_toList]) h
 ·cases h
theorem mf_ok{f:Fn}{p q:Array Operand}(hs:Sl N L a)(ho:o.op= .makeFunc f p q)(h:mfF L f p q=some v):RunV P a o w v:=by
 unfold mfF at h
 split at h
 ·rename_i vs hx
  split at h
  ·rename_i us hy
   obtain rfl:=Option.some.inj h
   exact r_makeFunc (xs:=p.toList) (ys:=q.toList) hs (by rw[ho,Array.toArray_toList,Array.toArray_toList]) hx hy
  ·cases h
 ·cases h
theorem eqT_ok{t yt:TypeId}(hs:Sl N L a)(hT:TabOk P T)(ho:o.op= .binOp .eql t x y yt)(h:eqF T L true t x y=some v):RunV P a o w v:=by
 unfold eqF at h
 split at h
 ·rename_i p hx
  split at h
  ·rename_i q hy
   split at h
   ·rename_i ht
    obtain rfl:=Option.some.inj h
    exact r_eqlB hs ho hx hy hT ht rfl
   ·cases h
  ·cases h
 ·rename_i p hx
  split at h
  ·rename_i q hy
   obtain rfl:=Option.some.inj h
   exact r_seql hs ho hx hy
  ·cases h
 ·rename_i A n c hx
  split at h
  ·rename_i hy
   split at h
   ·rename_i e ht
    obtain rfl:=Option.some.inj h
    exact r_eqnil hs ho hx hy hT ht rfl
   ·cases h
  ·cases h
 ·cases h
theorem eqFf_ok{t yt:TypeId}(hs:Sl N L a)(hT:TabOk P T)(ho:o.op= .binOp .neq t x y yt)(h:eqF T L false t x y=some v):RunV P a o w v:=by
 unfold eqF at h
 split at h
 ·rename_i p hx
  split at h
  ·rename_i q hy
   split at h
   ·rename_i ht
    obtain rfl:=Option.some.inj h
    exact r_neqB hs ho hx hy hT ht rfl
   ·cases h
  ·cases h
 ·rename_i p hx
  split at h
  ·rename_i q hy
   obtain rfl:=Option.some.inj h
   exact r_sneq hs ho hx hy
  ·cases h
 ·rename_i A n c hx
  split at h
  ·rename_i hy
   split at h
   ·rename_i e ht
    obtain rfl:=Option.some.inj h
    exact r_neqnil hs ho hx hy hT ht rfl
   ·cases h
  ·cases h
 ·cases h
theorem r_val(hs:Sl N L a)(hT:TabOk P T)(h:valF T L o.op=some v):RunV P a o w v:=by
 cases ho:o.op<;>rw[ho]at h<;>simp only[valF]at h
 case move=>exact r_move hs ho h
 case assign=>exact r_assign hs ho h
 case pick=>exact pk_ok hs ho h
 case fieldAddr=>exact fa_ok hs hT ho h
 case field=>exact fd_ok hs hT ho h
 case call=>exact ln_ok hs hT ho h
 case convert=>exact cv_ok hs hT ho h
 case build=>exact bd_ok hs hT ho h
 case nilCheck=>exact nk_ok hs ho h
 case extract=>exact ex_ok hs ho h
 case makeFunc=>exact mf_ok hs ho h
 case unOp b t x=>
  cases b<;>simp only at h
  case not=>
   split at h
   ·rename_i b hb
    obtain rfl:=Option.some.inj h
    exact r_not hs ho hb
   ·cases h
  all_goals cases h
 case binOp b t x y yt=>
  cases b<;>simp only at h
  case eql=>exact eqT_ok hs hT ho h
  case neq=>exact eqFf_ok hs hT ho h
  all_goals cases h
 all_goals cases h
end
def kEq:IntKind→IntKind→Bool
 | .i64,.i64| .u8,.u8| .u16,.u16| .u32,.u32| .u64,.u64| .i32,.i32| .i16,.i16| .i8,.i8=>true
 |_,_=>false
theorem kEq_ok{k k':IntKind}(h:kEq k k'=true):k'=k:=by
 cases k<;>cases k'<;>first|rfl|cases h
structure Cq where
 p:Prop
 d:Decidable p
def cqF(b:BinOp)(n m:Int):Option Cq:=match b with
 | .lss=>some ⟨n<m,inferInstance⟩
 | .leq=>some ⟨n≤m,inferInstance⟩
 | .gtr=>some ⟨m<n,inferInstance⟩
 | .geq=>some ⟨m≤n,inferInstance⟩
 | .eql=>some ⟨n=m,inferInstance⟩
 | .neq=>some ⟨¬n=m,inferInstance⟩
 |_=>none
def cmpF(L:List (Nat × Value)):Op→Option Cq
 | .binOp b _ x y _=>match ev L x with
  |some (.int k n)=>match ev L y with
   |some (.int k' m)=>bif kEq k k' then cqF b n m else none
   |_=>none
  |_=>none
 |_=>none
section
variable {P:Program} {T:List (Nat × TI)} {N:Nat} {L:List (Nat × Value)} {a:Act} {w w0:World} {S:Nat→Prop} {M:List Hp} {o:Oper} {x y z:Operand} {v u:Value}
theorem cmp_one{b:BinOp}{t yt:TypeId}{k:IntKind}{n m:Int}{p:Prop}{d:Decidable p}(hs:Sl N L a)(ho:o.op= .binOp b t x y yt)(hx:ev L x=some (.int k n))(hy:ev L y=some (.int k m))
  (h:cqF b n m=some ⟨p,d⟩):RunV P a o w (.bool (@decide p d)):=by
 unfold cqF at h
 cases b<;>simp only[Option.some.injEq,Cq.mk.injEq,reduceCtorEq]at h
 case lss=>obtain⟨rfl,h⟩:=h;have:=eq_of_heq h;subst this;exact r_lss hs ho hx hy
 case leq=>obtain⟨rfl,h⟩:=h;have:=eq_of_heq h;subst this;exact r_leq hs ho hx hy
 case gtr=>obtain⟨rfl,h⟩:=h;have:=eq_of_heq h;subst this;exact r_gtr hs ho hx hy
 case geq=>obtain⟨rfl,h⟩:=h;have:=eq_of_heq h;subst this;exact r_geq hs ho hx hy
 case eql=>obtain⟨rfl,h⟩:=h;have:=eq_of_heq h;subst this;exact r_eql hs ho hx hy
 case neq=>
  obtain⟨rfl,h⟩:=h;have:=eq_of_heq h;subst this
  have h1:=r_neq (P:=P) (w:=w) hs ho hx hy
  rw[show(!decide (n=m))=decide (¬n=m) by simp]at h1
  exact h1
theorem cmp_ok{p:Prop}{d:Decidable p}(hs:Sl N L a)(h:cmpF L o.op=some ⟨p,d⟩):RunV P a o w (.bool (@decide p d)):=by
 cases ho:o.op<;>rw[ho]at h<;>simp only[cmpF]at h
 case binOp b t x y yt=>
  split at h
  ·rename_i k n hx
   split at h
   ·rename_i k' m hy
    cases hk:kEq k k' with
    |false=>rw[hk]at h;cases h
    |true=>
     rw[hk]at h
     have hk':=kEq_ok hk
     subst hk'
     exact cmp_one hs ho hx hy h
   ·cases h
  ·cases h
 all_goals cases h
theorem r_cT{p:Prop}{d:Decidable p}(hs:Sl N L a)(h:cmpF L o.op=some ⟨p,d⟩)(hp:p):RunV P a o w (.bool true):=by
 have h1:=cmp_ok (P:=P) (w:=w) hs h
 rwa[decide_eq_true hp]at h1
theorem r_cF{p:Prop}{d:Decidable p}(hs:Sl N L a)(h:cmpF L o.op=some ⟨p,d⟩)(hp:¬p):RunV P a o w (.bool false):=by
 have h1:=cmp_ok (P:=P) (w:=w) hs h
 rwa[decide_eq_false hp]at h1
end
def arF(L:List (Nat × Value)):Op→Option Int
 | .binOp b _ x y _=>match ev L x with
  |some (.int .i64 n)=>match ev L y with
   |some (.int .i64 m)=>match b with
    | .add=>some (n+m)
    | .sub=>some (n-m)
    | .mul=>some (n*m)
    |_=>none
   |_=>none
  |_=>none
 |_=>none
def biF'(b:BinOp)(k:IntKind)(n m:Int):Option Value:=match b with
 | .lss=>some (.bool (decide (n<m)))
 | .leq=>some (.bool (decide (n≤m)))
 | .gtr=>some (.bool (decide (m<n)))
 | .geq=>some (.bool (decide (m≤n)))
 | .eql=>some (.bool (decide (n=m)))
 | .neq=>some (.bool (!decide (n=m)))
 | .add=>some (.int k (k.wrap (n+m)))
 | .sub=>some (.int k (k.wrap (n-m)))
 | .mul=>some (.int k (k.wrap (n*m)))
 | .and=>some (.int k (bits .and k n m))
 | .or=>some (.int k (bits .or k n m))
 | .xor=>some (.int k (bits .xor k n m))
 |_=>none
def biF(L:List (Nat × Value)):Op→Option Value
 | .binOp b _ x y _=>match ev L x with
  |some (.int k n)=>match ev L y with
   |some (.int k' m)=>bif kEq k k' then biF' b k n m else none
   |_=>none
  |_=>none
 |_=>none
section
variable {P:Program} {T:List (Nat × TI)} {N:Nat} {L:List (Nat × Value)} {a:Act} {w w0:World} {S:Nat→Prop} {M:List Hp} {o:Oper} {x y z:Operand} {v u:Value}
theorem r_ar{e:Int}(hs:Sl N L a)(h:arF L o.op=some e)(hb:-9223372036854775808≤e∧e≤9223372036854775807):RunV P a o w (.int .i64 e):=by
 cases ho:o.op<;>rw[ho]at h<;>simp only[arF]at h
 case binOp b t x y yt=>
  split at h
  ·rename_i n hx
   split at h
   ·rename_i m hy
    cases b<;>simp only[Option.some.injEq,reduceCtorEq]at h
    case add=>subst h;exact r_add64 hs ho hx hy hb
    case sub=>subst h;exact r_sub64 hs ho hx hy hb
    case mul=>subst h;exact r_mul64 hs ho hx hy hb
   ·cases h
  ·cases h
 all_goals cases h
theorem r_arH{e:Int}{m:Nat}(hs:Sl N L a)(h:arF L o.op=some e)(he:e=(m:Int))(hb:(m:Int)≤9223372036854775807):RunV P a o w (.int .i64 (m:Int)):=by
 have:=r_ar (P:=P) (w:=w) hs h (by omega)
 rwa[he]at this
theorem bi_one{b:BinOp}{t yt:TypeId}{k:IntKind}{n m:Int}(hs:Sl N L a)(ho:o.op= .binOp b t x y yt)(hx:ev L x=some (.int k n))(hy:ev L y=some (.int k m))
  (h:biF' b k n m=some v):RunV P a o w v:=by
 unfold biF' at h
 cases b<;>simp only[Option.some.injEq,reduceCtorEq]at h
 case lss=>subst h;exact r_lss hs ho hx hy
 case leq=>subst h;exact r_leq hs ho hx hy
 case gtr=>subst h;exact r_gtr hs ho hx hy
 case geq=>subst h;exact r_geq hs ho hx hy
 case eql=>subst h;exact r_eql hs ho hx hy
 case neq=>subst h;exact r_neq hs ho hx hy
 case add=>subst h;exact r_add hs ho hx hy
 case sub=>subst h;exact r_sub hs ho hx hy
 case mul=>subst h;exact r_mul hs ho hx hy
 case and=>subst h;exact r_and hs ho hx hy
 case or=>subst h;exact r_or hs ho hx hy
 case xor=>subst h;exact r_xor hs ho hx hy
theorem r_bi(hs:Sl N L a)(h:biF L o.op=some v):RunV P a o w v:=by
 cases ho:o.op<;>rw[ho]at h<;>simp only[biF]at h
 case binOp b t x y yt=>
  split at h
  ·rename_i k n hx
   split at h
   ·rename_i k' m hy
    cases hk:kEq k k' with
    |false=>rw[hk]at h;cases h
    |true=>
     rw[hk]at h
     have hk':=kEq_ok hk
     subst hk'
     exact bi_one hs ho hx hy h
   ·cases h
  ·cases h
 all_goals cases h
end
def ixo:Nat→Nat→Nat→Option Nat
 |0,k,1=>some k
 |0,k,s=>some (k*s)
 |_,_,_=>none
def ixo'(off k:Nat):Nat→Option Nat
 |1=>some (off+k)
 |s=>some (off+k*s)
def ixF(T:List (Nat × TI))(L:List (Nat × Value)):Op→Option (Nat × Nat × Nat × Nat × Int × Nat)
 | .indexAddr t x y=>match ev L y with
  |some (.int _ i)=>match ev L x with
   |some (.slice (some ⟨g,off,none⟩) len _)=>match tlk T t with
    |some ⟨_,_,_,.sl e⟩=>match tsz T e with
     |some s=>match litN i with
      |some k=>some (g,off,k,s,i,len)
      |none=>none
     |none=>none
    |_=>none
   |some (.pointer (some ⟨g,off,none⟩))=>match tlk T t with
    |some ⟨_,_,_,.arr len e⟩=>match tsz T e with
     |some s=>match litN i with
      |some k=>some (g,off,k,s,i,len)
      |none=>none
     |none=>none
    |_=>none
   |_=>none
  |_=>none
 |_=>none
section
variable {P:Program} {T:List (Nat × TI)} {N:Nat} {L:List (Nat × Value)} {a:Act} {w w0:World} {S:Nat→Prop} {M:List Hp} {o:Oper} {x y z:Operand} {v u:Value}
theorem ix_ok{g off k s len:Nat}{i:Int}(hs:Sl N L a)(hT:TabOk P T)(h:ixF T L o.op=some (g,off,k,s,i,len))(hl:i<(len:Int)):RunV P a o w (.pointer (some ⟨g,off+k*s,none⟩)):=by
 cases ho:o.op<;>rw[ho]at h<;>simp only[ixF]at h
 case indexAddr t x y=>
  split at h
  ·rename_i kk i' hy
   split at h
   ·rename_i g' off' len' c' hx
    split at h
    ·rename_i e ht
     split at h
     ·rename_i s' hs'
      split at h
      ·rename_i k' hk
       simp only[Option.some.injEq,Prod.mk.injEq]at h
       obtain⟨rfl,rfl,rfl,rfl,rfl,rfl⟩:=h
       exact r_ixl hs ho hx hy hk hT ht rfl hs' hl
      ·cases h
     ·cases h
    ·cases h
   ·rename_i g' off' hx
    split at h
    ·rename_i len' e ht
     split at h
     ·rename_i s' hs'
      split at h
      ·rename_i k' hk
       simp only[Option.some.injEq,Prod.mk.injEq]at h
       obtain⟨rfl,rfl,rfl,rfl,rfl,rfl⟩:=h
       exact r_ixal hs ho hx hy hk hT ht rfl hs' hl
      ·cases h
     ·cases h
    ·cases h
   ·cases h
  ·cases h
 all_goals cases h
theorem r_iz{g off k s len q:Nat}{i:Int}(hs:Sl N L a)(hT:TabOk P T)(h:ixF T L o.op=some (g,off,k,s,i,len))(hq:ixo off k s=some q)(hl:i<(len:Int)):RunV P a o w (.pointer (some ⟨g,q,none⟩)):=by
 have h1:=ix_ok (P:=P) (w:=w) hs hT h hl
 unfold ixo at hq
 split at hq
 ·obtain rfl:=Option.some.inj hq
  rwa[Nat.zero_add,Nat.mul_one]at h1
 ·obtain rfl:=Option.some.inj hq
  rwa[Nat.zero_add]at h1
 ·cases hq
theorem r_iy{g off k s len q:Nat}{i:Int}(hs:Sl N L a)(hT:TabOk P T)(h:ixF T L o.op=some (g,off,k,s,i,len))(hq:ixo' off k s=some q)(hl:i<(len:Int)):RunV P a o w (.pointer (some ⟨g,q,none⟩)):=by
 have h1:=ix_ok (P:=P) (w:=w) hs hT h hl
 unfold ixo' at hq
 split at hq
 ·obtain rfl:=Option.some.inj hq
  rwa[Nat.mul_one]at h1
 ·obtain rfl:=Option.some.inj hq
  exact h1
end
theorem Ro.cl0{S:Nat→Prop}{w0 w:World}{M:List Hp}{b j:Nat}{vs:List Value}{v:Value}(h:Ro w0 b 0 vs)(hm:Mm S w0 M w)(hb:¬S b)(hv:vs[j]?=some v):w.cell? ⟨b,j,none⟩=some v:=by
 have:=Ro.cl h hm hb hv
 rwa[Nat.zero_add]at this
theorem mH{α:Type}{x:α}{l:List α}:x∈x::l:=List.mem_cons_self ..
theorem mT{α:Type}{x y:α}{l:List α}(h:x∈l):x∈y::l:=List.mem_cons_of_mem _ h
section
variable {P:Program} {T:List (Nat × TI)} {N:Nat} {L:List (Nat × Value)} {a:Act} {w w0:World} {S:Nat→Prop} {M:List Hp} {o:Oper} {x y z:Operand} {v u:Value} {ops:Array Oper} {rest:List Oper} {Q:Exit→Act→World→Prop} {Qa:Act→Prop} {K:Act→Prop}
structure One(P:Program)(ops:Array Oper)(S:Nat→Prop)(w0:World)(M:List Hp)(o:Oper)(a:Act)(K:Act→Prop):Prop where
 h:(Region.wanted o (yielded ops a.tmps)=true∧∃v,(∀w,Mm S w0 M w→RunV P a o w v)∧K (a.put o.dst v))∨(Region.wanted o (yielded ops a.tmps)=false∧K (a.put o.dst undef))
theorem toL(hm:Mm S w0 M w)(h:One P ops S w0 M o a (fun a'=>wpList P ops Q rest a' w)):wpList P ops Q (o::rest) a w:=by
 rcases h.h with⟨h1,v,h2,h3⟩|⟨h1,h3⟩
 ·unfold wpList
  rw[if_pos h1]
  exact .inl (Does.wp ((h2 w hm).does.mono fun v' w' hvw=>by rw[hvw.1,hvw.2];exact h3))
 ·unfold wpList
  rw[if_neg (by rw[h1];exact Bool.false_ne_true)]
  exact h3
theorem toQ(h:One P ops S w0 M o a (fun a'=>wpQuiet P ops (fun w'=>Mm S w0 M w') Qa rest a')):wpQuiet P ops (fun w'=>Mm S w0 M w') Qa (o::rest) a:=by
 rcases h.h with⟨h1,v,h2,h3⟩|⟨h1,h3⟩
 ·unfold wpQuiet
  rw[if_pos h1]
  exact qquiet h2 h3
 ·unfold wpQuiet
  rw[if_neg (by rw[h1];exact Bool.false_ne_true)]
  exact h3
theorem oneV{d:Nat}(hs:Sl N L a)(hg:Wnt ops N L o)(ho:o.dst=some d)(hd:Nat.blt d N=true)(h:∀w,Mm S w0 M w→RunV P a o w v)(k:∀a,Sl N ((d,v)::L) a→K a):One P ops S w0 M o a K:=
 ⟨.inl ⟨hg.yes hs,v,h,by rw[ho];exact k _ (hs.put v hd)⟩⟩
theorem oneN{d j e:Nat}{b c:Bool}(hs:Sl N L a)(hg:o.guard=some (j,b))(hj:(ops[j]?).bind (·.dst)=some e) (he:Nat.blt e N=true) (hv:lk L e=some (.bool c)) (hbc:(c==b)=false) (ho:o.dst=some d) (hd:Nat.blt d N=true) (k:∀a,Sl N ((d,undef)::L) a→K a):One P ops S w0 M o a K:=by
 refine⟨.inr ⟨?_,by rw[ho];exact k _ (hs.put undef hd)⟩⟩
 simp only[Region.wanted,hg,yielded_of hs hj he hv]
 simpa using hbc
theorem oneU{d j e:Nat}{b:Bool}(hs:Sl N L a)(hg:o.guard=some (j,b))(hj:(ops[j]?).bind (·.dst)=some e) (he:Nat.blt e N=true) (hv:lk L e=some undef) (ho:o.dst=some d) (hd:Nat.blt d N=true) (k:∀a,Sl N ((d,undef)::L) a→K a):One P ops S w0 M o a K:=by
 refine⟨.inr ⟨?_,by rw[ho];exact k _ (hs.put undef hd)⟩⟩
 simp[Region.wanted,hg,yielded_un hs hj he hv]
end
section
variable {P:Program} {T:List (Nat × TI)} {N:Nat} {L:List (Nat × Value)} {a:Act} {w w0:World} {S:Nat→Prop} {M M1:List Hp} {o:Oper} {v:Value} {K:Value→World→Prop} {Q:Exit→Act→World→Prop} {ops:Array Oper} {l:Array Bool} {S1:World→Prop} {n:Nat}
structure Drawn(P:Program)(ops:Array Oper)(Q:Exit→Act→World→Prop)(S1:World→Prop)(n:Nat)(l:Array Bool)(a:Act)(w:World):Prop where
 h:wpAnyH P .any ops (NoPanic Q) S1 n l a w
theorem cDraw{id:Nat}(M1:List Hp)(hm:Mm S w0 M w)(hf:P.follows .mixedOrders=true)(hn:ops.size=n)(k:∀w,Mm S w0 M w→Drawn P ops Q (fun w'=>Mm S w0 M1 w') n (Array.replicate n false) a w):(Code.region id ops true).wp P Q a w:=by
 refine wp_region_noPanic (wp_region_held (S:=fun w'=>Mm S w0 M1 w') hf ?_)
 rw[hn]
 exact(k _ hm.drew).h
def lget:List Oper→Nat→Option Oper
 |[],_=>none
 |x::_,0=>some x
 |_::r,n+1=>lget r n
theorem lget_eq(r:List Oper)(i:Nat):lget r i=r[i]?:=by
 induction r generalizing i with
 |nil=>rfl
 |cons x t ih=>cases i with
  |zero=>rfl
  |succ i=>simp only[lget,ih,List.getElem?_cons_succ]
theorem lget_ok{i:Nat}(h:lget ops.toList i=some o):ops[i]?=some o:=by
 rw[lget_eq]at h
 simpa using h
def takeB(ops:Array Oper)(l:Array Bool)(i:Nat):Bool:=Region.noSelect ops&&Region.free .any ops l i&&(Region.ready .any ops l).contains i
theorem hTake{d:Nat}(i:Nat)(hs:Sl N L a)(hi:lget ops.toList i=some o)(hb:takeB ops l i=true)(hg:Wnt ops N L o)(ho:o.dst=some d)(hd:Nat.blt d N=true)(h:∀w,S1 w→RunV P a o w v)(hS:S1 w)(k:∀a,Sl N ((d,v)::L) a→Drawn P ops Q S1 n (l.setIfInBounds i true) a w):Drawn P ops Q S1 (n+1) l a w:=by
 unfold takeB at hb
 simp only[Bool.and_eq_true]at hb
 refine⟨wpAnyH_take (lget_ok hi) hb.1.1 hb.1.2 hb.2 (fun _ _ _ h=>h) (.inl ⟨hg.yes hs,h⟩) hS ?_⟩
 rw[ho]
 exact(k _ (hs.put v hd)).h
theorem hDone(hr:(Region.ready .any ops l).isEmpty=true)(h:Goes Q .normal a w):Drawn P ops Q S1 n l a w:=
 ⟨wpAnyH_done (Q:=NoPanic Q) (by simpa using hr) (show NoPanic Q .normal a w from h) n⟩
structure Each(P:Program)(ops:Array Oper)(Q:Exit→Act→World→Prop)(S1:World→Prop)(n:Nat)(l:Array Bool)(a:Act)(w:World)(rs:List Nat):Prop where
 h:∀i∈rs,wpOp P ops (NoPanic Q) i (fun a' w'=>S1 w'∧wpAnyH P .any ops (NoPanic Q) S1 n (l.setIfInBounds i true) a' w') a w
theorem hEach(rs:List Nat)(hr:(Region.ready .any ops l==rs&&!rs.isEmpty)=true)(h:Each P ops Q S1 n l a w rs):Drawn P ops Q S1 (n+1) l a w:=by
 simp only[Bool.and_eq_true,beq_iff_eq,Bool.not_eq_true']at hr
 exact⟨wpAnyH_all hr.1 (fun e=>by rw[e]at hr;simp at hr) h.h⟩
theorem eNil:Each P ops Q S1 n l a w []:=⟨fun i hi=>by cases hi⟩
theorem eDo{d i:Nat}{rs:List Nat}(hs:Sl N L a)(hi:lget ops.toList i=some o)(hg:Wnt ops N L o)(ho:o.dst=some d)(hd:Nat.blt d N=true)(h:Does P a o w K)(k:∀v w',K v w'→∀a,Sl N ((d,v)::L) a→S1 w'∧Drawn P ops Q S1 n (l.setIfInBounds i true) a w')(r:Each P ops Q S1 n l a w rs):Each P ops Q S1 n l a w (i::rs):=by
 refine⟨fun j hj=>?_⟩
 rcases List.mem_cons.1 hj with rfl|hj
 ·refine wpOp_step (lget_ok hi) fun K' hK=>?_
  rw[if_pos (hg.yes hs)]
  exact Does.wp (h.mono fun v w' hk=>hK _ _ (by rw[ho];have:=k v w' hk _ (hs.put v hd);exact⟨this.1,this.2.h⟩))
 ·exact r.h j hj
theorem eDoN{i:Nat}{rs:List Nat}(hs:Sl N L a)(hi:lget ops.toList i=some o)(hg:Wnt ops N L o)(ho:o.dst=none)(h:Does P a o w K)(k:∀v w',K v w'→∀a,Sl N L a→S1 w'∧Drawn P ops Q S1 n (l.setIfInBounds i true) a w')(r:Each P ops Q S1 n l a w rs):Each P ops Q S1 n l a w (i::rs):=by
 refine⟨fun j hj=>?_⟩
 rcases List.mem_cons.1 hj with rfl|hj
 ·refine wpOp_step (lget_ok hi) fun K' hK=>?_
  rw[if_pos (hg.yes hs)]
  exact Does.wp (h.mono fun v w' hk=>hK _ _ (by rw[ho];have:=k v w' hk _ hs;exact⟨this.1,this.2.h⟩))
 ·exact r.h j hj
end
section
variable {P:Program} {ops:Array Oper} {Q:Exit→Act→World→Prop} {md:Region.Mode} {S:World→Prop}
def wpAnyB(P:Program)(md:Region.Mode)(ops:Array Oper)(Q:Exit→Act→World→Prop)(b:Nat)(S:World→Prop):Nat→Array Bool→Act→World→Prop
 |0,l,a,w=>Region.ready md ops l=[]∧Q .normal a w
 |fuel+1,l,a,w=>(Region.ready md ops l=[]→Q .normal a w)∧∀i∈Region.ready md ops l,wpOp P ops Q i (fun a' w'=>((l.setIfInBounds i true).getD b false=true∨S w')∧wpAnyB P md ops Q b S fuel (l.setIfInBounds i true) a' w') a w
theorem wpAny_of_b{b:Nat}:∀(fuel:Nat)(l:Array Bool)(a:Act)(w:World),wpAnyB P md ops Q b S fuel l a w→wpAny P md ops Q fuel l a w
 |0,_,_,_,h=>h
 |fuel+1,_,_,_,h=>⟨h.1,fun i hi=>wpOp_mono (fun a' w' h'=>wpAny_of_b fuel _ a' w' h'.2) (h.2 i hi)⟩
def waitsB(md:Region.Mode)(ops:Array Oper)(b i:Nat):Bool:=((ops[b]?).map fun o=>o.after.any fun e=>Region.binds md e&&e.on==i).getD false
theorem waitsB_not{b i j:Nat}{oj:Oper}(h:waitsB md ops b i=true)(hj:ops[j]?=some oj) (hn:∀e∈oj.after,Region.binds md e=true→e.on≠i):j≠b:=by
 rintro rfl
 unfold waitsB at h
 rw[hj,Option.map_some,Option.getD_some,Array.any_eq_true']at h
 obtain⟨e,he,h1⟩:=h
 rw[Bool.and_eq_true]at h1
 exact hn e he h1.1 (by simpa using h1.2)
theorem getD_tf{l:Array Bool}{b:Nat}(h:l.getD b true=false)(h2:l.getD b false=true):False:=by
 rw[Array.getD_eq_getD_getElem?]at h h2
 cases hl:l[b]? with
 |none=>rw[hl]at h;cases h
 |some x=>rw[hl]at h h2;dsimp only[Option.getD_some]at h h2;rw[h]at h2;cases h2
theorem wpAnyB_first{b i:Nat}{oi:Oper}{v:Value}{g:Bool}(hi:ops[i]?=some oi) (hsel:∀(j:Nat)(o:Oper) cs b,ops[j]?=some o→o.op≠ .select cs b)
  (hQ:∀c a w,Q (.panic c) (a.put oi.dst v) w→Q (.panic c) a w) (hib:i≠b) (hwt:g=true→waitsB md ops b i=true):
  ∀(fuel:Nat)(listed:Array Bool)(a:Act)(w:World),
   (∀j oj,ops[j]?=some oj→j≠i→listed.getD j true=false→(∀e∈oj.after,Region.binds md e=true→e.on≠i)→oi.apart ops oj=true)→
   i∈Region.ready md ops listed→(g=true→listed.getD b true=false)→YieldsIf P ops (fun w=>g=true→S w) oi v a→(listed.getD b false=true∨S w)→
   wpAnyB P md ops Q b S fuel (listed.setIfInBounds i true) (a.put oi.dst v) w→wpAnyB P md ops Q b S (fuel+1) listed a w:=by
 have hset:∀(l:Array Bool)(k:Nat),k≠b→∀x,(l.setIfInBounds k true).getD b x=l.getD b x:=fun l k hk x=>getD_set_ne x hk
 have hS0:∀(l:Array Bool)(w:World),(g=true→l.getD b true=false)→(l.getD b false=true∨S w)→g=true→S w:=fun l w h1 h2 hg=>h2.resolve_left fun h3=>getD_tf (h1 hg) h3
 intro fuel
 induction fuel with
 |zero=>
  intro listed a w _ hr hgb hy hS H
  refine⟨fun h=>(by rw[h]at hr;cases hr),fun j hj=>?_⟩
  by_cases hji:j=i
  ·subst hji
   exact hy.wpOp hi (hS0 _ _ hgb hS) ⟨by rw[hset _ _ hib];exact hS,H⟩
  ·have:=ready_mono hj hji
   rw[H.1]at this
   cases this
 |succ fuel ih=>
  intro listed a w hfree hr hgb hy hS H
  refine⟨fun h=>(by rw[h]at hr;cases hr),fun j hj=>?_⟩
  by_cases hji:j=i
  ·subst hji
   exact hy.wpOp hi (hS0 _ _ hgb hS) ⟨by rw[hset _ _ hib];exact hS,H⟩
  ·have h1:=H.2 j (ready_mono hj hji)
   obtain⟨hjun,oj,hoj,hall⟩:=mem_ready.1 hj
   have hnot:∀e∈oj.after,Region.binds md e=true→e.on≠i:=fun e he hb heq=>by
    have h1:=hall e he hb
    have h0:=(mem_ready.1 hr).1
    rw[heq]at h1
    rcases Nat.lt_or_ge i listed.size with h'|h'
    ·simp[h']at h0 h1;rw[h0]at h1;cases h1
    ·simp[Array.getElem?_eq_none h']at h1
   have h2:=wpOp_putIf hoj (hfree j oj hoj hji hjun hnot) (fun cs b=>hsel i oi cs b hi) (fun cs b=>hsel j oj cs b hoj) hQ hy h1
   have hfree':∀k ok,ops[k]?=some ok→k≠i→(listed.setIfInBounds j true).getD k true=false→
     (∀e∈ok.after,Region.binds md e=true→e.on≠i)→oi.apart ops ok=true:=fun k ok hk hki hun hno=>by
    refine hfree k ok hk hki ?_ hno
    by_cases hjk:j=k
    ·subst hjk;exact hjun
    ·rw[getD_set_ne true hjk]at hun;exact hun
   have hgb':g=true→(listed.setIfInBounds j true).getD b true=false:=fun hg=>by
    rw[hset _ _ (waitsB_not (hwt hg) hoj hnot)]
    exact hgb hg
   refine wpOp_mono (fun a' w' h3=>?_) h2
   have h4:(listed.setIfInBounds j true).getD b false=true∨S w':=by
    have h5:=h3.2.1
    rw[Array.setIfInBounds_comm _ _ (Ne.symm hji),hset _ _ hib]at h5
    exact h5
   refine⟨h4,ih (listed.setIfInBounds j true) a' w' hfree' (ready_mono hr (Ne.symm hji)) hgb' h3.1 h4 ?_⟩
   rw[Array.setIfInBounds_comm _ _ hji]
   exact h3.2.2
end
section
variable {P:Program} {T:List (Nat × TI)} {N:Nat} {L:List (Nat × Value)} {a:Act} {w w0:World} {S:Nat→Prop} {M M1:List Hp} {o:Oper} {v:Value} {K:Value→World→Prop} {Q:Exit→Act→World→Prop} {ops:Array Oper} {l:Array Bool} {S1:World→Prop} {n b:Nat}
structure DrawnB(P:Program)(ops:Array Oper)(Q:Exit→Act→World→Prop)(b:Nat)(S1:World→Prop)(n:Nat)(l:Array Bool)(a:Act)(w:World):Prop where
 h:wpAnyB P .any ops (NoPanic Q) b S1 n l a w
theorem cDrawB{id:Nat}(b:Nat)(M1:List Hp)(hm:Mm S w0 M w)(hf:P.follows .mixedOrders=true)(hn:ops.size=n)(k:∀w,Mm S w0 M w→DrawnB P ops Q b (fun w'=>Mm S w0 M1 w') n (Array.replicate n false) a w):(Code.region id ops true).wp P Q a w:=by
 refine wp_region_noPanic (wp_region_any hf (wpAny_of_b (b:=b) (S:=fun w'=>Mm S w0 M1 w') _ _ _ _ ?_))
 rw[hn]
 exact(k _ hm.drew).h
theorem bTake{d:Nat}(i:Nat)(g:Bool)(hs:Sl N L a)(hi:lget ops.toList i=some o)(hb:takeB ops l i=true)(hbar:(!(Nat.beq i b)&&(!g||(waitsB .any ops b i&&!(l.getD b true))))=true)(hg:Wnt ops N L o)(ho:o.dst=some d)(hd:Nat.blt d N=true)(h:∀w,(g=true→S1 w)→RunV P a o w v)(hS:l.getD b false=true∨S1 w)(k:∀a,Sl N ((d,v)::L) a→DrawnB P ops Q b S1 n (l.setIfInBounds i true) a w):DrawnB P ops Q b S1 (n+1) l a w:=by
 unfold takeB at hb
 simp only[Bool.and_eq_true]at hb
 rw[Bool.and_eq_true]at hbar
 refine⟨wpAnyB_first (g:=g) (lget_ok hi) (Region.noSelect_spec hb.1.1) (fun _ _ _ h=>h) (fun e=>?_) (fun e=>?_) n l a w (Region.free_spec (lget_ok hi) hb.1.2) (by simpa using hb.2) (fun e=>?_) (.inl ⟨hg.yes hs,h⟩) hS ?_⟩
 ·rw[e]at hbar
  simp at hbar
 ·have h2:=hbar.2
  rw[e]at h2
  simp only[Bool.not_true,Bool.false_or,Bool.and_eq_true]at h2
  exact h2.1
 ·have h2:=hbar.2
  rw[e]at h2
  simp only[Bool.not_true,Bool.false_or,Bool.and_eq_true]at h2
  simpa using h2.2
 ·rw[ho]
  exact(k _ (hs.put v hd)).h
theorem bDone(hr:(Region.ready .any ops l).isEmpty=true)(h:Goes Q .normal a w):DrawnB P ops Q b S1 n l a w:=by
 have h1:Region.ready .any ops l=[]:=by simpa using hr
 refine⟨?_⟩
 cases n with
 |zero=>exact⟨h1,h⟩
 |succ n=>exact⟨fun _=>h,by rw[h1];simp⟩
structure EachB(P:Program)(ops:Array Oper)(Q:Exit→Act→World→Prop)(b:Nat)(S1:World→Prop)(n:Nat)(l:Array Bool)(a:Act)(w:World)(rs:List Nat):Prop where
 h:∀i∈rs,wpOp P ops (NoPanic Q) i (fun a' w'=>((l.setIfInBounds i true).getD b false=true∨S1 w')∧wpAnyB P .any ops (NoPanic Q) b S1 n (l.setIfInBounds i true) a' w') a w
theorem bEach(rs:List Nat)(hr:(Region.ready .any ops l==rs&&!rs.isEmpty)=true)(h:EachB P ops Q b S1 n l a w rs):DrawnB P ops Q b S1 (n+1) l a w:=by
 simp only[Bool.and_eq_true,beq_iff_eq,Bool.not_eq_true']at hr
 refine⟨fun h0=>?_,hr.1▸h.h⟩
 have h1:=hr.2
 rw[←hr.1,h0]at h1
 simp at h1
theorem bNil:EachB P ops Q b S1 n l a w []:=⟨fun i hi=>by cases hi⟩
theorem bDo{d i:Nat}{rs:List Nat}(hs:Sl N L a)(hi:lget ops.toList i=some o)(hg:Wnt ops N L o)(ho:o.dst=some d)(hd:Nat.blt d N=true)(h:Does P a o w K)(k:∀v w',K v w'→∀a,Sl N ((d,v)::L) a→((l.setIfInBounds i true).getD b false=true∨S1 w')∧DrawnB P ops Q b S1 n (l.setIfInBounds i true) a w')(r:EachB P ops Q b S1 n l a w rs):EachB P ops Q b S1 n l a w (i::rs):=by
 refine⟨fun j hj=>?_⟩
 rcases List.mem_cons.1 hj with rfl|hj
 ·refine wpOp_step (lget_ok hi) fun K' hK=>?_
  rw[if_pos (hg.yes hs)]
  exact Does.wp (h.mono fun v w' hk=>hK _ _ (by rw[ho];have:=k v w' hk _ (hs.put v hd);exact⟨this.1,this.2.h⟩))
 ·exact r.h j hj
theorem bDoN{i:Nat}{rs:List Nat}(hs:Sl N L a)(hi:lget ops.toList i=some o)(hg:Wnt ops N L o)(ho:o.dst=none)(h:Does P a o w K)(k:∀v w',K v w'→∀a,Sl N L a→((l.setIfInBounds i true).getD b false=true∨S1 w')∧DrawnB P ops Q b S1 n (l.setIfInBounds i true) a w')(r:EachB P ops Q b S1 n l a w rs):EachB P ops Q b S1 n l a w (i::rs):=by
 refine⟨fun j hj=>?_⟩
 rcases List.mem_cons.1 hj with rfl|hj
 ·refine wpOp_step (lget_ok hi) fun K' hK=>?_
  rw[if_pos (hg.yes hs)]
  exact Does.wp (h.mono fun v w' hk=>hK _ _ (by rw[ho];have:=k v w' hk _ hs;exact⟨this.1,this.2.h⟩))
 ·exact r.h j hj
end
section
variable {P:Program} {N:Nat} {L:List (Nat × Value)} {a:Act} {w:World} {o:Oper} {v:Value} {K:Value→World→Prop} {ops:Array Oper}
theorem kv_(h:RunV P a o w v:=by first|exact r_val hs tab rfl|((with_reducible apply kLoad);first|exact r_load hs rfl rfl tab rfl rfl (by first|exact hm.cl (by repeat(first|exact mH|apply mT)) (by first|rfl|assumption)|exact Ro.cl (by assumption) hm (by first|exact(fun t=>t)|assumption) (by first|rfl|assumption)|exact Ro.cl0 (by assumption) hm (by first|exact(fun t=>t)|assumption) (by first|rfl|assumption))|exact r_loadO hs rfl rfl tab rfl rfl rfl hm (by repeat(first|exact mH|apply mT)) (by rfl)|exact r_loadA hs rfl rfl tab rfl rfl (Ro.ro (by assumption) hm (by first|exact(fun t=>t)|assumption)) rfl)|exact r_iz hs tab rfl rfl (by omega)|exact r_iy hs tab rfl rfl (by omega)|exact r_cT hs rfl (by omega)|exact r_cF hs rfl (by omega)|exact r_arH hs rfl (by assumption) (by omega)|exact r_pred hs rfl rfl rfl (by omega)|exact r_ar hs rfl (by omega)|exact r_bi hs rfl|exact r_pick hs rfl rfl rfl rfl):RunV P a o w v:=h
theorem kvR_(h:RunV P a o w v:=by first|exact r_val hs tab rfl|((with_reducible apply kLoad);first|exact r_load hs rfl rfl tab rfl rfl (by first|exact Ro.cl (by assumption) hm (by first|exact(fun t=>t)|assumption) (by first|rfl|assumption)|exact Ro.cl0 (by assumption) hm (by first|exact(fun t=>t)|assumption) (by first|rfl|assumption)|exact hm.cl (by repeat(first|exact mH|apply mT)) (by first|rfl|assumption))|exact r_loadO hs rfl rfl tab rfl rfl rfl hm (by repeat(first|exact mH|apply mT)) (by rfl)|exact r_loadA hs rfl rfl tab rfl rfl (Ro.ro (by assumption) hm (by first|exact(fun t=>t)|assumption)) rfl)|exact r_iz hs tab rfl rfl (by omega)|exact r_iy hs tab rfl rfl (by omega)|exact r_cT hs rfl (by omega)|exact r_cF hs rfl (by omega)|exact r_arH hs rfl (by assumption) (by omega)|exact r_pred hs rfl rfl rfl (by omega)|exact r_ar hs rfl (by omega)|exact r_bi hs rfl|exact r_pick hs rfl rfl rfl rfl):RunV P a o w v:=h
theorem kl_(h:RunV P a o w v:=by((with_reducible apply kLoad);first|exact r_load hs rfl rfl tab rfl rfl (by first|exact hm.cl (by repeat(first|exact mH|apply mT)) (by first|rfl|assumption)|exact Ro.cl (by assumption) hm (by first|exact(fun t=>t)|assumption) (by first|rfl|assumption)|exact Ro.cl0 (by assumption) hm (by first|exact(fun t=>t)|assumption) (by first|rfl|assumption))|exact r_loadO hs rfl rfl tab rfl rfl rfl hm (by repeat(first|exact mH|apply mT)) (by rfl)|exact r_loadA hs rfl rfl tab rfl rfl (Ro.ro (by assumption) hm (by first|exact(fun t=>t)|assumption)) rfl)):RunV P a o w v:=h
theorem klR_(h:RunV P a o w v:=by((with_reducible apply kLoad);first|exact r_load hs rfl rfl tab rfl rfl (by first|exact Ro.cl (by assumption) hm (by first|exact(fun t=>t)|assumption) (by first|rfl|assumption)|exact Ro.cl0 (by assumption) hm (by first|exact(fun t=>t)|assumption) (by first|rfl|assumption)|exact hm.cl (by repeat(first|exact mH|apply mT)) (by first|rfl|assumption))|exact r_loadO hs rfl rfl tab rfl rfl rfl hm (by repeat(first|exact mH|apply mT)) (by rfl)|exact r_loadA hs rfl rfl tab rfl rfl (Ro.ro (by assumption) hm (by first|exact(fun t=>t)|assumption)) rfl)):RunV P a o w v:=h
theorem gw_(h:Wnt ops N L o:=by first|exact Wnt.none rfl|exact Wnt.some rfl rfl rfl rfl):Wnt ops N L o:=h
theorem da_(h:Does P a o w K:=by first|exact d_alloc rfl tab rfl rfl hm|exact d_box hs rfl rfl rfl hm|exact d_buildSlice0 rfl tab rfl rfl rfl hm|exact d_buildSlice hs rfl tab rfl rfl rfl rfl rfl rfl rfl rfl rfl hm):Does P a o w K:=h
theorem ds_(h:Does P a o w K:=by first|exact d_store hs rfl rfl rfl tab rfl rfl rfl rfl hm (by repeat(first|exact Rep.head _ _ _|apply Rep.tail)) (by rfl)|exact d_store1 hs rfl rfl rfl tab rfl rfl rfl rfl hm (by repeat(first|exact Rep.head _ _ _|apply Rep.tail)) (by first|omega|assumption|(simp;omega))):Does P a o w K:=h
theorem bd_{b c:Bool}(h:b=c:=by first|rfl|assumption|exact decide_eq_true (by omega)|exact decide_eq_false (by omega)|exact ndT (by omega)|exact ndF (by omega)):b=c:=h
theorem mem_{x:Hp}{M:List Hp}(h:x∈M:=by repeat(first|exact mH|apply mT)):x∈M:=h
theorem rep_{M M':List Hp}{x y:Hp}(h:Rep M x y M':=by repeat(first|exact Rep.head _ _ _|apply Rep.tail)):Rep M x y M':=h
theorem sub_{M M':List Hp}(h:M.Sublist M':=by repeat(first|exact List.Sublist.refl _|exact List.nil_sublist _|apply List.Sublist.cons_cons|apply List.Sublist.cons)):M.Sublist M':=h
theorem ksl_(h:RunV P a o w v:=by first|exact r_sliceArr hs rfl rfl tab rfl rfl rfl|exact r_sliceArrTo hs rfl rfl rfl tab rfl rfl rfl (by omega) (by omega)|exact r_sliceTo hs rfl rfl rfl tab rfl rfl rfl (by omega) (by omega)|exact r_sliceFrom hs rfl rfl rfl tab rfl rfl rfl (by omega) (by omega)):RunV P a o w v:=h
theorem ov_{G H:Prop}(k:H)(s:H→G:=by intro k;(with_reducible refine toL hm ?_);first|exact oneV hs gw_ rfl rfl (by intro w hm;exact kv_) k|exact oneN hs rfl rfl rfl rfl rfl rfl rfl k|exact oneU hs rfl rfl rfl rfl rfl rfl k):G:=s k
theorem ovR_{G H:Prop}(k:H)(s:H→G:=by intro k;(with_reducible refine toL hm ?_);first|exact oneV hs gw_ rfl rfl (by intro w hm;exact kvR_) k|exact oneN hs rfl rfl rfl rfl rfl rfl rfl k|exact oneU hs rfl rfl rfl rfl rfl rfl k):G:=s k
theorem sc_{G H:Prop}(k:H)(s:H→G:=by first|(with_reducible first|exact lNilThen|exact lNilBlock|exact lNil|exact wp_seq|exact wp_region_lit|exact wp_block|exact cExit|exact cRet|exact cSkip|exact gThen|exact gBlock|exact eThen|exact eBlockHit|exact fun k=>eBlock rfl k|exact rThen|exact rBlock)|(intro k;(with_reducible apply cCond);first|exact cTrue hs rfl bd_ k|exact cFalse hs rfl bd_ k)):G:=s k
theorem oq_{G H:Prop}(k:H)(s:H→G:=by intro k;(with_reducible first|refine toL hm ?_|refine toQ ?_);first|exact oneV hs gw_ rfl rfl (by intro w hm;exact kv_) k|exact oneN hs rfl rfl rfl rfl rfl rfl rfl k|exact oneU hs rfl rfl rfl rfl rfl rfl k):G:=s k
theorem oqR_{G H:Prop}(k:H)(s:H→G:=by intro k;(with_reducible first|refine toL hm ?_|refine toQ ?_);first|exact oneV hs gw_ rfl rfl (by intro w hm;exact kvR_) k|exact oneN hs rfl rfl rfl rfl rfl rfl rfl k|exact oneU hs rfl rfl rfl rfl rfl rfl k):G:=s k
theorem cQ_{G H:Prop}(k:H)(s:H→G:=by intro k;(with_reducible refine cQuiet hm ?_ ?_ ?_ k);rfl;kernel_rfl;kernel_rfl):G:=s k
end
section
variable {P:Program} {N:Nat} {L:List (Nat × Value)} {a:Act} {w w0:World} {S:Nat→Prop} {M:List Hp} {o:Oper} {ops:Array Oper} {rest:List Oper} {Q:Exit→Act→World→Prop} {Qa:Act→Prop}
theorem dvc{d:Nat}{fo:Operand}{xs:List Operand}{vs:List Value}{ts:Array TypeId}{f:FuncId}{v:Value}(hs:Sl N L a)(hm:Mm S w0 M w)(hg:Wnt ops N L o)(ho':o.dst=some d)(hd:Nat.blt d N=true)(ho:o.op= .call {callee:= .value fo,args:=xs.toArray,argTypes:=ts})(hf:ev L fo=some (.func (.func f) #[] #[]))(hx:evs L xs=some vs)(hp:plain P f)(hc:Ret P f vs w (fun u w'=>u=v∧Pu w w'))(k:∀w',Mm S w0 M w'→∀a,Sl N ((d,v)::L) a→wpList P ops Q rest a w'):wpList P ops Q (o::rest) a w:=
 dv hs hg ho' hd (d_call hs ho hf hx hp hc) fun u w' ⟨hu,hf'⟩ a h=>by subst hu;exact k w' (hm.pu hf') a h
theorem qwc{d:Nat}{fo:Operand}{xs:List Operand}{vs:List Value}{ts:Array TypeId}{f:FuncId}{v:Value}(hs:Sl N L a)(hg:Wnt ops N L o)(ho':o.dst=some d)(hd:Nat.blt d N=true)(ho:o.op= .call {callee:= .value fo,args:=xs.toArray,argTypes:=ts})(hf:ev L fo=some (.func (.func f) #[] #[]))(hx:evs L xs=some vs)(hp:plain P f)(hc:∀w,Mm S w0 M w→Ret P f vs w (fun u w'=>u=v∧Pu w w'))(k:∀a,Sl N ((d,v)::L) a→wpQuiet P ops (fun w'=>Mm S w0 M w') Qa rest a):wpQuiet P ops (fun w'=>Mm S w0 M w') Qa (o::rest) a:=
 qwcall hs hg ho' hd ho hf hx hp (fun w hm=>Ret.mono (hc w hm) fun _ _ ⟨h1,h2⟩=>⟨h1,hm.pu h2⟩) k
end
theorem Row.room0(g:Nat)(s:Nat):Row (some g) 0 0 s [] []:=⟨(fun e=>by cases e),Nat.le_refl _,Nat.zero_le _,by simp,by simp,by simp⟩
theorem flat_set{α:Type}(f:α→List Value)(s:Nat)(hs:∀a,(f a).length=s)(l:List α)(k j:Nat)(x:α)(v:Value)(hk:l[k]?=some x) (hj:j<s) (y:α) (hy:f y=(f x).set j v):(l.flatMap f).set (k*s+j) v=(l.set k y).flatMap f:=by
 induction l generalizing k with
 |nil=>simp at hk
 |cons a t ih=>
  cases k with
  |zero=>
   simp at hk
   subst hk
   simp only[List.flatMap_cons,Nat.zero_mul,Nat.zero_add,List.set_cons_zero]
   rw[List.set_append_left _ _ (by rw[hs];exact hj),hy]
  |succ k=>
   simp only[List.flatMap_cons,List.set_cons_succ]
   rw[List.set_append_right _ _ (by rw[hs,Nat.succ_mul];omega),hs]
   have e:(k+1)*s+j-s=k*s+j:=by rw[Nat.succ_mul];omega
   rw[e,ih k (by simpa using hk)]
theorem New.none_(w w':World)(t:TypeId):New w w' [⟨none,t,[]⟩]:=⟨fun x hx=>(by rcases List.mem_singleton.1 hx with rfl;rfl),⟨fun x hx=>(by cases hx),trivial⟩,fun x hx g hg=>(by rcases List.mem_singleton.1 hx with rfl;cases hg)⟩
theorem Rd.none_nil{w:World}{B:Nat}{xs:List Value}(h:Rd w B none xs):xs=[]:=by
 cases xs with
 |nil=>rfl
 |cons x r=>obtain⟨b,off,e,_⟩:=h (by simp);cases e
theorem zrep_map{α:Type}(n:Nat)(f:α→List Value)(x:α):zrep n (f x)=(List.replicate n x).flatMap f:=by
 induction n with
 |zero=>rfl
 |succ n ih=>rw[zrep,ih,List.replicate_succ,List.flatMap_cons]
theorem take_set_snoc{α:Type}(l:List α)(k:Nat)(v:α)(hk:k<l.length):(l.set k v).take (k+1)=l.take k++[v]:=by
 rw[List.take_succ_eq_append_getElem (by simpa using hk),List.take_set_of_le (Nat.le_refl k)]
 simp
theorem gEnd{P:Program}{T:List (Nat × TI)}{N:Nat}{L:List (Nat × Value)}{a:Act}{w:World}{K:Value→World→Prop}{fn:Func}{rs:List ResultVar}{vs:List Value}(hT:TabOk P T)(hs:Sl N L a)(hf:fn.results=rs.toArray)(hv:AllRes T L w rs vs)(h:K (resV vs) w):Goes (bodyPost P fn (fun e w'=>∃v,e= .returned v∧K v w')) .normal a w:=retEnd hT hs hf hv ⟨_,rfl,h⟩
structure IS where
 A:Option Addr
 n:Nat
 c:Nat
 xs:List Int
def IS.v(b:IS):Value:= .slice b.A b.n b.c
def IS.ok(b:IS)(w:World):Prop:=b.xs.length=b.n∧Rd w w.heap.size b.A (ints b.xs)
section
variable {P:Program} {T:List (Nat × TI)} {N:Nat} {L:List (Nat × Value)} {a:Act} {w w0:World} {S:Nat→Prop} {M M':List Hp} {o:Oper} {x y z:Operand} {Q:Exit→Act→World→Prop}
theorem Mm.sel(hm:Mm S w0 M w)(idx:List Nat)(hn:idx.Nodup)(he:M'=idx.filterMap (fun i=>M[i]?)):Mm S w0 M' w:=by
 subst he
 have hmem:∀h∈idx.filterMap (fun i=>M[i]?),h∈M:=fun h hh=>by
  obtain⟨i,_,hi⟩:=List.mem_filterMap.1 hh
  exact List.mem_of_getElem? hi
 refine⟨fun h hh=>hm.me h (hmem h hh),hm.fr,?_,fun h hh=>hm.ow h (hmem h hh)⟩
 have hp:=apart_iff.1 hm.dj
 have hsym:∀(i j:Nat)(x y:Hp),i≠j→M[i]?=some x→M[j]?=some y→∀g,x.g=some g→y.g≠some g:=by
  intro i j x y hij hx hy g hg e
  obtain⟨hi,rfl⟩:=List.getElem?_eq_some_iff.1 hx
  obtain⟨hj,rfl⟩:=List.getElem?_eq_some_iff.1 hy
  rcases Nat.lt_or_gt_of_ne hij with h|h
  ·exact List.pairwise_iff_getElem.1 hp i j hi hj h g hg e
  ·exact List.pairwise_iff_getElem.1 hp j i hj hi h g e hg
 rw[apart_iff,List.pairwise_filterMap]
 exact List.Pairwise.imp (fun{i j} hij x hx y hy=>hsym i j x y hij hx hy) hn
theorem r_remH{t yt:TypeId}{k:IntKind}{n m:Int}{q:Nat}(hs:Sl N L a)(ho:o.op= .binOp .rem t x y yt)(hx:ev L x=some (.int k n))(hy:ev L y=some (.int k m))(he:n%m=(q:Int))(hn:0≤n)(hm:0<m):RunV P a o w (.int k (q:Int)):=by
 have:=r_rem64 (P:=P) (w:=w) hs ho hx hy hn hm
 rwa[he]at this
theorem r_shl{t yt:TypeId}{k k':IntKind}{n m:Int}(hs:Sl N L a)(ho:o.op= .binOp .shl t x y yt)(hx:ev L x=some (.int k n))(hy:ev L y=some (.int k' m))(hm:0≤m):RunV P a o w (.int k (k.wrap (n*2 ^ (min m.toNat k.bits)))):=by
 replace hx:=hs.ev hx
 replace hy:=hs.ev hy
 have h0:¬m<0:=by omega
 unfold RunV
 generalize a.eval=ρ at*
 unfold execOp
 simp[ho,go_sem,hx,hy,Op.shift,h0]
theorem r_shr{t yt:TypeId}{k k':IntKind}{n m:Int}(hs:Sl N L a)(ho:o.op= .binOp .shr t x y yt)(hx:ev L x=some (.int k n))(hy:ev L y=some (.int k' m))(hm:0≤m):RunV P a o w (.int k (n.fdiv (2 ^ (min m.toNat k.bits)))):=by
 replace hx:=hs.ev hx
 replace hy:=hs.ev hy
 have h0:¬m<0:=by omega
 unfold RunV
 generalize a.eval=ρ at*
 unfold execOp
 simp[ho,go_sem,hx,hy,Op.shift,h0]
end
theorem cMid{P:Program}{Q:Exit→Act→World→Prop}{a:Act}{w:World}{c:Code}(I:Act→World→Prop)(h:c.wp P (fun e a w=>e= .normal∧I a w) a w)(k:∀a w,I a w→Goes Q .normal a w):c.wp P Q a w:=
 wp_mono h fun e a w ⟨he,hi⟩=>by subst he;exact k a w hi
section
variable {P:Program} {T:List (Nat × TI)} {N:Nat} {L:List (Nat × Value)} {a:Act} {w w0:World} {S:Nat→Prop} {M M1:List Hp} {o:Oper} {v:Value} {K:Value→World→Prop} {Q:Exit→Act→World→Prop} {ops:Array Oper} {l:Array Bool} {S1:World→Prop} {n:Nat}
theorem hTakeN{d j e:Nat}{b c:Bool}(i:Nat)(hs:Sl N L a)(hi:lget ops.toList i=some o)(hb:takeB ops l i=true)(hg:o.guard=some (j,b))(hj:(ops[j]?).bind (·.dst)=some e) (he:Nat.blt e N=true) (hv:lk L e=some (.bool c)) (hbc:(c==b)=false) (ho:o.dst=some d) (hd:Nat.blt d N=true) (hS:S1 w) (k:∀a,Sl N ((d,undef)::L) a→Drawn P ops Q S1 n (l.setIfInBounds i true) a w):Drawn P ops Q S1 (n+1) l a w:=by
 unfold takeB at hb
 simp only[Bool.and_eq_true]at hb
 refine⟨wpAnyH_take (v:=undef) (lget_ok hi) hb.1.1 hb.1.2 hb.2 (fun _ _ _ h=>h) (.inr ⟨?_,rfl⟩) hS ?_⟩
 ·simp only[Region.wanted,hg,yielded_of hs hj he hv]
  simpa using hbc
 ·rw[ho]
  exact(k _ (hs.put undef hd)).h
end
abbrev nS:Value:= .slice none 0 0
abbrev pt(g:Nat):Value:= .pointer (some ⟨g,0,none⟩)
inductive Tr where
 |d
 |t (i:Nat) (r:Tr)
 |e (l:List (Nat × Tr))
 |x (r:Tr)
@[reducible] def Tr.s (l:List Nat) (r:Tr):Tr:=l.foldr .t r
@[reducible] def Tr.o (i:Nat) (r:Tr):Tr:= .e [(i,r)]
def Tr.nx:Tr→Bool
 | .x _=>false
 |_=>true
structure TG(r:Tr):Prop where
structure Bx(H:Prop):Prop where
 h:H
section
variable {P:Program} {N:Nat} {L:List (Nat × Value)} {a:Act} {w:World} {o:Oper} {v:Value} {K:Value→World→Prop} {Q:Exit→Act→World→Prop} {ops:Array Oper} {l:Array Bool} {S1:World→Prop} {n b:Nat}
structure OneD(P:Program)(ops:Array Oper)(Q:Exit→Act→World→Prop)(S1:World→Prop)(n:Nat)(l:Array Bool)(a:Act)(w:World)(i:Nat):Prop where
 h:wpOp P ops (NoPanic Q) i (fun a' w'=>S1 w'∧wpAnyH P .any ops (NoPanic Q) S1 n (l.setIfInBounds i true) a' w') a w
structure OneB(P:Program)(ops:Array Oper)(Q:Exit→Act→World→Prop)(b:Nat)(S1:World→Prop)(n:Nat)(l:Array Bool)(a:Act)(w:World)(i:Nat):Prop where
 h:wpOp P ops (NoPanic Q) i (fun a' w'=>((l.setIfInBounds i true).getD b false=true∨S1 w')∧wpAnyB P .any ops (NoPanic Q) b S1 n (l.setIfInBounds i true) a' w') a w
structure EacT(P:Program)(ops:Array Oper)(Q:Exit→Act→World→Prop)(S1:World→Prop)(n:Nat)(l:Array Bool)(a:Act)(w:World)(rs:List (Nat × Tr)):Prop where
 h:Each P ops Q S1 n l a w (rs.map Prod.fst)
structure EacB(P:Program)(ops:Array Oper)(Q:Exit→Act→World→Prop)(b:Nat)(S1:World→Prop)(n:Nat)(l:Array Bool)(a:Act)(w:World)(rs:List (Nat × Tr)):Prop where
 h:EachB P ops Q b S1 n l a w (rs.map Prod.fst)
theorem cDrawT{id:Nat}{S:Nat→Prop}{w0:World}{M:List Hp}(r:Tr)(M1:List Hp)(hm:Mm S w0 M w)(hf:P.follows .mixedOrders=true)(hn:ops.size=n)(k:TG r→∀w,Mm S w0 M w→Drawn P ops Q (fun w'=>Mm S w0 M1 w') n (Array.replicate n false) a w):(Code.region id ops true).wp P Q a w:=cDraw M1 hm hf hn (k ⟨⟩)
theorem cDrawTB{id:Nat}{S:Nat→Prop}{w0:World}{M:List Hp}(r:Tr)(b:Nat)(M1:List Hp)(hm:Mm S w0 M w)(hf:P.follows .mixedOrders=true)(hn:ops.size=n)(k:TG r→∀w,Mm S w0 M w→DrawnB P ops Q b (fun w'=>Mm S w0 M1 w') n (Array.replicate n false) a w):(Code.region id ops true).wp P Q a w:=cDrawB b M1 hm hf hn (k ⟨⟩)
theorem tTake{d i:Nat}{r:Tr}(_:TG (.t i r))(hs:Sl N L a)(hi:lget ops.toList i=some o)(hb:takeB ops l i=true)(hg:Wnt ops N L o)(ho:o.dst=some d)(hd:Nat.blt d N=true)(h:∀w,S1 w→RunV P a o w v)(hS:S1 w)(k:TG r→∀a,Sl N ((d,v)::L) a→Drawn P ops Q S1 n (l.setIfInBounds i true) a w):Drawn P ops Q S1 (n+1) l a w:=hTake i hs hi hb hg ho hd h hS (k ⟨⟩)
theorem tTakeN{d j e i:Nat}{b c:Bool}{r:Tr}(_:TG (.t i r))(hs:Sl N L a)(hi:lget ops.toList i=some o)(hb:takeB ops l i=true)(hg:o.guard=some (j,b))(hj:(ops[j]?).bind (·.dst)=some e) (he:Nat.blt e N=true) (hv:lk L e=some (.bool c)) (hbc:(c==b)=false) (ho:o.dst=some d) (hd:Nat.blt d N=true) (hS:S1 w) (k:TG r→∀a,Sl N ((d,undef)::L) a→Drawn P ops Q S1 n (l.setIfInBounds i true) a w):Drawn P ops Q S1 (n+1) l a w:=hTakeN i hs hi hb hg hj he hv hbc ho hd hS (k ⟨⟩)
theorem tTakeB{d i:Nat}{r:Tr}(g:Bool)(_:TG (.t i r))(hs:Sl N L a)(hi:lget ops.toList i=some o)(hb:takeB ops l i=true)(hbar:(!(Nat.beq i b)&&(!g||(waitsB .any ops b i&&!(l.getD b true))))=true)(hg:Wnt ops N L o)(ho:o.dst=some d)(hd:Nat.blt d N=true)(h:∀w,(g=true→S1 w)→RunV P a o w v)(hS:l.getD b false=true∨S1 w)(k:TG r→∀a,Sl N ((d,v)::L) a→DrawnB P ops Q b S1 n (l.setIfInBounds i true) a w):DrawnB P ops Q b S1 (n+1) l a w:=bTake i g hs hi hb hbar hg ho hd h hS (k ⟨⟩)
theorem tE{rs:List (Nat × Tr)}(_:TG (.e rs))(h:EacT P ops Q S1 n l a w rs)(hr:(Region.ready .any ops l==rs.map Prod.fst&&!(rs.map Prod.fst).isEmpty)=true:=by kernel_rfl):Drawn P ops Q S1 (n+1) l a w:=hEach _ hr h.h
theorem tEB{rs:List (Nat × Tr)}(_:TG (.e rs))(h:EacB P ops Q b S1 n l a w rs)(hr:(Region.ready .any ops l==rs.map Prod.fst&&!(rs.map Prod.fst).isEmpty)=true:=by kernel_rfl):DrawnB P ops Q b S1 (n+1) l a w:=bEach _ hr h.h
theorem tN:EacT P ops Q S1 n l a w []:=⟨eNil⟩
theorem tNB:EacB P ops Q b S1 n l a w []:=⟨bNil⟩
theorem tC{i:Nat}{r:Tr}{rs:List (Nat × Tr)}(h:TG r→OneD P ops Q S1 n l a w i)(k:EacT P ops Q S1 n l a w rs):EacT P ops Q S1 n l a w ((i,r)::rs):=⟨⟨fun j hj=>by
 rcases List.mem_cons.1 hj with rfl|hj
 ·exact(h ⟨⟩).h
 ·exact k.h.h j hj⟩⟩
theorem tCB{i:Nat}{r:Tr}{rs:List (Nat × Tr)}(h:TG r→OneB P ops Q b S1 n l a w i)(k:EacB P ops Q b S1 n l a w rs):EacB P ops Q b S1 n l a w ((i,r)::rs):=⟨⟨fun j hj=>by
 rcases List.mem_cons.1 hj with rfl|hj
 ·exact(h ⟨⟩).h
 ·exact k.h.h j hj⟩⟩
theorem tE1{i:Nat}{r:Tr}(t:TG (.e [(i,r)]))(h:TG r→OneD P ops Q S1 n l a w i)(hr:(Region.ready .any ops l== [i]&&!([i]:List Nat).isEmpty)=true:=by kernel_rfl):Drawn P ops Q S1 (n+1) l a w:=tE t (tC h tN) hr
theorem tE1B{i:Nat}{r:Tr}(t:TG (.e [(i,r)]))(h:TG r→OneB P ops Q b S1 n l a w i)(hr:(Region.ready .any ops l== [i]&&!([i]:List Nat).isEmpty)=true:=by kernel_rfl):DrawnB P ops Q b S1 (n+1) l a w:=tEB t (tCB h tNB) hr
theorem oDo{d i:Nat}(hs:Sl N L a)(hi:lget ops.toList i=some o)(hg:Wnt ops N L o)(ho:o.dst=some d)(hd:Nat.blt d N=true)(h:Does P a o w K)(k:∀v w',K v w'→∀a,Sl N ((d,v)::L) a→S1 w'∧Drawn P ops Q S1 n (l.setIfInBounds i true) a w'):OneD P ops Q S1 n l a w i:=⟨(eDo hs hi hg ho hd h k eNil).h i (List.mem_cons_self ..)⟩
theorem oDoN{i:Nat}(hs:Sl N L a)(hi:lget ops.toList i=some o)(hg:Wnt ops N L o)(ho:o.dst=none)(h:Does P a o w K)(k:∀v w',K v w'→∀a,Sl N L a→S1 w'∧Drawn P ops Q S1 n (l.setIfInBounds i true) a w'):OneD P ops Q S1 n l a w i:=⟨(eDoN hs hi hg ho h k eNil).h i (List.mem_cons_self ..)⟩
theorem oDoB{d i:Nat}(hs:Sl N L a)(hi:lget ops.toList i=some o)(hg:Wnt ops N L o)(ho:o.dst=some d)(hd:Nat.blt d N=true)(h:Does P a o w K)(k:∀v w',K v w'→∀a,Sl N ((d,v)::L) a→((l.setIfInBounds i true).getD b false=true∨S1 w')∧DrawnB P ops Q b S1 n (l.setIfInBounds i true) a w'):OneB P ops Q b S1 n l a w i:=⟨(bDo hs hi hg ho hd h k bNil).h i (List.mem_cons_self ..)⟩
theorem oDoNB{i:Nat}(hs:Sl N L a)(hi:lget ops.toList i=some o)(hg:Wnt ops N L o)(ho:o.dst=none)(h:Does P a o w K)(k:∀v w',K v w'→∀a,Sl N L a→((l.setIfInBounds i true).getD b false=true∨S1 w')∧DrawnB P ops Q b S1 n (l.setIfInBounds i true) a w'):OneB P ops Q b S1 n l a w i:=⟨(bDoN hs hi hg ho h k bNil).h i (List.mem_cons_self ..)⟩
theorem oDoV{d i:Nat}(hs:Sl N L a)(hi:lget ops.toList i=some o)(hg:Wnt ops N L o)(ho:o.dst=some d)(hd:Nat.blt d N=true)(h:RunV P a o w v)(k:∀a,Sl N ((d,v)::L) a→S1 w∧Drawn P ops Q S1 n (l.setIfInBounds i true) a w):OneD P ops Q S1 n l a w i:=
 oDo hs hi hg ho hd (RunV.does h) (by rintro _ _ ⟨rfl,rfl⟩;exact k)
theorem tX{r:Tr}(_:TG (.x r)):TG r:=⟨⟩
theorem nx_{r:Tr}{p:Prop}(_:TG r)(_:r.nx=true)(h:p):p:=h
theorem tD(_:TG .d)(h:Goes Q .normal a w)(hr:(Region.ready .any ops l).isEmpty=true:=by kernel_rfl):Drawn P ops Q S1 n l a w:=hDone hr h
theorem tDB(_:TG .d)(h:Goes Q .normal a w)(hr:(Region.ready .any ops l).isEmpty=true:=by kernel_rfl):DrawnB P ops Q b S1 n l a w:=bDone hr h
end
theorem Sl.pp{N:Nat}{L:List (Nat × Value)}{a:Act}(_hs:Sl N L a)(k:Nat){g:Nat}(_h:lk L k=some (.pointer (some ⟨g,0,none⟩)):=by exact rfl):∃g',g'=g:=⟨_,rfl⟩
theorem Sl.qq{N:Nat}{L:List (Nat × Value)}{a:Act}(_hs:Sl N L a)(k:Nat){g n c:Nat}(_h:lk L k=some (.slice (some ⟨g,0,none⟩) n c):=by exact rfl):∃g',g'=g:=⟨_,rfl⟩
theorem rexc_{P:Program}{N:Nat}{L:List (Nat × Value)}{a:Act}{S:Nat→Prop}{w0 w:World}{M:List Hp}{c:Code}{Q:Exit→Act→World→Prop}(hs:Sl N L a)(hm:Mm S w0 M w)(k:∀a,Mm S w0 M w→Sl N L a→Code.wp P c Q a w):Code.wp P c Q a w:=k a hm hs
theorem rexl_{P:Program}{N:Nat}{L:List (Nat × Value)}{a:Act}{S:Nat→Prop}{w0 w:World}{M:List Hp}{ops:Array Oper}{l:List Oper}{Q:Exit→Act→World→Prop}(hs:Sl N L a)(hm:Mm S w0 M w)(k:∀a,Mm S w0 M w→Sl N L a→wpList P ops Q l a w):wpList P ops Q l a w:=k a hm hs
theorem rexg_{N:Nat}{L:List (Nat × Value)}{a:Act}{S:Nat→Prop}{w0 w:World}{M:List Hp}{Q:Exit→Act→World→Prop}{e:Exit}(hs:Sl N L a)(hm:Mm S w0 M w)(k:∀a,Mm S w0 M w→Sl N L a→Goes Q e a w):Goes Q e a w:=k a hm hs
theorem sb_{N:Nat}{L L':List (Nat × Value)}{a:Act}(hs:Sl N L a)(h:Has L L':=by repeat(first|exact trivial|refine And.intro rfl ?_)):Sl N L' a:=hs.sub h.all
theorem bu_{b:Nat}{l:Array Bool}{p:Prop}(h:l.getD b false=true∨p:=by first|exact .inl rfl|exact .inr (hm.sub sub_)):l.getD b false=true∨p:=h
end Go.Proofs.YtbjffoojenpmfaaGreat
