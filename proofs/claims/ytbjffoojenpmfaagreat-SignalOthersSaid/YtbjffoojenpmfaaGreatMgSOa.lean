/- Texts put together: Lib, Eng, Eng2, Eng3, Eng4, Eng5, Eng6, Eng7, Eng8, Eng9, Eng10, Eng11, Eng13, Eng12, Eng22, Tac, Eng15, Eng16, Eng17, Tac3, Tac4, Tab, Sga, Eng14, Dck, Dck2, Lay, Lay2, Lay3, Lay4, Lay5, Dck3, Dck4, Dck5, Dck6, Dck7, Dck8, Dck9, Dck10, Pg0, Pg1. -/
import Derived.WalkKit
import Derived.WalkSpells
import Derived.WalkLawsBesides
import Derived.Deep.QuietTactic
import Derived.BigQuiet
import Derived.Lib.Hide
import Derived.Laws.OwnMore
import Derived.Deep.Draws
import Derived.Maps.AppendAt
import Derived.Deep.DeepFit
import Derived.OrdersHeld
import Derived.Deep.LoopGhost
import Derived.Laws.CopyRow
import Derived.Laws.BytesString
import Derived.Deep.Quiet
import Derived.Deep.RegionHeld3
import Derived.Test.YtbjffoojenpmfaaGreatRows
import Derived.Laws.StructEq
set_option maxRecDepth 20000
set_option maxHeartbeats 64000000
namespace Go.Proofs.YtbjffoojenpmfaaGreat
open Go.RowKit
def Rd(w:World)(B:Nat)(A:Option Addr)(xs:List Value):Prop:=
 0<xs.length→∃b off,A=some ⟨b,off,none⟩∧b<B∧∀j u,xs[j]?=some u→w.cell? ⟨b,off+j,none⟩=some u
section
variable {w w':World} {B B':Nat} {A:Option Addr} {xs:List Value}
theorem Rd.nil:Rd w B A []:=fun h=>absurd h (by simp)
theorem Rd.keep(h:Rd w B A xs)(hk:∀p:Addr,p.block<B→w'.cell? p=w.cell? p):Rd w' B A xs:=fun hn=>by
 obtain⟨b,off,e,hb,hc⟩:=h hn
 exact⟨b,off,e,hb,fun j u hu=>(hk _ hb).trans (hc j u hu)⟩
theorem Rd.more(h:Rd w B A xs)(hB:B≤B'):Rd w B' A xs:=fun hn=>by
 obtain⟨b,off,e,hb,hc⟩:=h hn
 exact⟨b,off,e,by omega,hc⟩
theorem add_lit(b off k:Nat):(⟨b,off,none⟩:Addr).add k=⟨b,off+k,none⟩:=by unfold Addr.add;split<;>simp_all
theorem Rd.of_add{ad:Addr}(hb:ad.block<B)(hc:∀j u,xs[j]?=some u→w.cell? (ad.add j)=some u):Rd w B (some ad) xs:=fun hn=>by
 have h0:=hc 0 _ (List.getElem?_eq_getElem hn)
 obtain⟨b,off,spot⟩:=ad
 cases spot with
 |none=>exact⟨b,off,rfl,hb,fun j u hu=>by rw[←add_lit];exact hc j u hu⟩
 |some q=>
  exfalso
  simp[Addr.add,World.cell?]at h0
  split at h0<;>simp_all
end
def Blk(w:World)(g:Nat)(t:TypeId)(cs:Array Value):Prop:=w.heap[g]?=some (.cells cs t (0,0))
section
variable {w w':World} {g:Nat} {t:TypeId} {cs:Array Value}
theorem Blk.lt(h:Blk w g t cs):g<w.heap.size:=by
 rcases Nat.lt_or_ge g w.heap.size with hlt|hge
 ·exact hlt
 ·unfold Blk at h;rw[Array.getElem?_eq_none hge]at h;cases h
theorem Blk.cell(h:Blk w g t cs)(i:Nat):w.cell? ⟨g,i,none⟩=cs[i]?:=cell_of_row w g i cs t (0,0) h
theorem Blk.new(w:World)(t:TypeId)(cs:Array Value):Blk (w.alloc (.cells cs t)) w.heap.size t cs:=heap_alloc_new w _
end
def ints(xs:List Int):List Value:=xs.map (Value.int .i64)
theorem ints_len(xs:List Int):(ints xs).length=xs.length:=by simp[ints]
section
variable {P:Program} {f:FuncId} {args:Array Value} {w:World} {n a:Nat} {v:Value}
end
theorem flat_len{α:Type}(f:α→List Value)(s:Nat)(hs:∀a,(f a).length=s)(l:List α):(l.flatMap f).length=l.length*s:=by
 induction l with
 |nil=>simp
 |cons a t ih=>simp[ih,hs,Nat.succ_mul,Nat.add_comm]
theorem flat_get{α:Type}(f:α→List Value)(s:Nat)(hs:∀a,(f a).length=s)(l:List α)(k j:Nat)(hk:k<l.length)(hj:j<s):(l.flatMap f)[k*s+j]?=(f l[k])[j]?:=by
 induction l generalizing k with
 |nil=>simp at hk
 |cons a t ih=>
  cases k with
  |zero=>rw[List.flatMap_cons,List.getElem?_append_left (by rw[hs];omega)];simp
  |succ k=>
   rw[List.flatMap_cons,List.getElem?_append_right (by rw[hs,Nat.succ_mul];omega),hs]
   have e:(k+1)*s+j-s=k*s+j:=by rw[Nat.succ_mul];omega
   rw[e,ih k (by simpa using hk)]
   simp
structure Fr(S:Nat→Prop)(w w':World):Prop where
 os:w'.os=w.os
 tape:w'.tape=w.tape
 output:w'.output=w.output
 size:w.heap.size≤w'.heap.size
 block:∀k,k<w.heap.size→¬S k→w'.heap[k]?=w.heap[k]?
abbrev Pu(w w':World):Prop:=Fr (fun _=>False) w w'
section
variable {S T:Nat→Prop} {w w' w'':World}
theorem Fr.refl(S:Nat→Prop)(w:World):Fr S w w:=⟨rfl,rfl,rfl,Nat.le_refl _,fun _ _ _=>rfl⟩
theorem Fr.then(h:Fr S w w')(k:Fr T w' w'')(hT:∀i,i<w.heap.size→T i→S i):Fr S w w'':=
 ⟨k.os.trans h.os,k.tape.trans h.tape,k.output.trans h.output,Nat.le_trans h.size k.size,fun i hi hn=>(k.block i (Nat.lt_of_lt_of_le hi h.size) (fun t=>hn (hT i hi t))).trans (h.block i hi hn)⟩
theorem Fr.pu(h:Fr S w w')(k:Pu w' w''):Fr S w w'':=h.then k fun _ _ t=>t.elim
theorem Fr.mono(h:Fr T w w')(hT:∀i,i<w.heap.size→T i→S i):Fr S w w':=(Fr.refl S w).then h hT
theorem Fr.alloc(h:Fr S w w')(o:Obj):Fr S w (w'.alloc o):=
 ⟨h.os,h.tape,h.output,Nat.le_trans h.size (by simp),fun i hi hn=>(Below.heap_alloc w' o i (Nat.lt_of_lt_of_le hi h.size)).trans (h.block i hi hn)⟩
theorem Fr.drew(h:Fr S w w'):Fr S w w'.drew:=⟨h.os,h.tape,h.output,h.size,h.block⟩
theorem Fr.below(h:Pu w w'):Below w.heap.size w w':=⟨h.os,h.tape,h.output,h.size,fun k hk=>h.block k hk (fun t=>t.elim)⟩
theorem Fr.cell(h:Fr S w w'){a:Addr}{v:Value}(hc:w.cell? a=some v)(hn:¬S a.block):w'.cell? a=some v:=by
 have hl:a.block<w.heap.size:=by
  rcases Nat.lt_or_ge a.block w.heap.size with hlt|hge
  ·exact hlt
  ·unfold World.cell? at hc;rw[Array.getElem?_eq_none hge]at hc;cases hc
 exact(World.cell?_of_block (h.block _ hl hn)).trans hc
theorem Fr.cl(h:Fr S w w'){b o:Nat}{v:Value}(hc:w.cell? ⟨b,o,none⟩=some v)(hn:¬S b):w'.cell? ⟨b,o,none⟩=some v:=h.cell hc hn
theorem Fr.blk(h:Fr S w w'){g:Nat}{t:TypeId}{cs:Array Value}(hb:Blk w g t cs)(hn:¬S g):Blk w' g t cs:=(h.block g hb.lt hn).trans hb
theorem Fr.rd(h:Fr S w w'){B:Nat}{A:Option Addr}{xs:List Value}(hr:Rd w B A xs)(hB:B≤w.heap.size)(hn:∀i,i<B→¬S i):Rd w' B A xs:=
 hr.keep fun p hp=>World.cell?_of_block (h.block _ (by omega) (hn _ hp))
theorem Fr.rd'(h:Pu w w'){A:Option Addr}{xs:List Value}(hr:Rd w w.heap.size A xs):Rd w' w'.heap.size A xs:=(h.rd hr (Nat.le_refl _) (fun _ _ t=>t)).more h.size
end
section
variable {bs:List (Nat × TypeId × Array Value)} {w w':World}
end
def lk:List (Nat × Value)→Nat→Option Value
 |[],_=>none
 |(k,v)::r,n=>bif Nat.beq k n then some v else lk r n
structure Sl(N:Nat)(L:List (Nat × Value))(a:Act):Prop where
 nd:a.defers=[]
 sz:a.tmps.size=N
 sl:∀k v,lk L k=some v→a.tmps.getD k undef=v
theorem Sl.put{N:Nat}{L:List (Nat × Value)}{a:Act}(h:Sl N L a){d:Nat}(v:Value)(hd:Nat.blt d N=true):Sl N ((d,v)::L) (a.put (some d) v):=by
 have hd':d<N:=by simpa using hd
 refine⟨h.nd,by simp[Act.put,h.sz],fun k u hk=>?_⟩
 simp only[lk]at hk
 by_cases hdk:d=k
 ·subst hdk
  simp only[Nat.beq_refl,cond_true,Option.some.injEq]at hk
  subst hk
  simp[Act.put,Array.getD_eq_getD_getElem?,h.sz,hd']
 ·have hb:Nat.beq d k=false:=by cases e:Nat.beq d k with|true=>exact absurd (Nat.eq_of_beq_eq_true e) hdk|false=>rfl
  rw[hb]at hk
  have:=h.sl k u hk
  simp only[Act.put,Array.getD_eq_getD_getElem?]at this ⊢
  rwa[Array.getElem?_setIfInBounds_ne hdk]
theorem Sl.sub{N:Nat}{L L':List (Nat × Value)}{a:Act}(h:Sl N L a)(hl:∀p∈L',lk L p.1=some p.2):Sl N L' a:=by
 refine⟨h.nd,h.sz,fun k v hk=>h.sl k v ?_⟩
 induction L' with
 |nil=>simp[lk]at hk
 |cons p r ih=>
  obtain⟨k',v'⟩:=p
  simp only[lk]at hk
  cases hb:Nat.beq k' k with
  |true=>
   rw[hb]at hk
   simp only[cond_true,Option.some.injEq]at hk
   have:k'=k:=by simpa using hb
   subst this;subst hk
   exact hl _ (List.mem_cons_self ..)
  |false=>rw[hb]at hk;exact ih (fun p hp=>hl p (List.mem_cons_of_mem _ hp)) hk
def Has(L:List (Nat × Value)):List (Nat × Value)→Prop
 |[]=>True
 |p::r=>lk L p.1=some p.2∧Has L r
theorem Has.all{L L':List (Nat × Value)}(h:Has L L'):∀p∈L',lk L p.1=some p.2:=by
 induction L' with
 |nil=>intro p hp;cases hp
 |cons q r ih=>
  intro p hp
  rcases List.mem_cons.1 hp with rfl|hp
  ·exact h.1
  ·exact ih h.2 p hp
def ev(L:List (Nat × Value)):Operand→Option Value
 | .tmp t=>lk L t
 | .const v=>some v
 | .global g=>some (.pointer (some ⟨g,0,none⟩))
 | .func f=>some (.func (.func f) #[] #[])
theorem Sl.ev{N:Nat}{L:List (Nat × Value)}{a:Act}(h:Sl N L a){x:Operand}{v:Value}(he:ev L x=some v):a.eval x=v:=by
 cases x with
 |tmp t=>exact h.sl t v he
 |const u=>exact Option.some.inj he
 |global g=>exact Option.some.inj he
 |func f=>exact Option.some.inj he
def evs(L:List (Nat × Value)):List Operand→Option (List Value)
 |[]=>some []
 |x::r=>match ev L x with
  |some v=>match evs L r with
   |some vs=>some (v::vs)
   |none=>none
  |none=>none
theorem Sl.evs{N:Nat}{L:List (Nat × Value)}{a:Act}(h:Sl N L a):∀{xs:List Operand}{vs:List Value},evs L xs=some vs→xs.map a.eval=vs
 |[],vs,he=>by simpa[Go.Proofs.YtbjffoojenpmfaaGreat.evs]using he
 |x::r,vs,he=>by
  simp only[Go.Proofs.YtbjffoojenpmfaaGreat.evs]at he
  cases hx:Go.Proofs.YtbjffoojenpmfaaGreat.ev L x with
  |none=>rw[hx]at he;cases he
  |some v=>
   rw[hx]at he
   cases hr:Go.Proofs.YtbjffoojenpmfaaGreat.evs L r with
   |none=>rw[hr]at he;cases he
   |some us=>
    rw[hr]at he
    simp only[Option.some.injEq]at he
    subst he
    simp[h.ev hx,Sl.evs h hr]
structure Hp where
 g:Option Nat
 t:TypeId
 cs:List Value
def Hp.sat(h:Hp)(w:World):Prop:=
 match h.g with
 |none=>h.cs=[]
 |some g=>Blk w g h.t h.cs.toArray
def Apart:List Hp→Prop
 |[]=>True
 |h::r=>(∀x∈r,∀g,h.g=some g→x.g≠some g)∧Apart r
structure Mm(S:Nat→Prop)(w0:World)(M:List Hp)(w:World):Prop where
 me:∀h∈M,h.sat w
 fr:Fr S w0 w
 dj:Apart M
 ow:∀h∈M,∀g,h.g=some g→w0.heap.size≤g∨S g
theorem Hp.lt{h:Hp}{w:World}(hs:h.sat w){g:Nat}(hg:h.g=some g):g<w.heap.size:=by
 unfold Hp.sat at hs
 rw[hg]at hs
 exact hs.lt
theorem Hp.sat_fr{S:Nat→Prop}{w w':World}{h:Hp}(hf:Fr S w w')(hs:h.sat w)(hn:∀g,h.g=some g→¬S g):h.sat w':=by
 unfold Hp.sat at*
 cases hg:h.g with
 |none=>rw[hg]at hs;exact hs
 |some g=>rw[hg]at hs;exact hf.blk hs (hn g hg)
section
variable {S:Nat→Prop} {w0 w w':World} {M:List Hp}
theorem Mm.nil(S:Nat→Prop)(w:World):Mm S w [] w:=⟨fun h hh=>(by cases hh),Fr.refl S w,trivial,fun h hh=>(by cases hh)⟩
theorem Mm.pu(h:Mm S w0 M w)(hf:Pu w w'):Mm S w0 M w':=
 ⟨fun x hx=>Hp.sat_fr hf (h.me x hx) (fun _ _ t=>t),h.fr.pu hf,h.dj,h.ow⟩
theorem Mm.drew(h:Mm S w0 M w):Mm S w0 M w.drew:=h.pu ((Fr.refl _ w).drew)
structure New(w w':World)(R:List Hp):Prop where
 me:∀h∈R,h.sat w'
 dj:Apart R
 fresh:∀h∈R,∀g,h.g=some g→w.heap.size≤g
theorem Apart.append{A B:List Hp}(ha:Apart A)(hb:Apart B)(hab:∀x∈A,∀y∈B,∀g,x.g=some g→y.g≠some g):Apart (A++B):=by
 induction A with
 |nil=>exact hb
 |cons x r ih=>
  refine⟨fun y hy g hg=>?_,ih ha.2 fun z hz=>hab z (List.mem_cons_of_mem _ hz)⟩
  rcases List.mem_append.1 hy with hy|hy
  ·exact ha.1 y hy g hg
  ·exact hab x (List.mem_cons_self ..) y hy g hg
theorem Apart.sub{A B:List Hp}(h:A.Sublist B)(hb:Apart B):Apart A:=by
 induction h with
 |slnil=>trivial
 |cons x _ ih=>exact ih hb.2
 |cons_cons x hs ih=>exact⟨fun y hy=>hb.1 y (hs.subset hy),ih hb.2⟩
theorem Mm.gain(h:Mm S w0 M w)(hf:Pu w w'){R:List Hp}(hn:New w w' R):Mm S w0 (R++M) w':=by
 have h1:=h.pu hf
 refine⟨fun x hx=>?_,h1.fr,hn.dj.append h.dj ?_,fun x hx g hg=>?_⟩
 ·rcases List.mem_append.1 hx with hx|hx
  ·exact hn.me x hx
  ·exact h1.me x hx
 ·intro x hx y hy g hg hg'
  have a1:=hn.fresh x hx g hg
  have a2:=Hp.lt (h.me y hy) hg'
  omega
 ·rcases List.mem_append.1 hx with hx|hx
  ·exact .inl (Nat.le_trans h.fr.size (hn.fresh x hx g hg))
  ·exact h.ow x hx g hg
theorem New.nil(w w':World):New w w' []:=⟨fun h hh=>(by cases hh),trivial,fun h hh=>(by cases hh)⟩
theorem New.alloc(w:World)(t:TypeId)(cs:List Value):New w (w.alloc (.cells cs.toArray t)) [⟨some w.heap.size,t,cs⟩]:=by
 refine⟨fun h hh=>?_,⟨fun x hx=>(by cases hx),trivial⟩,fun h hh g hg=>?_⟩
 ·rcases List.mem_singleton.1 hh with rfl;exact Blk.new w t cs.toArray
 ·rcases List.mem_singleton.1 hh with rfl;cases hg;exact Nat.le_refl _
theorem Mm.alloc(h:Mm S w0 M w)(t:TypeId)(cs:List Value):Mm S w0 (⟨some w.heap.size,t,cs⟩::M) (w.alloc (.cells cs.toArray t)):=
 h.gain ((Fr.refl _ w).alloc _) (New.alloc w t cs)
inductive Rep:List Hp→Hp→Hp→List Hp→Prop
 |head (M:List Hp) (x h:Hp):Rep (x::M) x h (h::M)
 |tail {M M':List Hp} {x h:Hp} (y:Hp) (r:Rep M x h M'):Rep (y::M) x h (y::M')
theorem Rep.mem{M M':List Hp}{x h:Hp}(r:Rep M x h M'):x∈M:=by
 induction r with
 |head=>exact List.mem_cons_self ..
 |tail y r ih=>exact List.mem_cons_of_mem _ ih
theorem Rep.mem'{M M':List Hp}{x h:Hp}(r:Rep M x h M'):∀y∈M',y=h∨y∈M:=by
 induction r with
 |head M x h=>
  intro y hy
  rcases List.mem_cons.1 hy with rfl|hy
  ·exact .inl rfl
  ·exact .inr (List.mem_cons_of_mem _ hy)
 |tail z r ih=>
  intro y hy
  rcases List.mem_cons.1 hy with rfl|hy
  ·exact .inr (List.mem_cons_self ..)
  ·exact(ih y hy).imp id (List.mem_cons_of_mem _)
theorem Rep.others{M M':List Hp}{x h:Hp}(r:Rep M x h M')(hd:Apart M):∃O:List Hp,(∀y∈M',y=h∨y∈O)∧(∀y∈O,y∈M)∧∀y∈O,∀g,x.g=some g→y.g≠some g:=by
 induction r with
 |head M x h=>exact⟨M,fun y hy=>List.mem_cons.1 hy,fun y hy=>List.mem_cons_of_mem _ hy,fun y hy g hg=>hd.1 y hy g hg⟩
 |tail z r ih=>
  obtain⟨O,h1,h2,h3⟩:=ih hd.2
  refine⟨z::O,fun y hy=>?_,fun y hy=>?_,fun y hy g hg=>?_⟩
  ·rcases List.mem_cons.1 hy with rfl|hy
   ·exact .inr (List.mem_cons_self ..)
   ·exact(h1 y hy).imp id (List.mem_cons_of_mem _)
  ·rcases List.mem_cons.1 hy with rfl|hy
   ·exact List.mem_cons_self ..
   ·exact List.mem_cons_of_mem _ (h2 y hy)
  ·rcases List.mem_cons.1 hy with rfl|hy
   ·intro e;exact hd.1 _ r.mem g e hg
   ·exact h3 y hy g hg
theorem Rep.apart{M M':List Hp}{x h:Hp}(r:Rep M x h M')(hd:Apart M)(hx:∀g,h.g=some g→x.g=some g∨∀y∈M,y.g≠some g):Apart M':=by
 induction r with
 |head M x h=>
  refine⟨fun y hy g hg=>?_,hd.2⟩
  rcases hx g hg with h1|h1
  ·exact hd.1 y hy g h1
  ·exact h1 y (List.mem_cons_of_mem _ hy)
 |tail z r ih=>
  refine⟨fun y hy g hg=>?_,ih hd.2 fun g hg=>(hx g hg).imp id fun h1 y hy=>h1 y (List.mem_cons_of_mem _ hy)⟩
  rcases r.mem' y hy with rfl|hy
  ·intro e
   rcases hx g e with h1|h1
   ·exact hd.1 _ r.mem g hg h1
   ·exact h1 z (List.mem_cons_self ..) hg
  ·exact hd.1 y hy g hg
theorem Mm.turn(h:Mm S w0 M w){x y:Hp}{M':List Hp}(r:Rep M x y M')(hf:Fr (fun k=>x.g=some k) w w')(hy:y.sat w')(hg:∀g,y.g=some g→x.g=some g∨w.heap.size≤g):Mm S w0 M' w':=by
 obtain⟨O,h1,h2,h3⟩:=r.others h.dj
 refine⟨fun z hz=>?_,h.fr.then hf fun i hi e=>?_,r.apart h.dj fun g e=>?_,fun z hz g e=>?_⟩
 ·rcases h1 z hz with rfl|hz
  ·exact hy
  ·exact Hp.sat_fr hf (h.me z (h2 z hz)) fun g hg e=>h3 z hz g e hg
 ·rcases h.ow x r.mem i e with h4|h4
  ·omega
  ·exact h4
 ·rcases hg g e with h4|h4
  ·exact .inl h4
  ·refine .inr fun z hz e'=>?_
   have:=Hp.lt (h.me z hz) e'
   omega
 ·rcases r.mem' z hz with rfl|hz
  ·rcases hg g e with h4|h4
   ·exact h.ow x r.mem g h4
   ·exact .inl (Nat.le_trans h.fr.size h4)
  ·exact h.ow z hz g e
theorem Mm.sub(h:Mm S w0 M w){M':List Hp}(hs:M'.Sublist M):Mm S w0 M' w:=
 ⟨fun x hx=>h.me x (hs.subset hx),h.fr,h.dj.sub hs,fun x hx=>h.ow x (hs.subset hx)⟩
theorem apart_iff{M:List Hp}:Apart M↔M.Pairwise (fun x y=>∀g,x.g=some g→y.g≠some g):=by
 induction M with
 |nil=>simp[Apart]
 |cons h r ih=>simp only[Apart,List.pairwise_cons,ih]
theorem Mm.perm(h:Mm S w0 M w){M':List Hp}(hp:M'.Perm M):Mm S w0 M' w:=by
 refine⟨fun x hx=>h.me x (hp.subset hx),h.fr,?_,fun x hx=>h.ow x (hp.subset hx)⟩
 rw[apart_iff]
 refine(hp.pairwise_iff ?_).2 (apart_iff.1 h.dj)
 intro x y hxy g hg hx
 exact hxy g hx hg
theorem Mm.zero(h:Mm S w0 M w)(t:TypeId):Mm S w0 (⟨Option.none,t,[]⟩::M) w:=
 ⟨fun x hx=>by
  rcases List.mem_cons.1 hx with rfl|hx
  ·rfl
  ·exact h.me x hx,h.fr,⟨fun _ _ _ hg=>(by cases hg),h.dj⟩,fun x hx g hg=>by
  rcases List.mem_cons.1 hx with rfl|hx
  ·cases hg
  ·exact h.ow x hx g hg⟩
theorem Mm.at_(h:Mm S w0 M w){g:Nat}{t:TypeId}{cs:List Value}(hm:(⟨some g,t,cs⟩:Hp)∈M)(i:Nat):w.cell? ⟨g,i,none⟩=cs[i]?:=by
 have:=Blk.cell (h.me _ hm) i
 simpa using this
theorem Mm.new{M:List Hp}(h:Mm (fun _=>False) w0 M w){R:List Hp}(hs:R.Sublist M):New w0 w R:=
 ⟨fun x hx=>h.me x (hs.subset hx),h.dj.sub hs,fun x hx g hg=>(h.ow x (hs.subset hx) g hg).resolve_right id⟩
theorem Mm.rd(h:Mm S w0 M w){g:Nat}{t:TypeId}{cs xs:List Value}(hm:(⟨some g,t,cs⟩:Hp)∈M)(hx:xs<+:cs):Rd w w.heap.size (some ⟨g,0,none⟩) xs:=fun hn=>by
 refine⟨g,0,rfl,Hp.lt (h.me _ hm) rfl,fun j u hu=>?_⟩
 rw[Nat.zero_add,h.at_ hm]
 obtain⟨t,rfl⟩:=hx
 rw[List.getElem?_append_left (by rcases Nat.lt_or_ge j xs.length with hlt|hge;exact hlt;rw[List.getElem?_eq_none hge]at hu;cases hu),hu]
end
inductive TD where
 |int (k:IntKind)|bool|str|ptr (e:TypeId)|sl (e:TypeId)|st (fs:List (Nat × TypeId))|arr (n:Nat) (e:TypeId)|fn|oth
def tdOf:TypeDesc→TD
 | .int k=> .int k
 | .bool=> .bool
 | .string=> .str
 | .pointer e=> .ptr e
 | .slice e=> .sl e
 | .struct fs=> .st (fs.toList.map fun f=>(f.offset,f.type))
 | .array n e=> .arr n e
 | .func _ _ _=> .fn
 |_=> .oth
structure TI where
 sz:Nat
 by_:Nat
 z:Value
 d:TD
def TOk(P:Program)(t:TypeId)(x:TI):Prop:=
 (P.info? t).map (fun i=>(i.zero,i.size,i.bytes))=some (some x.z,x.sz,x.by_)∧(P.underlying t).map tdOf=some x.d
def tlk:List (Nat × TI)→Nat→Option TI
 |[],_=>none
 |(k,v)::r,n=>bif Nat.beq k n then some v else tlk r n
def TabOk(P:Program)(T:List (Nat × TI)):Prop:=∀t x,tlk T t=some x→TOk P t x
theorem tabOk{P:Program}:∀{T:List (Nat × TI)},(∀p∈T,TOk P p.1 p.2)→TabOk P T
 |[],_=>fun t x h=>by cases h
 |(k,v)::r,hT=>fun t x h=>by
  simp only[tlk]at h
  cases hb:Nat.beq k t with
  |true=>
   rw[hb]at h
   simp only[cond_true,Option.some.injEq]at h
   have:k=t:=by simpa using hb
   subst this;subst h
   exact hT (k,v) (List.mem_cons_self ..)
  |false=>rw[hb]at h;exact tabOk (fun p hp=>hT p (List.mem_cons_of_mem _ hp)) t x h
def RunV(P:Program)(a:Act)(o:Oper)(w:World)(v:Value):Prop:=(execOp a.eval o).run P w= .ok (.value v) w
theorem beq_dec(n m:Int):(n==m)=decide (n=m):=by
 by_cases h:n=m<;>simp[h]
theorem run_und{P:Program}{t:TypeId}{d:TypeDesc}{w:World}(h:P.underlying t=some d):Sem.run P (underlying t) w= .ok d w:=by
 unfold underlying;simp[go_sem,h]
theorem TOk.und{P:Program}{t:TypeId}{x:TI}(h:TOk P t x):∃d,P.underlying t=some d∧tdOf d=x.d:=by
 have:=h.2;rwa[Option.map_eq_some_iff]at this
theorem TOk.int{P:Program}{t:TypeId}{x:TI}{k:IntKind}(h:TOk P t x)(hd:x.d= .int k):P.underlying t=some (.int k):=by
 obtain⟨d,h1,h2⟩:=h.und
 rw[hd]at h2
 cases d<;>simp[tdOf]at h2
 rw[h1,h2]
theorem TOk.bool{P:Program}{t:TypeId}{x:TI}(h:TOk P t x)(hd:x.d= .bool):P.underlying t=some .bool:=by
 obtain⟨d,h1,h2⟩:=h.und
 rw[hd]at h2
 cases d<;>simp[tdOf]at h2
 exact h1
theorem TOk.sl{P:Program}{t e:TypeId}{x:TI}(h:TOk P t x)(hd:x.d= .sl e):P.underlying t=some (.slice e):=by
 obtain⟨d,h1,h2⟩:=h.und
 rw[hd]at h2
 cases d<;>simp[tdOf]at h2
 rw[h1,h2]
theorem TOk.arr{P:Program}{t e:TypeId}{n:Nat}{x:TI}(h:TOk P t x)(hd:x.d= .arr n e):P.underlying t=some (.array n e):=by
 obtain⟨d,h1,h2⟩:=h.und
 rw[hd]at h2
 cases d<;>simp[tdOf]at h2
 rw[h1,h2.1,h2.2]
theorem TOk.st{P:Program}{t:TypeId}{fs:List (Nat × TypeId)}{x:TI}(h:TOk P t x)(hd:x.d= .st fs):∃gs,P.underlying t=some (.struct gs)∧gs.toList.map (fun f=>(f.offset,f.type))=fs:=by
 obtain⟨d,h1,h2⟩:=h.und
 rw[hd]at h2
 cases d<;>simp[tdOf]at h2
 exact⟨_,h1,h2⟩
def TD.flat:TD→Bool
 | .st _=>false
 | .arr _ _=>false
 |_=>true
theorem run_isAgg{P:Program}{t:TypeId}{x:TI}{w:World}(h:TOk P t x):Sem.run P (isAgg t) w= .ok (!x.d.flat) w:=by
 obtain⟨d,h1,h2⟩:=h.und
 unfold isAgg
 simp only[Sem.run_bind,run_und h1,Result.andThen_ok]
 rw[←h2]
 cases d<;>rfl
theorem TOk.info{P:Program}{t:TypeId}{x:TI}(h:TOk P t x):∃i,P.info? t=some i∧i.zero=some x.z∧i.size=x.sz∧i.bytes=x.by_:=by
 have:=h.1
 rw[Option.map_eq_some_iff]at this
 obtain⟨i,h1,h2⟩:=this
 simp only[Prod.mk.injEq]at h2
 exact⟨i,h1,h2.1,h2.2.1,h2.2.2⟩
theorem run_sizeOf{P:Program}{t:TypeId}{x:TI}{w:World}(h:TOk P t x):Sem.run P (sizeOf t) w= .ok x.sz w:=by
 obtain⟨i,h1,h2,h3,h4⟩:=h.info
 unfold sizeOf typeInfo;simp[go_sem,h1,h3]
theorem run_zero{P:Program}{t:TypeId}{x:TI}{w:World}(h:TOk P t x):Sem.run P (zeroValue t) w= .ok x.z w:=by
 obtain⟨i,h1,h2,h3,h4⟩:=h.info
 unfold zeroValue typeInfo;simp[go_sem,h1,h2]
theorem ediv_wrap64{n m:Int}(h0:0≤n)(h1:n≤9223372036854775807)(h2:0<m):IntKind.i64.wrap (n.tdiv m)=n/m:=by
 rw[Int.tdiv_eq_ediv_of_nonneg h0]
 have h3:0≤n/m:=Int.ediv_nonneg h0 (by omega)
 have h4:n/m≤n:=Int.ediv_le_self _ h0
 simp[IntKind.wrap,IntKind.bits,IntKind.signed];omega
section
variable {P:Program} {T:List (Nat × TI)} {N:Nat} {L:List (Nat × Value)} {a:Act} {w w0:World} {S:Nat→Prop} {M:List Hp} {o:Oper} {x y z:Operand} {v u:Value}
theorem r_move(hs:Sl N L a)(ho:o.op= .move x)(hx:ev L x=some (v)):RunV P a o w (v):=by
 replace hx:=hs.ev hx
 unfold RunV
 generalize a.eval=ρ at*
 unfold execOp
 simp[ho,go_sem,hx]
theorem r_assign(hs:Sl N L a)(ho:o.op= .assign x)(hx:ev L x=some (v)):RunV P a o w (v):=by
 replace hx:=hs.ev hx
 unfold RunV
 generalize a.eval=ρ at*
 unfold execOp
 simp[ho,go_sem,hx]
theorem r_not{t:TypeId}{b:Bool}(hs:Sl N L a)(ho:o.op= .unOp .not t x)(hx:ev L x=some (.bool b)):RunV P a o w (.bool (!b)):=by
 replace hx:=hs.ev hx
 unfold RunV
 generalize a.eval=ρ at*
 unfold execOp
 simp[ho,go_sem,hx]
theorem r_add{t yt:TypeId}{k:IntKind}{n m:Int}(hs:Sl N L a)(ho:o.op= .binOp .add t x y yt)(hx:ev L x=some (.int k n))(hy:ev L y=some (.int k m)):RunV P a o w (.int k (k.wrap (n+m))):=by
 replace hx:=hs.ev hx
 replace hy:=hs.ev hy
 unfold RunV
 generalize a.eval=ρ at*
 unfold execOp
 simp[ho,go_sem,hx,hy]
theorem r_sub{t yt:TypeId}{k:IntKind}{n m:Int}(hs:Sl N L a)(ho:o.op= .binOp .sub t x y yt)(hx:ev L x=some (.int k n))(hy:ev L y=some (.int k m)):RunV P a o w (.int k (k.wrap (n-m))):=by
 replace hx:=hs.ev hx
 replace hy:=hs.ev hy
 unfold RunV
 generalize a.eval=ρ at*
 unfold execOp
 simp[ho,go_sem,hx,hy]
theorem r_mul{t yt:TypeId}{k:IntKind}{n m:Int}(hs:Sl N L a)(ho:o.op= .binOp .mul t x y yt)(hx:ev L x=some (.int k n))(hy:ev L y=some (.int k m)):RunV P a o w (.int k (k.wrap (n*m))):=by
 replace hx:=hs.ev hx
 replace hy:=hs.ev hy
 unfold RunV
 generalize a.eval=ρ at*
 unfold execOp
 simp[ho,go_sem,hx,hy]
theorem r_add64{t yt:TypeId}{n m:Int}(hs:Sl N L a)(ho:o.op= .binOp .add t x y yt)(hx:ev L x=some (.int .i64 n))(hy:ev L y=some (.int .i64 m))(hb:-9223372036854775808≤n+m∧n+m≤9223372036854775807):RunV P a o w (.int .i64 (n+m)):=by
 replace hx:=hs.ev hx
 replace hy:=hs.ev hy
 unfold RunV
 generalize a.eval=ρ at*
 unfold execOp
 have hw:IntKind.i64.wrap (n+m)=n+m:=by simp[IntKind.wrap,IntKind.bits,IntKind.signed];omega
 simp[ho,go_sem,hx,hy,hw]
theorem r_sub64{t yt:TypeId}{n m:Int}(hs:Sl N L a)(ho:o.op= .binOp .sub t x y yt)(hx:ev L x=some (.int .i64 n))(hy:ev L y=some (.int .i64 m))(hb:-9223372036854775808≤n-m∧n-m≤9223372036854775807):RunV P a o w (.int .i64 (n-m)):=by
 replace hx:=hs.ev hx
 replace hy:=hs.ev hy
 unfold RunV
 generalize a.eval=ρ at*
 unfold execOp
 have hw:IntKind.i64.wrap (n-m)=n-m:=by simp[IntKind.wrap,IntKind.bits,IntKind.signed];omega
 simp[ho,go_sem,hx,hy,hw]
theorem r_mul64{t yt:TypeId}{n m:Int}(hs:Sl N L a)(ho:o.op= .binOp .mul t x y yt)(hx:ev L x=some (.int .i64 n))(hy:ev L y=some (.int .i64 m))(hb:-9223372036854775808≤n*m∧n*m≤9223372036854775807):RunV P a o w (.int .i64 (n*m)):=by
 replace hx:=hs.ev hx
 replace hy:=hs.ev hy
 unfold RunV
 generalize a.eval=ρ at*
 unfold execOp
 have hw:IntKind.i64.wrap (n*m)=n*m:=by simp[IntKind.wrap,IntKind.bits,IntKind.signed];omega
 simp[ho,go_sem,hx,hy,hw]
theorem r_quo{t yt:TypeId}{k:IntKind}{n m:Int}(hs:Sl N L a)(ho:o.op= .binOp .quo t x y yt)(hx:ev L x=some (.int k n))(hy:ev L y=some (.int k m))(hm:m≠0):RunV P a o w (.int k (k.wrap (n.tdiv m))):=by
 replace hx:=hs.ev hx
 replace hy:=hs.ev hy
 unfold RunV
 generalize a.eval=ρ at*
 unfold execOp
 simp[ho,go_sem,hx,hy,binOp,Op.intDiv,hm]
theorem r_rem{t yt:TypeId}{k:IntKind}{n m:Int}(hs:Sl N L a)(ho:o.op= .binOp .rem t x y yt)(hx:ev L x=some (.int k n))(hy:ev L y=some (.int k m))(hm:m≠0):RunV P a o w (.int k (n.tmod m)):=by
 replace hx:=hs.ev hx
 replace hy:=hs.ev hy
 unfold RunV
 generalize a.eval=ρ at*
 unfold execOp
 simp[ho,go_sem,hx,hy,binOp,Op.intDiv,hm]
theorem r_lss{t yt:TypeId}{k:IntKind}{n m:Int}(hs:Sl N L a)(ho:o.op= .binOp .lss t x y yt)(hx:ev L x=some (.int k n))(hy:ev L y=some (.int k m)):RunV P a o w (.bool (decide (n<m))):=by
 replace hx:=hs.ev hx
 replace hy:=hs.ev hy
 unfold RunV
 generalize a.eval=ρ at*
 unfold execOp
 simp[ho,go_sem,hx,hy,binOp,Op.intCmp]
theorem r_leq{t yt:TypeId}{k:IntKind}{n m:Int}(hs:Sl N L a)(ho:o.op= .binOp .leq t x y yt)(hx:ev L x=some (.int k n))(hy:ev L y=some (.int k m)):RunV P a o w (.bool (decide (n≤m))):=by
 replace hx:=hs.ev hx
 replace hy:=hs.ev hy
 unfold RunV
 generalize a.eval=ρ at*
 unfold execOp
 simp[ho,go_sem,hx,hy,binOp,Op.intCmp]
theorem r_gtr{t yt:TypeId}{k:IntKind}{n m:Int}(hs:Sl N L a)(ho:o.op= .binOp .gtr t x y yt)(hx:ev L x=some (.int k n))(hy:ev L y=some (.int k m)):RunV P a o w (.bool (decide (m<n))):=by
 replace hx:=hs.ev hx
 replace hy:=hs.ev hy
 unfold RunV
 generalize a.eval=ρ at*
 unfold execOp
 simp[ho,go_sem,hx,hy,binOp,Op.intCmp]
theorem r_geq{t yt:TypeId}{k:IntKind}{n m:Int}(hs:Sl N L a)(ho:o.op= .binOp .geq t x y yt)(hx:ev L x=some (.int k n))(hy:ev L y=some (.int k m)):RunV P a o w (.bool (decide (m≤n))):=by
 replace hx:=hs.ev hx
 replace hy:=hs.ev hy
 unfold RunV
 generalize a.eval=ρ at*
 unfold execOp
 simp[ho,go_sem,hx,hy,binOp,Op.intCmp]
theorem r_eql{t yt:TypeId}{k:IntKind}{n m:Int}(hs:Sl N L a)(ho:o.op= .binOp .eql t x y yt)(hx:ev L x=some (.int k n))(hy:ev L y=some (.int k m)):RunV P a o w (.bool (decide (n=m))):=by
 replace hx:=hs.ev hx
 replace hy:=hs.ev hy
 unfold RunV
 generalize a.eval=ρ at*
 unfold execOp
 simp[ho,go_sem,hx,hy,binOp,Op.intCmp]
 exact beq_dec n m
theorem r_neq{t yt:TypeId}{k:IntKind}{n m:Int}(hs:Sl N L a)(ho:o.op= .binOp .neq t x y yt)(hx:ev L x=some (.int k n))(hy:ev L y=some (.int k m)):RunV P a o w (.bool (!decide (n=m))):=by
 replace hx:=hs.ev hx
 replace hy:=hs.ev hy
 unfold RunV
 generalize a.eval=ρ at*
 unfold execOp
 simp[ho,go_sem,hx,hy,binOp,Op.intCmp,bne,beq_dec]
theorem r_and{t yt:TypeId}{k:IntKind}{n m:Int}(hs:Sl N L a)(ho:o.op= .binOp .and t x y yt)(hx:ev L x=some (.int k n))(hy:ev L y=some (.int k m)):RunV P a o w (.int k (bits .and k n m)):=by
 replace hx:=hs.ev hx
 replace hy:=hs.ev hy
 unfold RunV
 generalize a.eval=ρ at*
 unfold execOp
 simp[ho,go_sem,hx,hy]
theorem r_or{t yt:TypeId}{k:IntKind}{n m:Int}(hs:Sl N L a)(ho:o.op= .binOp .or t x y yt)(hx:ev L x=some (.int k n))(hy:ev L y=some (.int k m)):RunV P a o w (.int k (bits .or k n m)):=by
 replace hx:=hs.ev hx
 replace hy:=hs.ev hy
 unfold RunV
 generalize a.eval=ρ at*
 unfold execOp
 simp[ho,go_sem,hx,hy]
theorem r_xor{t yt:TypeId}{k:IntKind}{n m:Int}(hs:Sl N L a)(ho:o.op= .binOp .xor t x y yt)(hx:ev L x=some (.int k n))(hy:ev L y=some (.int k m)):RunV P a o w (.int k (bits .xor k n m)):=by
 replace hx:=hs.ev hx
 replace hy:=hs.ev hy
 unfold RunV
 generalize a.eval=ρ at*
 unfold execOp
 simp[ho,go_sem,hx,hy]
theorem r_conv{s t:TypeId}{k k':IntKind}{n:Int}(hs:Sl N L a)(ho:o.op= .convert s t x)(hx:ev L x=some (.int k n))(hT:TabOk P T){i i':TI}(hc:tlk T s=some i)(hc':tlk T t=some i')(hd':i'.d= .int k'):RunV P a o w (.int k' (k'.wrap n)):=by
 replace hx:=hs.ev hx
 unfold RunV
 generalize a.eval=ρ at*
 unfold execOp
 obtain⟨d1,e1,g1⟩:=(hT _ _ hc).und
 simp[ho,go_sem,hx,convert,run_und e1,run_und ((hT _ _ hc').int hd'),Conv.intToInt]
end
inductive Cut:List Value→Nat→Nat→List Value→Prop
 |nil (cs:List Value):Cut cs 0 0 []
 |cons {cs vs:List Value} {n:Nat} (c:Value) (h:Cut cs 0 n vs):Cut (c::cs) 0 (n+1) (c::vs)
 |skip {cs vs:List Value} {k n:Nat} (c:Value) (h:Cut cs k n vs):Cut (c::cs) (k+1) n vs
theorem Cut.len{cs vs:List Value}{k n:Nat}(h:Cut cs k n vs):vs.length=n:=by
 induction h<;>simp_all
theorem Cut.get{cs vs:List Value}{k n:Nat}(h:Cut cs k n vs):∀j u,vs[j]?=some u→cs[k+j]?=some u:=by
 induction h with
 |nil=>intro j u hu;simp at hu
 |cons c h ih=>
  intro j u hu
  cases j with
  |zero=>simpa using hu
  |succ j=>have:=ih j u (by simpa using hu);simpa[Nat.zero_add]using this
 |skip c h ih=>intro j u hu;have:=ih j u hu;rw[Nat.add_right_comm];simpa using this
inductive Put:List Value→Nat→List Value→List Value→Prop
 |nil (cs:List Value):Put cs 0 [] cs
 |cons {cs vs ds:List Value} (c v:Value) (h:Put cs 0 vs ds):Put (c::cs) 0 (v::vs) (v::ds)
 |skip {cs vs ds:List Value} {k:Nat} (c:Value) (h:Put cs k vs ds):Put (c::cs) (k+1) vs (c::ds)
theorem Put.eq{cs vs ds:List Value}{k:Nat}(h:Put cs k vs ds):k+vs.length≤cs.length∧ds=cs.take k++vs++cs.drop (k+vs.length):=by
 induction h with
 |nil=>simp
 |cons c v h ih=>obtain⟨h1,h2⟩:=ih;subst h2;simp at h1 ⊢;omega
 |skip c h ih=>
  obtain⟨h1,h2⟩:=ih
  refine⟨by simp;omega,?_⟩
  subst h2
  rw[Nat.add_right_comm]
  simp
inductive VC:Value→List Value→Prop
 |agg (l:List Value):VC (.agg l.toArray) l
 |bool (b:Bool):VC (.bool b) [.bool b]
 |int (k:IntKind) (n:Int):VC (.int k n) [.int k n]
 |string (s:ByteArray):VC (.string s) [.string s]
 |pointer (p:Option Addr):VC (.pointer p) [.pointer p]
 |slice (p:Option Addr) (n c:Nat):VC (.slice p n c) [.slice p n c]
 |func (f:Fn) (x y:Array Value):VC (.func f x y) [.func f x y]
 |nilFunc:VC .nilFunc [.nilFunc]
 |map (p:Option Nat):VC (.map p) [.map p]
 |nilIface:VC .nilIface [.nilIface]
theorem VC.eq{v:Value}{l:List Value}(h:VC v l):v.cells=l.toArray:=by
 cases h<;>rfl
theorem fill_put(cs vs:List Value)(k:Nat)(hl:k+vs.length≤cs.length):(vs.toArray.zipIdx.foldl (fun(c:Array Value) (p:Value × Nat)=>c.setIfInBounds (k+p.2) p.1) cs.toArray)=(cs.take k++vs++cs.drop (k+vs.length)).toArray:=by
 suffices H:∀(vs:List Value)(m:Nat)(cs:List Value),k+m+vs.length≤cs.length→(vs.zipIdx m).foldl (fun(c:Array Value) (p:Value × Nat)=>c.setIfInBounds (k+p.2) p.1) cs.toArray=(cs.take (k+m)++vs++cs.drop (k+m+vs.length)).toArray by
  have:=H vs 0 cs (by simpa using hl)
  rw[←Array.foldl_toList]
  simpa using this
 intro vs
 induction vs with
 |nil=>intro m cs h;simp
 |cons v r ih=>
  intro m cs h
  simp only[List.zipIdx_cons,List.foldl_cons,List.setIfInBounds_toArray]
  rw[ih (m+1) (cs.set (k+m) v) (by simp only[List.length_set,List.length_cons]at*;omega)]
  congr 1
  have hk:k+m<cs.length:=by simp at h;omega
  rw[List.take_set,List.drop_set_of_lt (by omega),←Nat.add_assoc,List.take_succ_eq_append_getElem hk,List.set_append_right _ _ (by simp;omega)]
  simp[Nat.min_eq_left (Nat.le_of_lt hk)]
  congr 1
  omega
theorem fill_one{place:Nat→Option (Nat × Nat)}{cs vs ds:List Value}{rest:List (Nat × Value)}{i off:Nat}{v:Value}(hp:place i=some (off,vs.length))(hv:VC v vs)(h:Put cs off vs ds):Instr.fill place cs.toArray ((i,v)::rest)=Instr.fill place ds.toArray rest:=by
 obtain⟨h1,h2⟩:=h.eq
 rw[Instr.fill]
 simp only[hp,hv.eq]
 rw[if_neg (by simp;omega),fill_put cs vs off h1,←h2]
inductive Fill (T:List (Nat × TI)) (fs:List (Nat × TypeId)):List (Nat × Value)→List Value→List Value→Prop
 |nil (cs:List Value):Fill T fs [] cs cs
 |cons {rest:List (Nat × Value)} {i off:Nat} {t:TypeId} {x:TI} {v:Value} {vs cs ds es:List Value} (hf:fs[i]?=some (off,t)) (ht:tlk T t=some x) (hv:VC v vs) (hl:vs.length=x.sz) (hp:Put cs off vs ds) (h:Fill T fs rest ds es):Fill T fs ((i,v)::rest) cs es
inductive FillA (s:Nat):List (Nat × Value)→List Value→List Value→Prop
 |nil (cs:List Value):FillA s [] cs cs
 |cons {rest:List (Nat × Value)} {i:Nat} {v:Value} {vs cs ds es:List Value} (hv:VC v vs) (hl:vs.length=s) (hp:Put cs (i*s) vs ds) (h:FillA s rest ds es):FillA s ((i,v)::rest) cs es
theorem FillA.fill{s:Nat}{ps:List (Nat × Value)}{cs ds:List Value}(h:FillA s ps cs ds):Instr.fill (fun i=>some (i*s,s)) cs.toArray ps=some ds.toArray:=by
 induction h with
 |nil=>rfl
 |cons hv hl hp _ ih=>rw[fill_one (by rw[hl]) hv hp];exact ih
def evp(L:List (Nat × Value)):List (Nat × Operand)→Option (List (Nat × Value))
 |[]=>some []
 |(i,x)::r=>match ev L x with
  |some v=>match evp L r with
   |some vs=>some ((i,v)::vs)
   |none=>none
  |none=>none
theorem Sl.evp{N:Nat}{L:List (Nat × Value)}{a:Act}(h:Sl N L a):∀{xs:List (Nat × Operand)}{vs:List (Nat × Value)},evp L xs=some vs→xs.map (fun(i,x)=>(i,a.eval x))=vs
 |[],vs,he=>by simpa[Go.Proofs.YtbjffoojenpmfaaGreat.evp]using he
 |(i,x)::r,vs,he=>by
  simp only[Go.Proofs.YtbjffoojenpmfaaGreat.evp]at he
  cases hx:Go.Proofs.YtbjffoojenpmfaaGreat.ev L x with
  |none=>rw[hx]at he;cases he
  |some v=>
   rw[hx]at he
   cases hr:Go.Proofs.YtbjffoojenpmfaaGreat.evp L r with
   |none=>rw[hr]at he;cases he
   |some us=>
    rw[hr]at he
    simp only[Option.some.injEq]at he
    subst he
    simp[h.ev hx,Sl.evp h hr]
section
variable {P:Program} {T:List (Nat × TI)} {N:Nat} {L:List (Nat × Value)} {a:Act} {w w0:World} {S:Nat→Prop} {M:List Hp} {o:Oper} {x y z:Operand} {v u:Value}
theorem run_fieldPlace{i:TI}{f:Field}{A:Addr}(hT:TOk P f.type i)(hz:i.sz≠0):Sem.run P (fieldPlace A f) w= .ok (A.add f.offset) w:=by
 unfold fieldPlace
 simp[run_sizeOf hT,hz]
theorem r_fieldAddr{t ft:TypeId}{f g n off:Nat}{i j:TI}{fs:List (Nat × TypeId)}(hs:Sl N L a)(ho:o.op= .fieldAddr t x f)(hx:ev L x=some (.pointer (some ⟨g,n,none⟩)))(hT:TabOk P T)(hc:tlk T t=some i)(hd:i.d= .st fs)(hf:fs[f]?=some (off,ft)) (hft:tlk T ft=some j) (hj:Nat.beq j.sz 0=false):RunV P a o w (.pointer (some ⟨g,n+off,none⟩)):=by
 replace hx:=hs.ev hx
 unfold RunV
 generalize a.eval=ρ at*
 obtain⟨gs,h1,h2⟩:=(hT _ _ hc).st hd
 subst h2
 rw[List.getElem?_map]at hf
 cases hg:gs.toList[f]? with
 |none=>rw[hg]at hf;cases hf
 |some fl=>
  rw[hg]at hf
  simp only[Option.map_some,Option.some.injEq,Prod.mk.injEq]at hf
  obtain⟨rfl,rfl⟩:=hf
  have hg':gs[f]?=some fl:=by simpa using hg
  have hz:j.sz≠0:=fun e=>by rw[e]at hj;cases hj
  unfold execOp
  simp[ho,hx,Instr.fieldAt,run_und h1,hg',Instr.sureAddr,run_fieldPlace (hT _ _ hft) hz,Addr.add_lit]
def tsz:List (Nat × TI)→Nat→Option Nat
 |[],_=>none
 |(k,⟨s,_,_,_⟩)::r,n=>bif Nat.beq k n then some s else tsz r n
theorem tsz_ok:∀{T:List (Nat × TI)}{n s:Nat},tsz T n=some s→∃j,tlk T n=some j∧j.sz=s
 |[],_,_,h=>by cases h
 |(k,⟨s',_,_,_⟩)::r,n,s,h=>by
  simp only[tsz]at h
  simp only[tlk]
  cases hb:Nat.beq k n with
  |true=>rw[hb]at h;simp only[cond_true,Option.some.injEq]at h;exact⟨_,rfl,h⟩
  |false=>rw[hb]at h;exact tsz_ok h
theorem run_indexAt{t e:TypeId}{i j:TI}{g off len cap:Nat}{k:Nat}{kk:IntKind}(hT:TabOk P T)(hc:tlk T t=some i)(hd:i.d= .sl e)(he:tlk T e=some j)(hk:k<len):Sem.run P (Instr.indexAt t (.slice (some ⟨g,off,none⟩) len cap) (.int kk (k:Int))) w= .ok (.pointer (some ⟨g,off+k*j.sz,none⟩)) w:=by
 unfold Instr.indexAt
 simp[run_und ((hT _ _ hc).sl hd),asIntOf,run_sizeOf (hT _ _ he),hk,Addr.add_lit]
theorem run_indexAtA{t e:TypeId}{i j:TI}{g off len:Nat}{k:Nat}{kk:IntKind}(hT:TabOk P T)(hc:tlk T t=some i)(hd:i.d= .arr len e)(he:tlk T e=some j)(hk:k<len):Sem.run P (Instr.indexAt t (.pointer (some ⟨g,off,none⟩)) (.int kk (k:Int))) w= .ok (.pointer (some ⟨g,off+k*j.sz,none⟩)) w:=by
 unfold Instr.indexAt
 simp[run_und ((hT _ _ hc).arr hd),asIntOf,run_sizeOf (hT _ _ he),hk,Addr.add_lit,Instr.sureAddr]
end
def vcF:Value→Option (List Value)
 | .agg cs=>some cs.toList
 | .bool b=>some [.bool b]
 | .int k n=>some [.int k n]
 | .string s=>some [.string s]
 | .pointer p=>some [.pointer p]
 | .slice p n c=>some [.slice p n c]
 | .func f x y=>some [.func f x y]
 | .nilFunc=>some [.nilFunc]
 | .map p=>some [.map p]
 | .nilIface=>some [.nilIface]
 |_=>none
theorem vcF_ok{v:Value}{l:List Value}(h:vcF v=some l):VC v l:=by
 cases v<;>simp only[vcF,Option.some.injEq,reduceCtorEq]at h<;>subst h
 case agg cs=>exact(show VC (.agg cs.toList.toArray) cs.toList from .agg _)
 all_goals constructor
def cutF:List Value→Nat→Nat→Option (List Value)
 |_,0,0=>some []
 |c::cs,0,n+1=>match cutF cs 0 n with
  |some vs=>some (c::vs)
  |none=>none
 |_::cs,k+1,n=>cutF cs k n
 |_,_,_=>none
theorem cutF_ok:∀{cs:List Value}{k n:Nat}{vs:List Value},cutF cs k n=some vs→Cut cs k n vs
 |cs,0,0,vs,h=>by simp[cutF]at h;subst h;exact .nil _
 |[],0,n+1,vs,h=>by simp[cutF]at h
 |c::cs,0,n+1,vs,h=>by
  simp only[cutF]at h
  cases hc:cutF cs 0 n with
  |none=>rw[hc]at h;cases h
  |some us=>rw[hc]at h;simp only[Option.some.injEq]at h;subst h;exact .cons c (cutF_ok hc)
 |[],k+1,n,vs,h=>by simp[cutF]at h
 |c::cs,k+1,n,vs,h=>by simp only[cutF]at h;exact .skip c (cutF_ok h)
def putF:List Value→Nat→List Value→Option (List Value)
 |cs,0,[]=>some cs
 |_::cs,0,v::vs=>match putF cs 0 vs with
  |some ds=>some (v::ds)
  |none=>none
 |c::cs,k+1,vs=>match putF cs k vs with
  |some ds=>some (c::ds)
  |none=>none
 |_,_,_=>none
theorem putF_ok:∀{cs:List Value}{k:Nat}{vs ds:List Value},putF cs k vs=some ds→Put cs k vs ds
 |cs,0,[],ds,h=>by simp[putF]at h;subst h;exact .nil _
 |[],0,v::vs,ds,h=>by simp[putF]at h
 |c::cs,0,v::vs,ds,h=>by
  simp only[putF]at h
  cases hc:putF cs 0 vs with
  |none=>rw[hc]at h;cases h
  |some us=>rw[hc]at h;simp only[Option.some.injEq]at h;subst h;exact .cons c v (putF_ok hc)
 |[],k+1,vs,ds,h=>by cases vs<;>simp[putF]at h
 |c::cs,k+1,vs,ds,h=>by
  simp only[putF]at h
  cases hc:putF cs k vs with
  |none=>rw[hc]at h;cases h
  |some us=>rw[hc]at h;simp only[Option.some.injEq]at h;subst h;exact .skip c (putF_ok hc)
def fillF(T:List (Nat × TI))(fs:List (Nat × TypeId)):List (Nat × Value)→List Value→Option (List Value)
 |[],cs=>some cs
 |(i,v)::r,cs=>match fs[i]? with
  |some (off,t)=>match tlk T t with
   |some x=>match vcF v with
    |some vs=>bif Nat.beq vs.length x.sz then(match putF cs off vs with
     |some ds=>fillF T fs r ds
     |none=>none)else none
    |none=>none
   |none=>none
  |none=>none
theorem fillF_ok{T:List (Nat × TI)}{fs:List (Nat × TypeId)}:∀{ps:List (Nat × Value)}{cs ds:List Value},fillF T fs ps cs=some ds→Fill T fs ps cs ds
 |[],cs,ds,h=>by simp[fillF]at h;subst h;exact .nil _
 |(i,v)::r,cs,ds,h=>by
  simp only[fillF]at h
  cases h1:fs[i]? with
  |none=>rw[h1]at h;cases h
  |some p=>
   obtain⟨off,t⟩:=p
   rw[h1]at h
   cases h2:tlk T t with
   |none=>simp only[h2]at h;cases h
   |some x=>
    simp only[h2]at h
    cases h3:vcF v with
    |none=>simp only[h3]at h;cases h
    |some vs=>
     simp only[h3]at h
     cases h4:Nat.beq vs.length x.sz with
     |false=>rw[h4]at h;cases h
     |true=>
      rw[h4]at h
      simp only[cond_true]at h
      cases h5:putF cs off vs with
      |none=>rw[h5]at h;cases h
      |some es=>rw[h5]at h;exact .cons h1 h2 (vcF_ok h3) (Nat.eq_of_beq_eq_true h4) (putF_ok h5) (fillF_ok h)
def fillAF(s:Nat):List (Nat × Value)→List Value→Option (List Value)
 |[],cs=>some cs
 |(i,v)::r,cs=>match vcF v with
  |some vs=>bif Nat.beq vs.length s then(match putF cs (i*s) vs with
   |some ds=>fillAF s r ds
   |none=>none)else none
  |none=>none
theorem fillAF_ok{s:Nat}:∀{ps:List (Nat × Value)}{cs ds:List Value},fillAF s ps cs=some ds→FillA s ps cs ds
 |[],cs,ds,h=>by simp[fillAF]at h;subst h;exact .nil _
 |(i,v)::r,cs,ds,h=>by
  simp only[fillAF]at h
  cases h3:vcF v with
  |none=>simp only[h3]at h;cases h
  |some vs=>
   simp only[h3]at h
   cases h4:Nat.beq vs.length s with
   |false=>rw[h4]at h;cases h
   |true=>
    rw[h4]at h
    simp only[cond_true]at h
    cases h5:putF cs (i*s) vs with
    |none=>rw[h5]at h;cases h
    |some es=>rw[h5]at h;exact .cons (vcF_ok h3) (Nat.eq_of_beq_eq_true h4) (putF_ok h5) (fillAF_ok h)
def Ro(w:World)(b n:Nat)(vs:List Value):Prop:=∀j u,vs[j]?=some u→w.cell? ⟨b,n+j,none⟩=some u
theorem Rd.ro{w:World}{B:Nat}{A:Option Addr}{xs:List Value}(h:Rd w B A xs)(hn:0<xs.length):∃b off,A=some ⟨b,off,none⟩∧b<B∧Ro w b off xs:=h hn
theorem Ro.rd{w:World}{b n:Nat}{vs:List Value}(h:Ro w b n vs)(hb:b<w.heap.size):Rd w w.heap.size (some ⟨b,n,none⟩) vs:=fun _=>⟨b,n,rfl,hb,h⟩
theorem Ro.flat{α:Type}{w:World}{b off s:Nat}{f:α→List Value}(hs:∀a,(f a).length=s){l:List α}(h:Ro w b off (l.flatMap f)){k:Nat}(hk:k<l.length):Ro w b (off+k*s) (f l[k]):=fun j u hu=>by
 have hj:j<s:=by
  rcases Nat.lt_or_ge j s with h1|h1
  ·exact h1
  ·rw[List.getElem?_eq_none (by rw[hs];exact h1)]at hu;cases hu
 have:=flat_get f s hs l k j hk hj
 rw[Nat.add_assoc]
 exact h _ _ (by rw[this,hu])
theorem Ro.cl{S:Nat→Prop}{w0 w:World}{M:List Hp}{b n j:Nat}{vs:List Value}{v:Value}(h:Ro w0 b n vs)(hm:Mm S w0 M w)(hb:¬S b)(hv:vs[j]?=some v):w.cell? ⟨b,n+j,none⟩=some v:=hm.fr.cl (h j v hv) hb
theorem Ro.ro{S:Nat→Prop}{w0 w:World}{M:List Hp}{b n:Nat}{vs:List Value}(h:Ro w0 b n vs)(hm:Mm S w0 M w)(hb:¬S b):Ro w b n vs:=fun j v hv=>hm.fr.cl (h j v hv) hb
theorem Mm.cl{S:Nat→Prop}{w0 w:World}{M:List Hp}{g n:Nat}{t:TypeId}{cs:List Value}{v:Value}(hm:Mm S w0 M w)(hM:(⟨some g,t,cs⟩:Hp)∈M)(hv:cs[n]?=some v):w.cell? ⟨g,n,none⟩=some v:=(hm.at_ hM n).trans hv
theorem Mm.ro{S:Nat→Prop}{w0 w:World}{M:List Hp}{g k n:Nat}{t:TypeId}{cs vs:List Value}(hm:Mm S w0 M w)(hM:(⟨some g,t,cs⟩:Hp)∈M)(hv:Cut cs k n vs):Ro w g k vs:=fun j v h=>(hm.at_ hM _).trans (hv.get j v h)
def slv(A:Option Nat)(n c:Nat):Value:= .slice (A.map fun g=>⟨g,0,none⟩) n c
structure Row(A:Option Nat)(n c s:Nat)(xs cs:List Value):Prop where
 nil:A=none→n=0∧c=0
 le:n≤c
 cm:c≤maxLen
 len:cs.length=c*s
 xl:xs.length=n*s
 pre:cs.take (n*s)=xs
theorem Row.empty(s:Nat):Row none 0 0 s [] []:=⟨fun _=>⟨rfl,rfl⟩,Nat.le_refl _,Nat.zero_le _,by simp,by simp,by simp⟩
theorem Row.get{A:Option Nat}{n c s:Nat}{xs cs:List Value}(h:Row A n c s xs cs){j:Nat}{u:Value}(hj:xs[j]?=some u):cs[j]?=some u:=by
 rw[←h.pre,List.getElem?_take]at hj
 split at hj
 ·exact hj
 ·cases hj
theorem Row.some_{A:Option Nat}{n c s:Nat}{xs cs:List Value}(h:Row A n c s xs cs)(hn:0<n):∃g,A=some g:=by
 cases A with
 |none=>have:=(h.nil rfl).1;omega
 |some g=>exact⟨g,rfl⟩
theorem Row.pfx{A:Option Nat}{n c s:Nat}{xs cs:List Value}(h:Row A n c s xs cs):xs<+:cs:=h.pre▸List.take_prefix _ _
theorem Row.set{A:Option Nat}{n c s:Nat}{xs cs:List Value}(h:Row A n c s xs cs)(j:Nat)(u:Value):Row A n c s (xs.set j u) (cs.set j u):=
 ⟨h.nil,h.le,h.cm,by rw[List.length_set];exact h.len,by rw[List.length_set];exact h.xl,by rw[←h.pre,List.take_set]⟩
theorem Row.own{w:World}{A:Option Nat}{n c s base:Nat}{e:TypeId}{xs cs:List Value}(h:Row A n c s xs cs)(hs:(⟨A,e,cs⟩:Hp).sat w)(hb:∀g,A=some g→base≤g):w.ownsRow base e s (slv A n c) n xs:=by
 refine⟨h.xl,?_⟩
 cases A with
 |none=>obtain⟨rfl,rfl⟩:=h.nil rfl;exact .inl ⟨rfl,rfl⟩
 |some g=>exact .inr ⟨g,c,cs.toArray,rfl,hb g rfl,hs,h.le,h.cm,by simpa using h.len,by simpa using h.pre⟩
theorem Row.of_own{w:World}{n s base:Nat}{e:TypeId}{xs:List Value}{v:Value}(h:w.ownsRow base e s v n xs):∃A c cs,v=slv A n c∧Row A n c s xs cs∧(⟨A,e,cs⟩:Hp).sat w∧∀g,A=some g→v.ownBlock=some g∧base≤g:=by
 obtain⟨h1,h2⟩:=h
 rcases h2 with⟨rfl,rfl⟩|⟨g,cap,cur,rfl,hb,hh,hc,hm,hz,ht⟩
 ·have:xs=[]:=by simpa using h1
  subst this
  exact⟨none,0,[],rfl,Row.empty s,rfl,fun g hg=>by cases hg⟩
 ·exact⟨some g,cap,cur.toList,rfl,⟨(fun e=>by cases e),hc,hm,by simpa using hz,h1,ht⟩,by simpa[Hp.sat,Blk]using hh,(fun g' hg=>by cases hg;exact⟨rfl,hb⟩)⟩
theorem Mm.rd_row{S:Nat→Prop}{w0 w:World}{M:List Hp}(hm:Mm S w0 M w){A:Option Nat}{n c s:Nat}{t:TypeId}{xs cs:List Value}(hM:(⟨A,t,cs⟩:Hp)∈M)(hr:Row A n c s xs cs):Rd w w.heap.size (A.map fun g=>⟨g,0,none⟩) xs:=by
 cases A with
 |none=>
  have h1:=hr.xl
  rw[(hr.nil rfl).1,Nat.zero_mul]at h1
  intro h;omega
 |some g=>exact hm.rd hM hr.pfx
section
variable {P:Program} {T:List (Nat × TI)} {N:Nat} {L:List (Nat × Value)} {a:Act} {w w0:World} {S:Nat→Prop} {M M':List Hp} {o:Oper} {x y z:Operand} {v u:Value} {K:Value→World→Prop}
def litN:Int→Option Nat
 | .ofNat n=>some n
 |_=>none
theorem litN_ok{i:Int}{k:Nat}(h:litN i=some k):i=(k:Int):=by
 cases i with
 |ofNat n=>simp only[litN,Option.some.injEq]at h;subst h;rfl
 |negSucc n=>simp[litN]at h
theorem r_ix{t e:TypeId}{i:TI}{g off len cap k s:Nat}{kk:IntKind}(hs:Sl N L a)(ho:o.op= .indexAddr t x y)(hx:ev L x=some (.slice (some ⟨g,off,none⟩) len cap))(hy:ev L y=some (.int kk (k:Int)))(hT:TabOk P T)(hc:tlk T t=some i)(hd:i.d= .sl e)(he:tsz T e=some s)(hk:k<len):RunV P a o w (.pointer (some ⟨g,off+k*s,none⟩)):=by
 replace hx:=hs.ev hx;replace hy:=hs.ev hy
 obtain⟨j,hj,hjs⟩:=tsz_ok he
 subst hjs
 unfold RunV execOp
 simp[ho,hx,hy,run_indexAt hT hc hd hj hk]
theorem r_ixa{t e:TypeId}{i:TI}{g off len k s:Nat}{kk:IntKind}(hs:Sl N L a)(ho:o.op= .indexAddr t x y)(hx:ev L x=some (.pointer (some ⟨g,off,none⟩)))(hy:ev L y=some (.int kk (k:Int)))(hT:TabOk P T)(hc:tlk T t=some i)(hd:i.d= .arr len e)(he:tsz T e=some s)(hk:k<len):RunV P a o w (.pointer (some ⟨g,off+k*s,none⟩)):=by
 replace hx:=hs.ev hx;replace hy:=hs.ev hy
 obtain⟨j,hj,hjs⟩:=tsz_ok he
 subst hjs
 unfold RunV execOp
 simp[ho,hx,hy,run_indexAtA hT hc hd hj hk]
theorem r_ixl{t e:TypeId}{i:TI}{g off len cap k s:Nat}{kk:IntKind}(hs:Sl N L a)(ho:o.op= .indexAddr t x y)(hx:ev L x=some (.slice (some ⟨g,off,none⟩) len cap)){ii:Int}(hy:ev L y=some (.int kk ii))(hii:litN ii=some k)(hT:TabOk P T)(hc:tlk T t=some i)(hd:i.d= .sl e)(he:tsz T e=some s)(hk:ii<(len:Int)):RunV P a o w (.pointer (some ⟨g,off+k*s,none⟩)):=r_ix hs ho hx (by rw[←litN_ok hii];exact hy) hT hc hd he (by have e:=litN_ok hii;omega)
theorem r_ixal{t e:TypeId}{i:TI}{g off len k s:Nat}{kk:IntKind}(hs:Sl N L a)(ho:o.op= .indexAddr t x y)(hx:ev L x=some (.pointer (some ⟨g,off,none⟩))){ii:Int}(hy:ev L y=some (.int kk ii))(hii:litN ii=some k)(hT:TabOk P T)(hc:tlk T t=some i)(hd:i.d= .arr len e)(he:tsz T e=some s)(hk:ii<(len:Int)):RunV P a o w (.pointer (some ⟨g,off+k*s,none⟩)):=r_ixa hs ho hx (by rw[←litN_ok hii];exact hy) hT hc hd he (by have e:=litN_ok hii;omega)
theorem r_load{t:TypeId}{i:TI}{p:Addr}(hs:Sl N L a)(ho:o.op= .load t x)(hx:ev L x=some (.pointer (some p)))(hT:TabOk P T)(hc:tlk T t=some i)(hf:i.d.flat=true)(hw:w.cell? p=some v):RunV P a o w v:=by
 replace hx:=hs.ev hx
 unfold RunV execOp
 simp[ho,hx,Instr.loadAt,loadVar,Instr.sureAddr,run_isAgg (hT _ _ hc),hf,hw]
theorem r_loadA{t:TypeId}{i:TI}{b n:Nat}{vs:List Value}(hs:Sl N L a)(ho:o.op= .load t x)(hx:ev L x=some (.pointer (some ⟨b,n,none⟩)))(hT:TabOk P T)(hc:tlk T t=some i)(hf:i.d.flat=false)(hw:Ro w b n vs)(hl:vs.length=i.sz):RunV P a o w (.agg vs.toArray):=by
 replace hx:=hs.ev hx
 have h:=run_loadCells_list (P:=P) w ⟨b,n,none⟩ vs (fun j u hu=>by rw[add_lit];exact hw j u hu)
 rw[hl]at h
 unfold RunV execOp
 simp[ho,hx,Instr.loadAt,loadVar,Instr.sureAddr,run_isAgg (hT _ _ hc),hf,run_sizeOf (hT _ _ hc),h]
theorem r_extract{k:Nat}{vs:List Value}(hs:Sl N L a)(ho:o.op= .extract x k)(hx:ev L x=some (.tuple vs.toArray))(hv:vs[k]?=some v):RunV P a o w v:=by
 replace hx:=hs.ev hx
 have hv':vs.toArray[k]?=some v:=by simpa using hv
 unfold RunV execOp
 simp[ho,hx,Instr.extract,hv]
theorem r_field{t ft:TypeId}{f off:Nat}{i j:TI}{fs:List (Nat × TypeId)}{cs:List Value}(hs:Sl N L a)(ho:o.op= .field t x f)(hx:ev L x=some (.agg cs.toArray))(hT:TabOk P T)(hc:tlk T t=some i)(hd:i.d= .st fs)(hf:fs[f]?=some (off,ft)) (hft:tlk T ft=some j) (hj:j.d.flat=true) (hv:cs[off]?=some v):RunV P a o w v:=by
 replace hx:=hs.ev hx
 obtain⟨gs,h1,h2⟩:=(hT _ _ hc).st hd
 subst h2
 rw[List.getElem?_map]at hf
 cases hg:gs.toList[f]? with
 |none=>rw[hg]at hf;cases hf
 |some fl=>
  rw[hg]at hf
  simp only[Option.map_some,Option.some.injEq,Prod.mk.injEq]at hf
  obtain⟨rfl,rfl⟩:=hf
  have hg':gs[f]?=some fl:=by simpa using hg
  unfold RunV execOp
  simp[ho,hx,Instr.field,run_und h1,hg',asAgg,part,run_isAgg (hT _ _ hft),hj,hv]
theorem r_len{ts:Array TypeId}{t e:TypeId}{i:TI}{A:Option Addr}{n c:Nat}(hs:Sl N L a)(ho:o.op= .call {callee:= .builtin .len,args:=#[x],argTypes:=ts})(hx:ev L x=some (.slice A n c))(hts:ts[0]?=some t) (hT:TabOk P T) (hc:tlk T t=some i) (hd:i.d= .sl e):RunV P a o w (.int .i64 (n:Int)):=by
 replace hx:=hs.ev hx
 unfold RunV execOp resolve invoke builtin
 simp[ho,hx,Builtin.len_,hts,run_und ((hT _ _ hc).sl hd),goInt]
theorem TOk.str{t:TypeId}{i:TI}(h:TOk P t i)(hd:i.d= .str):P.underlying t=some .string:=by
 obtain⟨d,h1,h2⟩:=h.und
 rw[hd]at h2
 cases d<;>simp[tdOf]at h2
 exact h1
theorem r_slen{ts:Array TypeId}{t:TypeId}{i:TI}{s:ByteArray}(hs:Sl N L a)(ho:o.op= .call {callee:= .builtin .len,args:=#[x],argTypes:=ts})(hx:ev L x=some (.string s))(hts:ts[0]?=some t) (hT:TabOk P T) (hc:tlk T t=some i) (hd:i.d= .str):RunV P a o w (.int .i64 (s.size:Int)):=by
 replace hx:=hs.ev hx
 unfold RunV execOp resolve invoke builtin
 simp[ho,hx,Builtin.len_,hts,run_und ((hT _ _ hc).str hd),goInt]
theorem r_makeFunc{fn:Fn}{xs ys:List Operand}{vs us:List Value}(hs:Sl N L a)(ho:o.op= .makeFunc fn xs.toArray ys.toArray)(hx:evs L xs=some vs)(hy:evs L ys=some us):RunV P a o w (.func fn vs.toArray us.toArray):=by
 replace hx:=hs.evs hx;replace hy:=hs.evs hy
 subst hx;subst hy
 unfold RunV execOp
 simp[ho,Instr.makeFunc]
theorem r_nilCheck{p:Addr}(hs:Sl N L a)(ho:o.op= .nilCheck x)(hx:ev L x=some (.pointer (some p))):RunV P a o w (.pointer (some p)):=by
 replace hx:=hs.ev hx
 unfold RunV execOp
 simp[ho,hx]
theorem r_nilCheckF{f:Fn}{p q:Array Value}{n:FuncId}(hs:Sl N L a)(ho:o.op= .nilCheck x)(hx:ev L x=some (.func f p q))(hf:f= .func n):RunV P a o w (.func f p q):=by
 replace hx:=hs.ev hx
 subst hf
 unfold RunV execOp
 simp[ho,hx]
def placesOf(T:List (Nat × TI))(fs:List (Nat × TypeId)):List (Nat × Nat):=fs.map fun p=>(p.1,((tlk T p.2).map (·.sz)).getD 0)
theorem run_places(hT:TabOk P T):∀(l:List Field),(l.map fun f=>(f.offset,f.type)).all (fun p=>(tlk T p.2).isSome)=true→
  Sem.run P (l.mapM fun f=>do pure (f.offset,←sizeOf f.type)) w= .ok (placesOf T (l.map fun f=>(f.offset,f.type))) w
 |[],_=>by simp[placesOf]
 |f::r,h=>by
  simp only[List.map_cons,List.all_cons,Bool.and_eq_true]at h
  obtain⟨h1,h2⟩:=h
  obtain⟨j,hj⟩:=Option.isSome_iff_exists.1 h1
  have ih:=run_places hT r h2
  simp only[List.mapM_cons,Sem.run_bind,run_sizeOf (hT _ _ hj),Result.andThen_ok,Sem.run_pure,ih]
  simp[placesOf,hj]
theorem Fill.fill{fs:List (Nat × TypeId)}{ps:List (Nat × Value)}{cs ds:List Value}(h:Fill T fs ps cs ds):Instr.fill (fun k=>(placesOf T fs)[k]?) cs.toArray ps=some ds.toArray:=by
 induction h with
 |nil=>rfl
 |cons hf ht hv hl hp _ ih=>rw[fill_one (by simp[placesOf,hf,ht,hl]) hv hp];exact ih
theorem r_build{t:TypeId}{i:TI}{fs:List (Nat × TypeId)}{ps:List (Nat × Operand)}{vs:List (Nat × Value)}{zs cs:List Value}(hs:Sl N L a)(ho:o.op= .build t ps.toArray)(hT:TabOk P T)(hc:tlk T t=some i)(hd:i.d= .st fs)(hall:fs.all (fun p=>(tlk T p.2).isSome)=true)(hp:evp L ps=some vs)(hz:vcF i.z=some zs)(hf:fillF T fs vs zs=some cs):RunV P a o w (.agg cs.toArray):=by
 replace hz:=vcF_ok hz
 replace hf:=fillF_ok hf
 replace hp:=hs.evp hp
 obtain⟨gs,h1,h2⟩:=(hT _ _ hc).st hd
 obtain⟨l⟩:=gs
 subst h2
 have hpl:=run_places (w:=w) hT l hall
 have hfl:=hf.fill
 unfold RunV execOp
 simp only[ho,Instr.build,Sem.run_bind,run_zero (hT _ _ hc),run_und h1,Result.andThen_ok,hz.eq,List.mapM_toArray,Sem.run_map,hpl]
 simp only[List.map_toArray,hp,List.getElem?_toArray,hfl]
 simp
theorem r_buildA{t e:TypeId}{n:Nat}{i j:TI}{ps:List (Nat × Operand)}{vs:List (Nat × Value)}{zs cs:List Value}(hs:Sl N L a)(ho:o.op= .build t ps.toArray)(hT:TabOk P T)(hc:tlk T t=some i)(hd:i.d= .arr n e)(he:tlk T e=some j)(hp:evp L ps=some vs)(hz:vcF i.z=some zs)(hf:fillAF j.sz vs zs=some cs):RunV P a o w (.agg cs.toArray):=by
 replace hz:=vcF_ok hz
 replace hf:=fillAF_ok hf
 replace hp:=hs.evp hp
 have hfl:=hf.fill
 unfold RunV execOp
 simp only[ho,Instr.build,Sem.run_bind,run_zero (hT _ _ hc),run_und ((hT _ _ hc).arr hd),run_sizeOf (hT _ _ he),Result.andThen_ok,hz.eq]
 simp only[List.map_toArray,hp,hfl]
 simp
def Does(P:Program)(a:Act)(o:Oper)(w:World)(K:Value→World→Prop):Prop:=
 match(execOp a.eval o).run P w with
 | .ok (.value v) w'=>K v w'
 | .ok .skip w'=>K undef w'
 | .ok (.enter f args) w'=>Calls P f args w' (fun e w''=>∃v,e= .returned v∧K v w'')
 |_=>False
theorem RunV.does(h:RunV P a o w v):Does P a o w (fun v' w'=>v'=v∧w'=w):=by
 unfold Does;rw[show(execOp a.eval o).run P w=_ from h];exact⟨rfl,rfl⟩
theorem Does.wp{next:Act→World→Prop}{Q:Exit→Act→World→Prop}(h:Does P a o w (fun v w'=>next (a.put o.dst v) w')):o.wp P a w next Q:=by
 unfold Does at h
 unfold Oper.wp
 generalize(execOp a.eval o).run P w=r at*
 cases r with
 |ok n w'=>
  cases n<;>simp only[Oper.upon]at h ⊢<;>first|exact h|exact h.elim|skip
  exact h.mono fun e w'' ⟨v,he,hk⟩=>by subst he;exact hk
 |halt x w'=>exact h.elim
theorem Does.mono{K':Value→World→Prop}(h:Does P a o w K)(hk:∀v w',K v w'→K' v w'):Does P a o w K':=by
 unfold Does at*
 generalize(execOp a.eval o).run P w=r at*
 cases r with
 |ok n w'=>
  cases n<;>first|exact hk _ _ h|exact h.elim|skip
  exact Calls.mono h fun e w'' ⟨v,he,h'⟩=>⟨v,he,hk _ _ h'⟩
 |halt x w'=>exact h.elim
end
section
variable {P:Program} {T:List (Nat × TI)} {N:Nat} {L:List (Nat × Value)} {a:Act} {w w0:World} {S:Nat→Prop} {M M':List Hp} {o:Oper} {x y z:Operand} {v u:Value} {K:Value→World→Prop}
theorem d_alloc{e:TypeId}{i:TI}{cs:List Value}(ho:o.op= .alloc e)(hT:TabOk P T)(hc:tlk T e=some i)(hz:vcF i.z=some cs)(hm:Mm S w0 M w):
  Does P a o w (fun v w'=>∃g,v= .pointer (some ⟨g,0,none⟩)∧w.heap.size≤g∧Mm S w0 (⟨some g,e,cs⟩::M) w'):=by
 replace hz:=vcF_ok hz
 unfold Does execOp
 simp[ho,Instr.alloc,run_zero (hT _ _ hc),newVar,newRow,hz.eq]
 exact hm.alloc e cs
theorem d_box{e:TypeId}{cs:List Value}(hs:Sl N L a)(ho:o.op= .box e x)(hx:ev L x=some v)(hz:vcF v=some cs)(hm:Mm S w0 M w):
  Does P a o w (fun v w'=>∃g,v= .pointer (some ⟨g,0,none⟩)∧w.heap.size≤g∧Mm S w0 (⟨some g,e,cs⟩::M) w'):=by
 replace hz:=vcF_ok hz
 replace hx:=hs.ev hx
 unfold Does execOp
 simp[ho,hx,Instr.box,newVar,newRow,hz.eq]
 exact hm.alloc e cs
def zrep:Nat→List Value→List Value
 |0,_=>[]
 |n+1,z=>z++zrep n z
theorem zrep_eq(n:Nat)(z:List Value):(Array.range (n*z.length)).map (fun k=>z.toArray[k%z.toArray.size]!)=(zrep n z).toArray:=by
 induction n with
 |zero=>simp[zrep,Array.range]
 |succ n ih=>
  rcases Nat.eq_zero_or_pos z.length with h0|h0
  ·have:z=[]:=List.eq_nil_of_length_eq_zero h0
   subst this
   have e:∀m,zrep m []=[]:=fun m=>by induction m<;>simp_all [zrep]
   simp[e,Array.range]
  ·have hz:(zrep n z).length=n*z.length:=by
    have:=congrArg Array.size ih
    simpa using this.symm
   apply Array.ext
   ·simp[zrep,hz,Nat.succ_mul,Nat.add_comm]
   ·intro k h1 h2
    have hk:k<(n+1)*z.length:=by simpa using h1
    simp only[Array.getElem_map,Array.getElem_range,zrep,List.getElem_toArray]
    by_cases hlt:k<z.length
    ·rw[List.getElem_append_left hlt]
     simp[Nat.mod_eq_of_lt hlt,hlt]
    ·rw[List.getElem_append_right (by omega)]
     have hk':k-z.length<n*z.length:=by rw[Nat.succ_mul]at hk;omega
     have e:=congrArg (fun(A:Array Value)=>A[k-z.length]?) ih
     simp only[Array.getElem?_map,List.getElem?_toArray]at e
     rw[List.getElem?_eq_getElem (by rw[hz];exact hk')]at e
     rw[Array.getElem?_range,if_pos hk']at e
     simp only[Option.map_some,Option.some.injEq]at e
     rw[←e]
     congr 1
     rw[Nat.mod_eq_sub_mod (by simpa using Nat.le_of_not_lt hlt)]
     simp
theorem d_buildSlice{t e:TypeId}{n:Nat}{i j:TI}{ps:List (Nat × Operand)}{vs:List (Nat × Value)}{zs cs:List Value}(hs:Sl N L a)(ho:o.op= .buildSlice t n ps.toArray)(hT:TabOk P T)(hc:tlk T t=some i)(hd:i.d= .sl e)(he:tlk T e=some j)(hn:Nat.blt (n*j.sz) 16777216=true)(h0:Nat.beq (n*j.sz) 0=false)(hp:evp L ps=some vs)(hz:vcF j.z=some zs)(hzl:zs.length=j.sz)(hf:fillAF j.sz vs (zrep n zs)=some cs)(hm:Mm S w0 M w):
  Does P a o w (fun v w'=>∃g,v= .slice (some ⟨g,0,none⟩) n n∧w.heap.size≤g∧Mm S w0 (⟨some g,e,cs⟩::M) w'):=by
 replace hz:=vcF_ok hz
 replace hf:=fillAF_ok hf
 replace hp:=hs.evp hp
 have hfl:=hf.fill
 have hn':¬n*j.sz>2 ^ 24:=by
  have:n*j.sz<16777216:=by simpa using hn
  omega
 have h0':¬n*j.sz=0:=fun e=>by rw[e]at h0;cases h0
 have hzr:=zrep_eq n zs
 rw[hzl]at hzr
 unfold Does execOp
 simp only[ho,Instr.buildSlice,Sem.run_bind,run_und ((hT _ _ hc).sl hd),run_sizeOf (hT _ _ he),Result.andThen_ok,if_neg hn',if_neg h0',Sem.run_pure,run_zero (hT _ _ he),hz.eq,hzr]
 simp only[List.map_toArray,hp,hfl]
 simp[newRow]
 exact hm.alloc e cs
theorem d_makeSlice{t e:TypeId}{n:Nat}{kk kl:IntKind}{i j:TI}{zs:List Value}(hs:Sl N L a)(ho:o.op= .makeSlice t x y)(hx:ev L x=some (.int kk (n:Int)))(hy:ev L y=some (.int kl (n:Int)))(hT:TabOk P T)(hc:tlk T t=some i)(hd:i.d= .sl e)(he:tlk T e=some j)(hz:vcF j.z=some zs)(hzl:zs.length=j.sz)(hn:n≤1048576)(hsz:Nat.ble j.by_ 1048576=true)(hm:Mm S w0 M w):
  Does P a o w (fun v w'=>∃g,v= .slice (some ⟨g,0,none⟩) n n∧w.heap.size≤g∧Mm S w0 (⟨some g,e,zrep n zs⟩::M) w'):=by
 replace hz:=vcF_ok hz
 replace hx:=hs.ev hx;replace hy:=hs.ev hy
 obtain⟨i0,h1,h2,h3,h4⟩:=(hT _ _ he).info
 have hb:j.by_≤1048576:=by simpa using hsz
 have hmul:j.by_*n≤1048576*1048576:=Nat.mul_le_mul hb hn
 have:=run_make w t e i0 j.z ((hT _ _ hc).sl hd) h1 h2 kk kl n n (by omega) (by omega) (by rw[h4];rw[←Int.natCast_mul];exact Int.ofNat_le.2 (show j.by_*n≤281474976710656 by omega)) (by omega)
 have e1:madeCells j.z.cells (n*i0.size)=(zrep n zs).toArray:=by
  rw[h3,hz.eq,←hzl,←zrep_eq]
  rfl
 simp only[Int.toNat_natCast]at this
 rw[e1]at this
 unfold Does execOp
 simp only[ho,hx,hy,Sem.run_bind,this,Result.andThen_ok]
 exact⟨_,rfl,Nat.le_refl _,hm.alloc e _⟩
theorem setRow_fr{g:Nat}{A:Array Value}:Fr (fun k=>(some g:Option Nat)=some k) w (w.setRow g A):=by
 refine⟨rfl,rfl,rfl,by simp[World.setRow],fun k hk hne=>?_⟩
 have:¬g=k:=fun e=>hne (by rw[e])
 simp[World.setRow,Array.getElem?_modify,this]
theorem setRow_sat{g:Nat}{t:TypeId}{cs ds:List Value}(h:(⟨some g,t,cs⟩:Hp).sat w):(⟨some g,t,ds⟩:Hp).sat (w.setRow g ds.toArray):=by
 have h':w.heap[g]?=some (.cells cs.toArray t (0,0)):=h
 show(w.setRow g ds.toArray).heap[g]?=_
 exact setRow_heap w g _ _ t _ h'
theorem Mm.store(hm:Mm S w0 M w){g:Nat}{t:TypeId}{cs ds:List Value}(hr:Rep M ⟨some g,t,cs⟩ ⟨some g,t,ds⟩ M'):Mm S w0 M' (w.setRow g ds.toArray):=
 hm.turn hr setRow_fr (setRow_sat (hm.me _ hr.mem)) fun _ hk=> .inl hk
theorem run_store_hp{g n:Nat}{t ty:TypeId}{i:TI}{cs ds vs:List Value}(hT:TabOk P T)(hc:tlk T ty=some i)(hl:vs.length=i.sz)(hz:VC v vs)(h1:vs.all (·.oneCell')=true)(hp:Put cs n vs ds)(hs:(⟨some g,t,cs⟩:Hp).sat w):
  Sem.run P (Instr.storeAt ty (.pointer (some ⟨g,n,none⟩)) v) w= .ok () (w.setRow g ds.toArray):=by
 obtain⟨h2,rfl⟩:=hp.eq
 have:=run_storeCells_at (P:=P) g n t vs 0 cs.toArray w hs (by simpa using h2) (fun u hu=>List.all_eq_true.1 h1 u hu)
 simp only[Nat.add_zero]at this
 simp[Instr.storeAt,Instr.sureAddr,storeVar,run_sizeOf (hT _ _ hc),hz.eq,hl,this]
theorem d_store{g n:Nat}{t ty:TypeId}{i:TI}{cs ds vs:List Value}(hs:Sl N L a)(ho:o.op= .store ty x y)(hx:ev L x=some (.pointer (some ⟨g,n,none⟩)))(hy:ev L y=some v)(hT:TabOk P T)(hc:tlk T ty=some i)(hz:vcF v=some vs)(hl:vs.length=i.sz)(h1:vs.all (·.oneCell')=true)(hm:Mm S w0 M w)(hr:Rep M ⟨some g,t,cs⟩ ⟨some g,t,ds⟩ M')(hp:putF cs n vs=some ds):
  Does P a o w (fun _ w'=>Mm S w0 M' w'):=by
 replace hz:=vcF_ok hz
 replace hp:=putF_ok hp
 replace hx:=hs.ev hx;replace hy:=hs.ev hy
 unfold Does execOp
 simp only[ho,hx,hy,Sem.run_bind,run_store_hp hT hc hl hz h1 hp (hm.me _ hr.mem),Result.andThen_ok]
 exact hm.store hr
theorem putF_nil(cs:List Value):putF cs 0 []=some cs:=by cases cs<;>rfl
theorem putF_one{cs:List Value}{n:Nat}{v:Value}(hn:n<cs.length):putF cs n [v]=some (cs.set n v):=by
 induction cs generalizing n with
 |nil=>simp at hn
 |cons c r ih=>
  cases n with
  |zero=>simp[putF,putF_nil]
  |succ n=>simp only[putF,ih (show n<r.length by simpa using hn),List.set_cons_succ]
theorem d_store1{g n:Nat}{t ty:TypeId}{i:TI}{cs:List Value}(hs:Sl N L a)(ho:o.op= .store ty x y)(hx:ev L x=some (.pointer (some ⟨g,n,none⟩)))(hy:ev L y=some v)(hT:TabOk P T)(hc:tlk T ty=some i)(hz:vcF v=some [v])(hl:Nat.beq i.sz 1=true)(h1:v.oneCell'=true)(hm:Mm S w0 M w)(hr:Rep M ⟨some g,t,cs⟩ ⟨some g,t,cs.set n v⟩ M')(hn:n<cs.length):
  Does P a o w (fun _ w'=>Mm S w0 M' w'):=
 d_store hs ho hx hy hT hc hz (by rw[Nat.eq_of_beq_eq_true hl];rfl) (by simp[h1]) hm hr (putF_one hn)
theorem d_append{t e:TypeId}{i j:TI}{A:Option Nat}{A2:Option Addr}{n c m c2 g2 o2:Nat}{xs cs news:List Value}{ts:Array TypeId}(hs:Sl N L a)(ho:o.op= .call {callee:= .builtin .append,args:=#[x,y],argTypes:=ts})(hx:ev L x=some (slv A n c))(hy:ev L y=some (.slice A2 m c2))(hA2:A2=some ⟨g2,o2,none⟩)(hts:ts=#[t,t])(hT:TabOk P T)(hc:tlk T t=some i)(hd:i.d= .sl e)(he:tlk T e=some j)(hsz:Nat.blt 0 j.sz=true)(hzl:j.z.cells.size=j.sz)
  (hm:Mm S w0 M w) (hM:(⟨A,e,cs⟩:Hp)∈M) (hr:Row A n c j.sz xs cs) (hl:news.length=m*j.sz) (hnew:Ro w g2 o2 news) (h1:news.all (·.oneCell')=true) (hb:(n+m)*j.by_≤140737488355328) (h63:n+m≤140737488355328):
  Does P a o w (fun v w'=>∃A' c' cs',v=slv A' (n+m) c'∧Row A' (n+m) c' j.sz (xs++news) cs'∧∀M',Rep M ⟨A,e,cs⟩ ⟨A',e,cs'⟩ M'→Mm S w0 M' w'):=by
 replace hx:=hs.ev hx;replace hy:=hs.ev hy
 subst hA2;subst hts
 obtain⟨i0,q1,q2,q3,q4⟩:=(hT _ _ he).info
 have hsz':0<j.sz:=by simpa using hsz
 have hown:=hr.own (w:=w) (base:=0) (hm.me _ hM) (fun g _=>Nat.zero_le _)
 obtain⟨v',w',hrun,k1,k2,k3,k4⟩:=run_append_own_at (P:=P) w 0 t o.type e i0 j.z j.sz j.by_ ((hT _ _ hc).sl hd) q1 q2 q3 q4 hzl hsz' _ n xs hown ⟨g2,o2,none⟩ m c2 news hl
  (fun k u hu=>by rw[add_lit];exact hnew k u hu) (fun u hu=>List.all_eq_true.1 h1 u hu) (by unfold maxLen;omega) hb (Nat.zero_le _)
 obtain⟨A',c',cs',rfl,hrow,hsat,hg'⟩:=Row.of_own k1
 unfold Does execOp resolve invoke builtin
 simp only[ho,Sem.run_bind,Sem.run_pure,Result.andThen_ok,List.map_toArray,List.map_cons,List.map_nil,hx,hy,hrun]
 have hob:(slv A n c).ownBlock=A:=by cases A<;>rfl
 rw[hob]at k2 k4
 refine⟨A',c',cs',rfl,hrow,fun M' hR=>hm.turn hR ⟨k2.os,k2.tape,k2.output,k2.size,fun k hk hne=>k2.block k hk (fun e=>hne e.symm)⟩ hsat fun g hg=>?_⟩
 have h5:=(hg' g hg).1
 have hob':(slv A' (n+m) c').ownBlock=A':=by cases A'<;>rfl
 rw[hob']at k4
 rcases k4 with h6|h6
 ·left;show A=some g;rw[←h6];exact hg
 ·right;have h7:A'=some g:=hg
  rw[h7]at h6;cases h6;exact Nat.le_refl _
structure plain(P:Program)(f:FuncId):Prop where
 h:(P.funcs[f]?).map (fun fn=>!(fn.name== "runtime.NumGoroutine")&&fn.body.isSome)=some true
structure Ret(P:Program)(f:FuncId)(vs:List Value)(w:World)(K:Value→World→Prop):Prop where
 c:Calls P f vs.toArray w (fun e w'=>∃v,e= .returned v∧K v w')
theorem Ret.mono{f:FuncId}{vs:List Value}{K':Value→World→Prop}(h:Ret P f vs w K)(hk:∀v w',K v w'→K' v w'):Ret P f vs w K':= .mk<|Calls.mono h.c fun _ _ ⟨v,he,hv⟩=>⟨v,he,hk _ _ hv⟩
theorem d_callC{fo:Operand}{xs:List Operand}{vs caps:List Value}{ts:Array TypeId}{f:FuncId}(hs:Sl N L a)(ho:o.op= .call {callee:= .value fo,args:=xs.toArray,argTypes:=ts})(hf:ev L fo=some (.func (.func f) #[] caps.toArray))(hx:evs L xs=some vs)(hp:plain P f)
  (hc:Ret P f (vs++caps) w K):Does P a o w K:=by
 replace hf:=hs.ev hf;replace hx:=hs.evs hx
 replace hp:=hp.h
 rw[Option.map_eq_some_iff]at hp
 obtain⟨fn,h1,h2⟩:=hp
 simp only[Bool.and_eq_true,Bool.not_eq_true']at h2
 have h3:fn.body.isNone=false:=by cases hb:fn.body<;>simp_all
 unfold Does execOp resolve Deferred.ofValue
 simp only[ho,hf,Sem.run_bind,Sem.run_pure,Result.andThen_ok,List.map_toArray,hx]
 unfold invoke callFunc
 simp only[Sem.run_bind,run_program,Result.andThen_ok,h1,h2.1,h3,Bool.false_eq_true,if_false,Sem.run_pure,List.append_toArray]
 exact hc.c
theorem d_call{fo:Operand}{xs:List Operand}{vs:List Value}{ts:Array TypeId}{f:FuncId}(hs:Sl N L a)(ho:o.op= .call {callee:= .value fo,args:=xs.toArray,argTypes:=ts})(hf:ev L fo=some (.func (.func f) #[] #[]))(hx:evs L xs=some vs)(hp:plain P f)
  (hc:Ret P f vs w K):Does P a o w K:=d_callC (caps:=[]) hs ho hf hx hp (by rw[List.append_nil];exact hc)
end
section
variable {P:Program} {T:List (Nat × TI)} {N:Nat} {L L':List (Nat × Value)} {a:Act} {w w0:World} {S:Nat→Prop} {M M':List Hp} {o:Oper} {x y z:Operand} {v u:Value} {K:Value→World→Prop} {Q:Exit→Act→World→Prop} {ops:Array Oper} {rest:List Oper}
theorem st{d:Nat}(hs:Sl N L a)(hg:o.guard=none)(ho:o.dst=some d)(hd:Nat.blt d N=true)(h:Does P a o w K)(k:∀v w',K v w'→∀a,Sl N ((d,v)::L) a→wpList P ops Q rest a w'):wpList P ops Q (o::rest) a w:=
 wpList_plain hg fun K' hK=>Does.wp (h.mono fun v w' hk=>hK _ _ (by rw[ho];exact k v w' hk _ (hs.put v hd)))
theorem stn(hs:Sl N L a)(hg:o.guard=none)(ho:o.dst=none)(h:Does P a o w K)(k:∀v w',K v w'→∀a,Sl N L a→wpList P ops Q rest a w'):wpList P ops Q (o::rest) a w:=
 wpList_plain hg fun K' hK=>Does.wp (h.mono fun v w' hk=>hK _ _ (by rw[ho];exact k v w' hk _ hs))
theorem yielded_of{j d:Nat}{b:Bool}(hs:Sl N L a)(hj:(ops[j]?).bind (·.dst)=some d) (hd:Nat.blt d N=true) (hv:lk L d=some (.bool b)):yielded ops a.tmps j=some b:=by
 have h:=hs.sl d _ hv
 have hd':d<a.tmps.size:=by rw[hs.sz];simpa using hd
 have h1:a.tmps[d]?=some (.bool b):=by
  rw[Array.getD_eq_getD_getElem?,Array.getElem?_eq_getElem hd']at h
  rw[Array.getElem?_eq_getElem hd']
  simpa using h
 unfold yielded
 simp[hj,h1]
theorem yielded_un{j d:Nat}(hs:Sl N L a)(hj:(ops[j]?).bind (·.dst)=some d) (hd:Nat.blt d N=true) (hv:lk L d=some undef):yielded ops a.tmps j=none:=by
 have h:=hs.sl d _ hv
 have hd':d<a.tmps.size:=by rw[hs.sz];simpa using hd
 have h1:a.tmps[d]?=some undef:=by
  rw[Array.getD_eq_getD_getElem?,Array.getElem?_eq_getElem hd']at h
  rw[Array.getElem?_eq_getElem hd']
  simpa using h
 unfold yielded
 simp[hj,h1]
 rfl
inductive Wnt (ops:Array Oper) (N:Nat) (L:List (Nat × Value)) (o:Oper):Prop
 |none (h:o.guard=none):Wnt ops N L o
 |some {j e:Nat} {b:Bool} (h:o.guard=some (j,b)) (hj:(ops[j]?).bind (·.dst)=Option.some e) (he:Nat.blt e N=true) (hv:lk L e=Option.some (.bool b)):Wnt ops N L o
theorem Wnt.yes(hs:Sl N L a)(h:Wnt ops N L o):Region.wanted o (yielded ops a.tmps)=true:=by
 cases h with
 |none h=>simp[Region.wanted,h]
 |some h hj he hv=>simp[Region.wanted,h,yielded_of hs hj he hv]
theorem dv{d:Nat}(hs:Sl N L a)(hg:Wnt ops N L o)(ho:o.dst=some d)(hd:Nat.blt d N=true)(h:Does P a o w K)(k:∀v w',K v w'→∀a,Sl N ((d,v)::L) a→wpList P ops Q rest a w'):wpList P ops Q (o::rest) a w:=
 wpList_step fun K' hK=>by
  rw[if_pos (hg.yes hs)]
  exact Does.wp (h.mono fun v w' hk=>hK _ _ (by rw[ho];exact k v w' hk _ (hs.put v hd)))
theorem cIf{c:Operand}{A B:Code}{b:Bool}(hs:Sl N L a)(hc:ev L c=some (.bool b))(ht:b=true→A.wp P Q a w)(hf:b=false→B.wp P Q a w):(Code.cond c A B).wp P Q a w:=
 wp_cond_split (hs.ev hc) ht hf
theorem cTrue{c:Operand}{A B:Code}{b:Bool}(hs:Sl N L a)(hc:ev L c=some (.bool b))(hb:b=true)(ht:A.wp P Q a w):(Code.cond c A B).wp P Q a w:=
 cIf hs hc (fun _=>ht) fun h=>by rw[hb]at h;cases h
theorem cFalse{c:Operand}{A B:Code}{b:Bool}(hs:Sl N L a)(hc:ev L c=some (.bool b))(hb:b=false)(hf:B.wp P Q a w):(Code.cond c A B).wp P Q a w:=
 cIf hs hc (fun h=>by rw[hb]at h;cases h) fun _=>hf
theorem cCond{c:Operand}{A B:Code}(h:(Code.cond c A B).wp P Q a w):(Code.cond c A B).wp P Q a w:=h
theorem cLoop{X:Type}{c:Code}(I:X→Act→World→Prop)(m:X→Nat)(x0:X)(h0:I x0 a w)(hr:∀x a w,I x a w→c.wp P (Exit.then (fun a' w'=>∃x',m x'<m x∧I x' a' w') Q) a w):(Code.loop c).wp P Q a w:=by
 refine wp_loop_ghost (fun n a w=>∃x,m x=n∧I x a w) (m x0) ⟨x0,rfl,h0⟩ fun n a w ⟨x,hx,hI⟩=>?_
 refine wp_mono (hr x a w hI) fun e a' w' q=>?_
 cases e<;>first|exact q|skip
 obtain⟨x',h1,h2⟩:=q
 exact⟨m x',by rw[←hx];exact h1,x',rfl,h2⟩
def Goes(Q:Exit→Act→World→Prop)(e:Exit)(a:Act)(w:World):Prop:=Q e a w
theorem lCons(h:wpList P ops Q (o::rest) a w):wpList P ops Q (o::rest) a w:=h
theorem lNilThen{n:Act→World→Prop}(h:n a w):wpList P ops (Exit.then n Q) [] a w:=h
theorem lNilBlock{i:Nat}(h:wpList P ops Q [] a w):wpList P ops (Exit.inBlock i Q) [] a w:=h
theorem lNil(h:Goes Q .normal a w):wpList P ops Q [] a w:=h
theorem cExit{i:Nat}(h:Goes Q (.exit i) a w):(Code.exit i).wp P Q a w:=wp_exit h
theorem cRet(h:Goes Q .ret a w):Code.ret.wp P Q a w:=wp_ret h
theorem cSkip(h:Goes Q .normal a w):Code.skip.wp P Q a w:=wp_skip h
theorem gThen{n:Act→World→Prop}(h:n a w):Goes (Exit.then n Q) .normal a w:=h
theorem gBlock{i:Nat}(h:Goes Q .normal a w):Goes (Exit.inBlock i Q) .normal a w:=h
theorem eThen{n:Act→World→Prop}{i:Nat}(h:Goes Q (.exit i) a w):Goes (Exit.then n Q) (.exit i) a w:=h
theorem eBlockHit{i:Nat}(h:Goes Q .normal a w):Goes (Exit.inBlock i Q) (.exit i) a w:=by
 show(if i=i then Q .normal a w else Q (.exit i) a w)
 rw[if_pos rfl];exact h
theorem eBlock{i j:Nat}(hij:Nat.beq i j=false)(h:Goes Q (.exit i) a w):Goes (Exit.inBlock j Q) (.exit i) a w:=by
 show(if i=j then Q .normal a w else Q (.exit i) a w)
 rw[if_neg (fun e=>by subst e;simp at hij)];exact h
theorem rThen{n:Act→World→Prop}(h:Goes Q .ret a w):Goes (Exit.then n Q) .ret a w:=h
theorem rBlock{i:Nat}(h:Goes Q .ret a w):Goes (Exit.inBlock i Q) .ret a w:=h
def slotsOf:Nat→List Value→List (Nat × Value)
 |_,[]=>[]
 |n,v::r=>(n,v)::slotsOf (n+1) r
theorem lk_slotsOf:∀(vs:List Value)(n k:Nat)(v:Value),lk (slotsOf n vs) k=some v→n≤k∧vs[k-n]?=some v
 |[],n,k,v,h=>by cases h
 |u::r,n,k,v,h=>by
  simp only[slotsOf,lk]at h
  cases hb:Nat.beq n k with
  |true=>
   rw[hb]at h
   have:n=k:=Nat.eq_of_beq_eq_true hb
   subst this
   simpa using h
  |false=>
   rw[hb]at h
   have h1:n≠k:=fun e=>by subst e;simp at hb
   obtain⟨h2,h3⟩:=lk_slotsOf r (n+1) k v h
   refine⟨by omega,?_⟩
   have e:k-n=(k-(n+1))+1:=by omega
   rw[e];simpa using h3
theorem Sl.enter{vs:List Value}(hN:vs.length≤N):Sl N (slotsOf 0 vs) {tmps:=vs.toArray++Array.replicate (N-vs.length) undef,defers:=[]}:=by
 refine⟨rfl,by simp;omega,fun k v hk=>?_⟩
 obtain⟨_,h⟩:=lk_slotsOf vs 0 k v hk
 have hlt:k<vs.length:=by
  rcases Nat.lt_or_ge k vs.length with h1|h1
  ·exact h1
  ·rw[List.getElem?_eq_none (by simpa using h1)]at h;cases h
 rw[Array.getD_eq_getD_getElem?,Array.getElem?_append_left (by simpa using hlt)]
 simp at h ⊢
 rw[h];rfl
theorem enter{f:FuncId}{fn:Func}{c:Code}{vs:List Value}{R:Ending→World→Prop}(hf:P.funcs[f]?=some fn) (hb:fn.body=some c) (hn:fn.ntmps=N) (hN:Nat.ble vs.length N=true)
  (h:∀a,Sl N (slotsOf 0 vs) a→c.wp P (bodyPost P fn R) a w):Calls P f vs.toArray w R:=by
 subst hn
 exact calls_of_wp hf hb (by rw[List.size_toArray];exact h _ (Sl.enter (by simpa using hN)))
theorem enterR{f:FuncId}{fn:Func}{c:Code}{vs:List Value}(hf:P.funcs[f]?=some fn) (hb:fn.body=some c) (hn:fn.ntmps=N) (hN:Nat.ble vs.length N=true)
  (h:∀a,Sl N (slotsOf 0 vs) a→Mm (fun _=>False) w [] w→c.wp P (bodyPost P fn (fun e w'=>∃v,e= .returned v∧K v w')) a w):Ret P f vs w K:=
 .mk<|enter hf hb hn hN fun a hs=>h a hs (Mm.nil _ _)
theorem gRet1{fn:Func}{t:Nat}(hs:Sl N L a)(hf:fn.results=#[.tmp t])(hv:lk L t=some v)(h:K v w):Goes (bodyPost P fn (fun e w'=>∃v,e= .returned v∧K v w')) .ret a w:=
 ⟨hs.nd,v,by rw[results_tmp hf,hs.sl t v hv],v,rfl,h⟩
inductive ResIs (T:List (Nat × TI)) (L:List (Nat × Value)) (w:World):ResultVar→Value→Prop
 |tmp {t:Nat} {v:Value} (h:lk L t=some v):ResIs T L w (.tmp t) v
 |cell {t:Nat} {ty:TypeId} {i:TI} {p:Addr} {v:Value} (h:lk L t=some (.pointer (some p))) (hc:tlk T ty=some i) (hf:i.d.flat=true) (hw:w.cell? p=some v):ResIs T L w (.cell t ty) v
 |cells {t:Nat} {ty:TypeId} {i:TI} {b n:Nat} {vs:List Value} (h:lk L t=some (.pointer (some ⟨b,n,none⟩))) (hc:tlk T ty=some i) (hf:i.d.flat=false) (hl:vs.length=i.sz) (hw:Ro w b n vs):ResIs T L w (.cell t ty) (.agg vs.toArray)
inductive AllRes (T:List (Nat × TI)) (L:List (Nat × Value)) (w:World):List ResultVar→List Value→Prop
 |nil:AllRes T L w [] []
 |cons {r:ResultVar} {v:Value} {rs:List ResultVar} {vs:List Value} (h:ResIs T L w r v) (t:AllRes T L w rs vs):AllRes T L w (r::rs) (v::vs)
theorem ResIs.run{r:ResultVar}(hT:TabOk P T)(hs:Sl N L a)(h:ResIs T L w r v):Sem.run P (match r with| .tmp t=>(pure (a.tmps.getD t undef):Sem Value)| .cell b t=>do loadVar t (←asAddr (a.tmps.getD b undef))) w= .ok v w:=by
 cases h with
 |tmp h=>simp only[hs.sl _ _ h,Sem.run_pure]
 |cell h hc hf hw=>simp[hs.sl _ _ h,asAddr,loadVar,run_isAgg (hT _ _ hc),hf,hw]
 |cells h hc hf hl hw=>
  rename_i b n vs
  have h':=run_loadCells_list (P:=P) w ⟨b,n,none⟩ vs (fun j u hu=>by rw[add_lit];exact hw j u hu)
  rw[hl]at h'
  simp[hs.sl _ _ h,asAddr,loadVar,run_isAgg (hT _ _ hc),hf,run_sizeOf (hT _ _ hc),h']
theorem AllRes.run{rs:List ResultVar}{vs:List Value}(hT:TabOk P T)(hs:Sl N L a)(h:AllRes T L w rs vs):Sem.run P (rs.mapM fun r=>match r with| .tmp t=>(pure (a.tmps.getD t undef):Sem Value)| .cell b t=>do loadVar t (←asAddr (a.tmps.getD b undef))) w= .ok vs w:=by
 induction h with
 |nil=>simp
 |cons h _ ih=>
  have h1:=h.run hT hs
  simp only[List.mapM_cons,Sem.run_bind]
  rw[h1]
  simp only[Result.andThen_ok]
  rw[ih]
  simp
def resV:List Value→Value
 |[v]=>v
 |vs=> .tuple vs.toArray
theorem retN{fn:Func}{rs:List ResultVar}{vs:List Value}{R:Ending→World→Prop}(hT:TabOk P T)(hs:Sl N L a)(hf:fn.results=rs.toArray)(hv:AllRes T L w rs vs)(h:R (.returned (resV vs)) w):bodyPost P fn R .ret a w:=by
 refine⟨hs.nd,_,?_,h⟩
 have h1:=hv.run hT hs
 unfold results
 simp only[hf,Sem.run_bind,List.mapM_toArray,Sem.run_map]
 erw [h1]
 simp only[Result.andThen_ok,Sem.run_pure,List.size_toArray]
 cases vs with
 |nil=>rfl
 |cons v r=>cases r<;>rfl
theorem gRetN{fn:Func}{rs:List ResultVar}{vs:List Value}(hT:TabOk P T)(hs:Sl N L a)(hf:fn.results=rs.toArray)(hv:AllRes T L w rs vs)(h:K (resV vs) w):Goes (bodyPost P fn (fun e w'=>∃v,e= .returned v∧K v w')) .ret a w:=retN hT hs hf hv ⟨_,rfl,h⟩
theorem retEnd{fn:Func}{rs:List ResultVar}{vs:List Value}{R:Ending→World→Prop}(hT:TabOk P T)(hs:Sl N L a)(hf:fn.results=rs.toArray)(hv:AllRes T L w rs vs)(h:R (.returned (resV vs)) w):bodyPost P fn R .normal a w:=retN hT hs hf hv h
end
section
variable {P:Program} {T:List (Nat × TI)} {N:Nat} {L:List (Nat × Value)} {a:Act} {w w0:World} {S:Nat→Prop} {M:List Hp} {o:Oper} {x y z:Operand} {v u:Value}
theorem r_loadO{t t':TypeId}{i:TI}{b n k:Nat}{cs vs:List Value}(hs:Sl N L a)(ho:o.op= .load t x)(hx:ev L x=some (.pointer (some ⟨b,n,none⟩)))(hT:TabOk P T)(hc:tlk T t=some i)(hf:i.d.flat=false)(hk:i.sz=k)(hm:Mm S w0 M w)(hM:(⟨some b,t',cs⟩:Hp)∈M)(hv:cutF cs n k=some vs):RunV P a o w (.agg vs.toArray):=
 r_loadA hs ho hx hT hc hf (hm.ro hM (cutF_ok hv)) (by rw[hk];exact(cutF_ok hv).len)
theorem r_pickT(hs:Sl N L a)(ho:o.op= .pick x y z)(hx:ev L x=some (.bool true))(hy:ev L y=some v):RunV P a o w v:=by
 replace hx:=hs.ev hx;replace hy:=hs.ev hy
 unfold RunV execOp
 simp[ho,hx,hy,asBool]
theorem r_pickF(hs:Sl N L a)(ho:o.op= .pick x y z)(hx:ev L x=some (.bool false))(hz:ev L z=some v):RunV P a o w v:=by
 replace hx:=hs.ev hx;replace hz:=hs.ev hz
 unfold RunV execOp
 simp[ho,hx,hz,asBool]
theorem r_quo64{t yt:TypeId}{n m:Int}(hs:Sl N L a)(ho:o.op= .binOp .quo t x y yt)(hx:ev L x=some (.int .i64 n))(hy:ev L y=some (.int .i64 m))(hn:0≤n∧n≤9223372036854775807)(hm:0<m):RunV P a o w (.int .i64 (n/m)):=by
 have h:=r_quo (P:=P) (w:=w) hs ho hx hy (by omega)
 rwa[ediv_wrap64 hn.1 hn.2 hm]at h
theorem r_rem64{t yt:TypeId}{k:IntKind}{n m:Int}(hs:Sl N L a)(ho:o.op= .binOp .rem t x y yt)(hx:ev L x=some (.int k n))(hy:ev L y=some (.int k m))(hn:0≤n)(hm:0<m):RunV P a o w (.int k (n%m)):=by
 have h:=r_rem (P:=P) (w:=w) hs ho hx hy (by omega)
 rwa[Int.tmod_eq_emod_of_nonneg hn]at h
theorem run_eqB{t:TypeId}{b c:Bool}(h:P.underlying t=some .bool):Sem.run P (Op.equal t (.bool b) (.bool c)) w= .ok (b==c) w:=by
 unfold Op.equal Op.maxDepth Op.equalIn
 simp[run_und h]
theorem r_eqlB{t yt:TypeId}{i:TI}{b c:Bool}(hs:Sl N L a)(ho:o.op= .binOp .eql t x y yt)(hx:ev L x=some (.bool b))(hy:ev L y=some (.bool c))(hT:TabOk P T)(hc:tlk T t=some i)(hd:i.d= .bool):RunV P a o w (.bool (b==c)):=by
 replace hx:=hs.ev hx;replace hy:=hs.ev hy
 have:=run_eqB (w:=w) (b:=b) (c:=c) ((hT _ _ hc).bool hd)
 unfold RunV execOp
 simp[ho,hx,hy,binOp,this,eqGuard]
theorem r_neqB{t yt:TypeId}{i:TI}{b c:Bool}(hs:Sl N L a)(ho:o.op= .binOp .neq t x y yt)(hx:ev L x=some (.bool b))(hy:ev L y=some (.bool c))(hT:TabOk P T)(hc:tlk T t=some i)(hd:i.d= .bool):RunV P a o w (.bool (!(b==c))):=by
 replace hx:=hs.ev hx;replace hy:=hs.ev hy
 have:=run_eqB (w:=w) (b:=b) (c:=c) ((hT _ _ hc).bool hd)
 unfold RunV execOp
 simp[ho,hx,hy,binOp,this,eqGuard]
theorem run_eqnil{t e:TypeId}{A:Option Addr}{n c:Nat}(h:P.underlying t=some (.slice e)):Sem.run P (Op.equal t (.slice A n c) (.slice none 0 0)) w= .ok A.isNone w:=by
 unfold Op.equal Op.maxDepth Op.equalIn
 cases A<;>simp[run_und h]
theorem r_eqnil{t e yt:TypeId}{i:TI}{A:Option Addr}{n c:Nat}(hs:Sl N L a)(ho:o.op= .binOp .eql t x y yt)(hx:ev L x=some (.slice A n c))(hy:ev L y=some (.slice none 0 0))(hT:TabOk P T)(hc:tlk T t=some i)(hd:i.d= .sl e):RunV P a o w (.bool A.isNone):=by
 replace hx:=hs.ev hx;replace hy:=hs.ev hy
 have:=run_eqnil (w:=w) (A:=A) (n:=n) (c:=c) ((hT _ _ hc).sl hd)
 unfold RunV execOp
 simp[ho,hx,hy,binOp,this,eqGuard]
theorem r_neqnil{t e yt:TypeId}{i:TI}{A:Option Addr}{n c:Nat}(hs:Sl N L a)(ho:o.op= .binOp .neq t x y yt)(hx:ev L x=some (.slice A n c))(hy:ev L y=some (.slice none 0 0))(hT:TabOk P T)(hc:tlk T t=some i)(hd:i.d= .sl e):RunV P a o w (.bool (!A.isNone)):=by
 replace hx:=hs.ev hx;replace hy:=hs.ev hy
 have:=run_eqnil (w:=w) (A:=A) (n:=n) (c:=c) ((hT _ _ hc).sl hd)
 unfold RunV execOp
 simp[ho,hx,hy,binOp,this,eqGuard]
theorem r_seql{t yt:TypeId}{s u:ByteArray}(hs:Sl N L a)(ho:o.op= .binOp .eql t x y yt)(hx:ev L x=some (.string s))(hy:ev L y=some (.string u)):RunV P a o w (.bool (s.toList==u.toList)):=by
 replace hx:=hs.ev hx;replace hy:=hs.ev hy
 unfold RunV execOp
 simp[ho,hx,hy,binOp,Op.stringOp,eqGuard]
theorem r_sneq{t yt:TypeId}{s u:ByteArray}(hs:Sl N L a)(ho:o.op= .binOp .neq t x y yt)(hx:ev L x=some (.string s))(hy:ev L y=some (.string u)):RunV P a o w (.bool (!(s.toList==u.toList))):=by
 replace hx:=hs.ev hx;replace hy:=hs.ev hy
 unfold RunV execOp
 simp[ho,hx,hy,binOp,Op.stringOp,eqGuard]
end
def quietOp:Op→Bool
 | .alloc _| .box ..| .buildSlice ..| .store ..| .makeMap ..| .makeChan ..| .makeSlice ..| .mapUpdate ..| .insert ..| .mapEntry ..| .entryStore ..| .go _| .defer _| .panic _| .send ..| .recv ..| .select ..| .range ..| .next ..| .entry _=>false
 | .call {callee:= .builtin .append,..}| .call {callee:= .builtin .copy,..}| .call {callee:= .builtin .delete,..}| .call {callee:= .builtin .clear,..}=>false
 |_=>true
section
variable {P:Program} {T:List (Nat × TI)} {N:Nat} {L:List (Nat × Value)} {a:Act} {w w0:World} {S:Nat→Prop} {M:List Hp} {o:Oper} {x y z:Operand} {v u:Value} {ops:Array Oper} {rest:List Oper} {Q:Exit→Act→World→Prop} {C:World→Prop} {Qa:Act→Prop}
theorem cQuiet{id:Nat}{l:List Oper}(hm:Mm S w0 M w)(hq:l.all (fun o=>quietOp o.op)=true)(hf:P.follows .mixedOrders=true)(hB:Region.lexB .any l.toArray=true)
  (h:wpQuiet P l.toArray (fun w'=>Mm S w0 M w') (fun a'=>∀w',Mm S w0 M w'→Goes Q .normal a' w') l a):(Code.region id l.toArray true).wp P Q a w:=
 (fun _=>wp_region_quiet (C:=fun w'=>Mm S w0 M w') hf hB hm.drew (show wpQuiet P l.toArray _ _ l.toArray.toList a from h)) hq
theorem qNil(h:∀w',Mm S w0 M w'→Goes Q .normal a w'):wpQuiet P ops C (fun a'=>∀w',Mm S w0 M w'→Goes Q .normal a' w') [] a:=h
theorem qCons(h:wpQuiet P ops C Qa (o::rest) a):wpQuiet P ops C Qa (o::rest) a:=h
theorem qquiet(h:∀w,C w→RunV P a o w v)(k:Qa (a.put o.dst v)):o.quiet P a C Qa:=
 ⟨v,fun w hw=>by unfold Oper.quietAt;rw[show(execOp a.eval o).run P w=_ from h w hw];exact⟨rfl,rfl⟩,k⟩
theorem qquietC{fo:Operand}{xs:List Operand}{vs caps:List Value}{ts:Array TypeId}{f:FuncId}(hs:Sl N L a)(ho:o.op= .call {callee:= .value fo,args:=xs.toArray,argTypes:=ts})(hf:ev L fo=some (.func (.func f) #[] caps.toArray))(hx:evs L xs=some vs)(hp:plain P f)
  (hc:∀w,C w→Ret P f (vs++caps) w (fun v' w'=>v'=v∧C w')) (k:Qa (a.put o.dst v)):o.quiet P a C Qa:=by
 replace hf:=hs.ev hf;replace hx:=hs.evs hx
 replace hp:=hp.h
 rw[Option.map_eq_some_iff]at hp
 obtain⟨fn,h1,h2⟩:=hp
 simp only[Bool.and_eq_true,Bool.not_eq_true']at h2
 have h3:fn.body.isNone=false:=by cases hb:fn.body<;>simp_all
 refine⟨v,fun w hw=>?_,k⟩
 have h4:Calls P f (vs++caps).toArray w (fun e w''=>e= .returned v∧C w''):=by
  have h5:=hc w hw
  replace h5:=h5.c
  exact Calls.mono h5 fun e w' ⟨v',he,hv,hC⟩=>by subst hv;exact⟨he,hC⟩
 unfold Oper.quietAt execOp resolve Deferred.ofValue
 simp only[ho,hf,Sem.run_bind,Sem.run_pure,Result.andThen_ok,List.map_toArray,hx]
 unfold invoke callFunc
 simp only[Sem.run_bind,run_program,Result.andThen_ok,h1,h2.1,h3,Bool.false_eq_true,if_false,Sem.run_pure,List.append_toArray]
 exact⟨rfl,h4⟩
theorem qwcall{d:Nat}{fo:Operand}{xs:List Operand}{vs:List Value}{ts:Array TypeId}{f:FuncId}(hs:Sl N L a)(hg:Wnt ops N L o)(ho':o.dst=some d)(hd:Nat.blt d N=true)(ho:o.op= .call {callee:= .value fo,args:=xs.toArray,argTypes:=ts})(hf:ev L fo=some (.func (.func f) #[] #[]))(hx:evs L xs=some vs)(hp:plain P f)
  (hc:∀w,C w→Ret P f vs w (fun v' w'=>v'=v∧C w')) (k:∀a,Sl N ((d,v)::L) a→wpQuiet P ops C Qa rest a):wpQuiet P ops C Qa (o::rest) a:=by
 unfold wpQuiet
 rw[if_pos (hg.yes hs)]
 exact qquietC (caps:=[]) hs ho hf hx hp (by rw[List.append_nil];exact hc) (by rw[ho'];exact k _ (hs.put v hd))
theorem kLoad{d:Option Tmp}{t:TypeId}{x:Operand}{ty:TypeId}{p:String}{f:Array Edge}{g:Option (Nat × Bool)}(h:RunV P a ⟨d,.load t x,ty,p,f,g⟩ w v):RunV P a ⟨d,.load t x,ty,p,f,g⟩ w v:=h
end
theorem ints_some{xs:List Int}{k:Nat}(h:k<xs.length):(ints xs)[k]?=some (.int .i64 xs[k]):=by simp[ints,h]
section
variable {P:Program} {T:List (Nat × TI)} {N:Nat} {L:List (Nat × Value)} {a:Act} {w w0:World} {S:Nat→Prop} {M M':List Hp} {o:Oper} {x y z:Operand} {v u:Value}
theorem r_min{ts:Array TypeId}{k:IntKind}{n m:Int}(hs:Sl N L a)(ho:o.op= .call {callee:= .builtin .min,args:=#[x,y],argTypes:=ts})(hx:ev L x=some (.int k n))(hy:ev L y=some (.int k m)):RunV P a o w (.int k (min n m)):=by
 replace hx:=hs.ev hx;replace hy:=hs.ev hy
 unfold RunV
 generalize a.eval=ρ at*
 unfold execOp resolve invoke builtin
 simp[ho,hx,hy,go_sem]
 omega
theorem d_buildSlice0{t e:TypeId}{i j:TI}(ho:o.op= .buildSlice t 0 #[])(hT:TabOk P T)(hc:tlk T t=some i)(hd:i.d= .sl e)(he:tlk T e=some j)(hm:Mm S w0 M w):
  Does P a o w (fun v w'=>∃g,v= .slice (some ⟨g,0,none⟩) 0 0∧w.heap.size≤g∧Mm S w0 (⟨some g,e,[]⟩::M) w'):=by
 unfold Does execOp
 simp only[ho,Instr.buildSlice,Sem.run_bind,run_und ((hT _ _ hc).sl hd),run_sizeOf (hT _ _ he),Result.andThen_ok,Nat.zero_mul]
 simp[Instr.fill,newRow,Array.range]
 exact hm.alloc e []
theorem d_appendS{t e:TypeId}{i j:TI}{A:Option Nat}{A2:Option Addr}{n c m c2 B:Nat}{xs cs news:List Value}{ts:Array TypeId}(hs:Sl N L a)(ho:o.op= .call {callee:= .builtin .append,args:=#[x,y],argTypes:=ts})(hx:ev L x=some (slv A n c))(hy:ev L y=some (.slice A2 m c2))(hts:ts=#[t,t])(hT:TabOk P T)(hc:tlk T t=some i)(hd:i.d= .sl e)(he:tlk T e=some j)(hsz:Nat.blt 0 j.sz=true)(hzl:j.z.cells.size=j.sz)
  (hm:Mm S w0 M w) (hM:(⟨A,e,cs⟩:Hp)∈M) (hr:Row A n c j.sz xs cs) (hl:news.length=m*j.sz) (hnew:Rd w B A2 news) (h1:news.all (·.oneCell')=true) (hb:(n+m)*j.by_≤140737488355328) (h63:n+m≤140737488355328):
  Does P a o w (fun v w'=>∃A' c' cs',v=slv A' (n+m) c'∧Row A' (n+m) c' j.sz (xs++news) cs'∧∀M',Rep M ⟨A,e,cs⟩ ⟨A',e,cs'⟩ M'→Mm S w0 M' w'):=by
 have hsz':0<j.sz:=by simpa using hsz
 by_cases h0:0<news.length
 ·obtain⟨b,off,rfl,_,hro⟩:=hnew h0
  exact d_append hs ho hx hy rfl hts hT hc hd he hsz hzl hm hM hr hl hro h1 hb h63
 ·have hn:news=[]:=List.eq_nil_of_length_eq_zero (by omega)
  subst hn
  have hm0:m=0:=by
   have h2:m*j.sz=0:=by simpa using hl.symm
   rcases Nat.mul_eq_zero.1 h2 with h|h
   ·exact h
   ·omega
  subst hm0
  replace hx:=hs.ev hx;replace hy:=hs.ev hy
  subst hts
  have hf:Sem.run P (Builtin.firstCells j.sz 0 (.slice A2 0 c2)) w= .ok #[] w:=by
   cases A2<;>simp[Builtin.firstCells,loadCells,loadCellsFrom]
  have hmt:(match TypeDesc.slice e with|TypeDesc.int _=>true|_=>false)=false:=rfl
  have hrun:Sem.run P (Builtin.append_ #[t,t] o.type #[slv A n c,.slice A2 0 c2]) w= .ok (slv A n c) w:=by
   have hle:n≤c:=hr.le
   unfold Builtin.append_ slv
   cases A<;>simp[run_und ((hT _ _ hc).sl hd),run_sizeOf (hT _ _ he),Builtin.lenOf,hf,hle,storeCells]
  unfold Does execOp resolve invoke builtin
  simp only[ho,Sem.run_bind,Sem.run_pure,Result.andThen_ok,List.map_toArray,List.map_cons,List.map_nil,hx,hy,hrun]
  refine⟨A,c,cs,rfl,by rw[List.append_nil];exact hr,fun M' hR=>?_⟩
  exact hm.turn hR (Fr.refl _ w) (hm.me _ hM) (fun g hg=> .inl hg)
end
section
variable {P:Program} {T:List (Nat × TI)} {N:Nat} {L:List (Nat × Value)} {a:Act} {w w0:World} {o:Oper} {x y z:Operand} {t e:TypeId} {i j:TI} {A:Option Addr} {n c:Nat} {k k':IntKind} {l h:Int}
theorem r_subH{yt:TypeId}{m:Nat}{p q:Int}(hs:Sl N L a)(ho:o.op= .binOp .sub t x y yt)(hx:ev L x=some (.int .i64 p))(hy:ev L y=some (.int .i64 q))(he:p-q=(m:Int))(hb:(m:Int)≤9223372036854775807):RunV P a o w (.int .i64 (m:Int)):=by
 have h:=r_sub64 (P:=P) (w:=w) hs ho hx hy (by omega)
 rwa[he]at h
theorem r_pred{yt:TypeId}{m:Nat}(hs:Sl N L a)(ho:o.op= .binOp .sub t x y yt)(hx:ev L x=some (.int .i64 ((m+1:Nat):Int)))(hy:ev L y=some (.int .i64 1))(hb:(m:Int)≤9223372036854775806):RunV P a o w (.int .i64 (m:Int)):=
 r_subH hs ho hx hy (by omega) (by omega)
theorem add_zero'(p:Addr):p.add 0=p:=by cases p;rfl
theorem r_sliceTo(hs:Sl N L a)(ho:o.op= .slice t x none (some y) none)(hx:ev L x=some (.slice A n c))(hy:ev L y=some (.int k h))(hT:TabOk P T)(hc:tlk T t=some i)(hd:i.d= .sl e)(he:tlk T e=some j)(h0:0≤h)(h1:h≤c):RunV P a o w (.slice A h.toNat c):=by
 replace hx:=hs.ev hx;replace hy:=hs.ev hy
 unfold RunV execOp
 have e1:(A.map fun x=>x.add 0)=A:=by cases A<;>simp[add_zero']
 simp[ho,hx,hy,Instr.sliceAt,Instr.slice,run_und ((hT _ _ hc).sl hd),Instr.sliceBounds,run_sliceBound,h0,h1,run_sizeOf (hT _ _ he),e1]
theorem r_sliceFrom(hs:Sl N L a)(ho:o.op= .slice t x (some y) none none)(hx:ev L x=some (.slice A n c))(hy:ev L y=some (.int k l))(hT:TabOk P T)(hc:tlk T t=some i)(hd:i.d= .sl e)(he:tlk T e=some j)(h0:0≤l)(h1:l≤n):RunV P a o w (.slice (if c=l.toNat then A else A.map (·.add (l.toNat*j.sz))) (n-l.toNat) (c-l.toNat)):=by
 replace hx:=hs.ev hx;replace hy:=hs.ev hy
 unfold RunV execOp
 simp[ho,hx,hy,Instr.sliceAt,Instr.slice,run_und ((hT _ _ hc).sl hd),Instr.sliceBounds,run_sliceBound,h0,h1,run_sizeOf (hT _ _ he)]
theorem Ret.law{f:FuncId}{vs:List Value}(h:Ret P f vs w (fun v w'=>v= .bool true∧Pu w w')):Calls P f vs.toArray w (fun e w'=>e= .returned (.bool true)∧Pu w w'):=
 Calls.mono h.c fun _ _ ⟨_,he,hv,hp⟩=>⟨by rw[he,hv],hp⟩
end
section
variable {P:Program} {T:List (Nat × TI)} {N:Nat} {L:List (Nat × Value)} {a:Act} {w w0 w':World} {S:Nat→Prop} {M M':List Hp} {o:Oper} {x y z:Operand}
def own(M:List Hp)(k:Nat):Prop:=∃x∈M,x.g=some k
theorem Mm.rebase(hm:Mm S w0 M w):Mm (own M) w M w:=⟨hm.me,Fr.refl _ w,hm.dj,fun h hh _ hg=> .inr ⟨h,hh,hg⟩⟩
theorem Mm.own_(hm:Mm S w0 M w){k:Nat}(h:own M k):w0.heap.size≤k∨S k:=by
 obtain⟨x,hx,e⟩:=h
 exact hm.ow x hx k e
theorem Mm.trans(hm:Mm S w0 M w)(hk:Mm (own M) w M' w'):Mm S w0 M' w':=by
 refine⟨hk.me,hm.fr.then hk.fr fun i hi e=>?_,hk.dj,fun h hh g hg=>?_⟩
 ·rcases hm.own_ e with h4|h4
  ·omega
  ·exact h4
 ·rcases hk.ow h hh g hg with h4|h4
  ·exact .inl (Nat.le_trans hm.fr.size h4)
  ·exact hm.own_ h4
end
section
variable (T:List (Nat × TI)) (L:List (Nat × Value))
def pkF(c y z:Operand):Option Value:=match ev L c with
 |some (.bool b)=>bif b then ev L y else ev L z
 |_=>none
def faF(t:TypeId)(x:Operand)(f:Nat):Option Value:=match ev L x with
 |some (.pointer (some ⟨g,n,none⟩))=>match tlk T t with
  |some ⟨_,_,_,.st fs⟩=>match fs[f]? with
   |some (off,ft)=>match tlk T ft with
    |some ⟨s,_,_,_⟩=>bif Nat.beq s 0 then none else some (.pointer (some ⟨g,n+off,none⟩))
    |none=>none
   |none=>none
  |_=>none
 |_=>none
def fdF(t:TypeId)(x:Operand)(f:Nat):Option Value:=match ev L x with
 |some (.agg cs)=>match tlk T t with
  |some ⟨_,_,_,.st fs⟩=>match fs[f]? with
   |some (off,ft)=>match tlk T ft with
    |some ⟨_,_,_,d⟩=>bif d.flat then cs.toList[off]? else none
    |none=>none
   |none=>none
  |_=>none
 |_=>none
def lnF(c:Call):Option Value:=match c.callee with
 | .builtin .len=>match c.args.toList with
  |[x]=>match c.argTypes.toList with
   |t::_=>match tlk T t with
    |some ⟨_,_,_,.sl _⟩=>match ev L x with
     |some (.slice _ n _)=>some (.int .i64 (n:Int))
     |_=>none
    |some ⟨_,_,_,.str⟩=>match ev L x with
     |some (.string s)=>some (.int .i64 (s.size:Int))
     |_=>none
    |_=>none
   |_=>none
  |_=>none
 |_=>none
def cvF(s t:TypeId)(x:Operand):Option Value:=match ev L x with
 |some (.int _ n)=>match tlk T s with
  |some _=>match tlk T t with
   |some ⟨_,_,_,.int k⟩=>some (.int k (k.wrap n))
   |_=>none
  |none=>none
 |_=>none
def bdF(t:TypeId)(ps:Array (Nat × Operand)):Option Value:=match tlk T t with
 |some ⟨_,_,z,.st fs⟩=>bif fs.all (fun p=>(tlk T p.2).isSome)then match evp L ps.toList with
  |some vs=>match vcF z with
   |some zs=>match fillF T fs vs zs with
    |some cs=>some (.agg cs.toArray)
    |none=>none
   |none=>none
  |none=>none else none
 |some ⟨_,_,z,.arr _ e⟩=>match tlk T e with
  |some ⟨s,_,_,_⟩=>match evp L ps.toList with
   |some vs=>match vcF z with
    |some zs=>match fillAF s vs zs with
     |some cs=>some (.agg cs.toArray)
     |none=>none
    |none=>none
   |none=>none
  |none=>none
 |_=>none
def nkF(x:Operand):Option Value:=match ev L x with
 |some (.pointer (some p))=>some (.pointer (some p))
 |some (.func (.func n) p q)=>some (.func (.func n) p q)
 |_=>none
def exF(x:Operand)(k:Nat):Option Value:=match ev L x with
 |some (.tuple vs)=>vs.toList[k]?
 |_=>none
def mfF(f:Fn)(x y:Array Operand):Option Value:=match evs L x.toList with
 |some vs=>match evs L y.toList with
  |some us=>some (.func f vs.toArray us.toArray)
  |none=>none
 |none=>none
def eqF(b:Bool)(t:TypeId)(x y:Operand):Option Value:=match ev L x with
 |some (.bool p)=>match ev L y with
  |some (.bool q)=>match tlk T t with
   |some ⟨_,_,_,.bool⟩=>bif b then some (.bool (p==q))else some (.bool (!(p==q)))
   |_=>none
  |_=>none
 |some (.string s)=>match ev L y with
  |some (.string u)=>bif b then some (.bool (s.toList==u.toList))else some (.bool (!(s.toList==u.toList)))
  |_=>none
 |some (.slice A _ _)=>match ev L y with
  |some (.slice none 0 0)=>match tlk T t with
   |some ⟨_,_,_,.sl _⟩=>bif b then some (.bool A.isNone)else some (.bool (!A.isNone))
   |_=>none
  |_=>none
 |_=>none
def valF:Op→Option Value
 | .move x=>ev L x
 | .assign x=>ev L x
 | .pick c y z=>pkF L c y z
 | .fieldAddr t x f=>faF T L t x f
 | .field t x f=>fdF T L t x f
 | .call c=>lnF T L c
 | .convert s t x=>cvF T L s t x
 | .build t ps=>bdF T L t ps
 | .nilCheck x=>nkF L x
 | .extract x k=>exF L x k
 | .makeFunc f x y=>mfF L f x y
 | .unOp .not _ x=>match ev L x with
  |some (.bool b)=>some (.bool (!b))
  |_=>none
 | .binOp .eql t x y _=>eqF T L true t x y
 | .binOp .neq t x y _=>eqF T L false t x y
 |_=>none
end
section
variable {P:Program} {T:List (Nat × TI)} {N:Nat} {L:List (Nat × Value)} {a:Act} {w w0:World} {S:Nat→Prop} {M:List Hp} {o:Oper} {x y z:Operand} {v u:Value}
theorem pk_ok(hs:Sl N L a)(ho:o.op= .pick x y z)(h:pkF L x y z=some v):RunV P a o w v:=by
 unfold pkF at h
 split at h
 ·rename_i b hb
  cases b
  ·exact r_pickF hs ho hb h
  ·exact r_pickT hs ho hb h
 ·cases h
theorem fa_ok{t:TypeId}{f:Nat}(hs:Sl N L a)(hT:TabOk P T)(ho:o.op= .fieldAddr t x f)(h:faF T L t x f=some v):RunV P a o w v:=by
 unfold faF at h
 split at h
 ·rename_i g n hx
  split at h
  ·rename_i fs ht
   split at h
   ·rename_i off ft hf
    split at h
    ·rename_i s _ _ _ hft
     cases hb:Nat.beq s 0 with
     |true=>rw[hb]at h;cases h
     |false=>
      rw[hb]at h
      obtain rfl:=Option.some.inj h
      exact r_fieldAddr hs ho hx hT ht rfl hf hft hb
    ·cases h
   ·cases h
  ·cases h
 ·cases h
theorem fd_ok{t:TypeId}{f:Nat}(hs:Sl N L a)(hT:TabOk P T)(ho:o.op= .field t x f)(h:fdF T L t x f=some v):RunV P a o w v:=by
 unfold fdF at h
 split at h
 ·rename_i cs hx
  split at h
  ·rename_i fs ht
   split at h
   ·rename_i off ft hf
    split at h
    ·rename_i s b z d hft
     cases hb:d.flat with
     |false=>rw[hb]at h;cases h
     |true=>rw[hb]at h;exact r_field (cs:=cs.toList) hs ho (by rw[hx,Array.toArray_toList]) hT ht rfl hf hft hb h
    ·cases h
   ·cases h
  ·cases h
 ·cases h
theorem arr1{α:Type}{a:Array α}{x:α}(h:a.toList=[x]):a=#[x]:=by cases a;simp_all
theorem ln_ok{c:Call}(hs:Sl N L a)(hT:TabOk P T)(ho:o.op= .call c)(h:lnF T L c=some v):RunV P a o w v:=by
 obtain⟨ce,ar,ty⟩:=c
 unfold lnF at h
 dsimp only at h
 split at h
 ·split at h
  ·rename_i x hx
   split at h
   ·rename_i t r ht
    have ht':ty[0]?=some t:=by cases ty;simp_all
    rw[arr1 hx]at ho
    split at h
    ·rename_i e htl
     split at h
     ·rename_i A n c hv
      obtain rfl:=Option.some.inj h
      exact r_len hs ho hv ht' hT htl rfl
     ·cases h
    ·rename_i htl
     split at h
     ·rename_i s hv
      obtain rfl:=Option.some.inj h
      exact r_slen hs ho hv ht' hT htl rfl
     ·cases h
    ·cases h
   ·cases h
  ·cases h
 ·cases h
theorem cv_ok{s t:TypeId}(hs:Sl N L a)(hT:TabOk P T)(ho:o.op= .convert s t x)(h:cvF T L s t x=some v):RunV P a o w v:=by
 unfold cvF at h
 split at h
 ·rename_i k n hx
  split at h
  ·rename_i i hi
   split at h
   ·rename_i k' hk
    obtain rfl:=Option.some.inj h
    exact r_conv hs ho hx hT hi hk rfl
   ·cases h
  ·cases h
 ·cases h
theorem bd_ok{t:TypeId}{ps:Array (Nat × Operand)}(hs:Sl N L a)(hT:TabOk P T)(ho:o.op= .build t ps)(h:bdF T L t ps=some v):RunV P a o w v:=by
 have ho':o.op= .build t ps.toList.toArray:=by rw[ho,Array.toArray_toList]
 unfold bdF at h
 split at h
 ·rename_i z fs ht
  cases hb:fs.all (fun p=>(tlk T p.2).isSome)with
  |false=>rw[hb]at h;cases h
  |true=>
   rw[hb,cond_true]at h
   split at h
   ·rename_i vs hv
    split at h
    ·rename_i zs hz
     split at h
     ·rename_i cs hc
      obtain rfl:=Option.some.inj h
      exact r_build hs ho' hT ht rfl hb hv hz hc
     ·cases h
    ·cases h
   ·cases h
 ·rename_i z n e ht
  split at h
  ·rename_i s _ _ _ he
   split at h
   ·rename_i vs hv
    split at h
    ·rename_i zs hz
     split at h
     ·rename_i cs hc
      obtain rfl:=Option.some.inj h
      exact r_buildA hs ho' hT ht rfl he hv hz hc
     ·cases h
    ·cases h
   ·cases h
  ·cases h
 ·cases h
theorem nk_ok(hs:Sl N L a)(ho:o.op= .nilCheck x)(h:nkF L x=some v):RunV P a o w v:=by
 unfold nkF at h
 split at h
 ·rename_i p hx
  obtain rfl:=Option.some.inj h
  exact r_nilCheck hs ho hx
 ·rename_i n p q hx
  obtain rfl:=Option.some.inj h
  exact r_nilCheckF hs ho hx rfl
 ·cases h
theorem ex_ok{k:Nat}(hs:Sl N L a)(ho:o.op= .extract x k)(h:exF L x k=some v):RunV P a o w v:=by
 unfold exF at h
 split at h
 ·rename_i vs hx
  exact r_extract (vs:=vs.toList) hs ho (by rw[hx,Array.toArray_toList]) h
 ·cases h
theorem mf_ok{f:Fn}{p q:Array Operand}(hs:Sl N L a)(ho:o.op= .makeFunc f p q)(h:mfF L f p q=some v):RunV P a o w v:=by
 unfold mfF at h
 split at h
 ·rename_i vs hx
  split at h
  ·rename_i us hy
   obtain rfl:=Option.some.inj h
   exact r_makeFunc (xs:=p.toList) (ys:=q.toList) hs (by rw[ho,Array.toArray_toList,Array.toArray_toList]) hx hy
  ·cases h
 ·cases h
theorem eqT_ok{t yt:TypeId}(hs:Sl N L a)(hT:TabOk P T)(ho:o.op= .binOp .eql t x y yt)(h:eqF T L true t x y=some v):RunV P a o w v:=by
 unfold eqF at h
 split at h
 ·rename_i p hx
  split at h
  ·rename_i q hy
   split at h
   ·rename_i ht
    obtain rfl:=Option.some.inj h
    exact r_eqlB hs ho hx hy hT ht rfl
   ·cases h
  ·cases h
 ·rename_i p hx
  split at h
  ·rename_i q hy
   obtain rfl:=Option.some.inj h
   exact r_seql hs ho hx hy
  ·cases h
 ·rename_i A n c hx
  split at h
  ·rename_i hy
   split at h
   ·rename_i e ht
    obtain rfl:=Option.some.inj h
    exact r_eqnil hs ho hx hy hT ht rfl
   ·cases h
  ·cases h
 ·cases h
theorem eqFf_ok{t yt:TypeId}(hs:Sl N L a)(hT:TabOk P T)(ho:o.op= .binOp .neq t x y yt)(h:eqF T L false t x y=some v):RunV P a o w v:=by
 unfold eqF at h
 split at h
 ·rename_i p hx
  split at h
  ·rename_i q hy
   split at h
   ·rename_i ht
    obtain rfl:=Option.some.inj h
    exact r_neqB hs ho hx hy hT ht rfl
   ·cases h
  ·cases h
 ·rename_i p hx
  split at h
  ·rename_i q hy
   obtain rfl:=Option.some.inj h
   exact r_sneq hs ho hx hy
  ·cases h
 ·rename_i A n c hx
  split at h
  ·rename_i hy
   split at h
   ·rename_i e ht
    obtain rfl:=Option.some.inj h
    exact r_neqnil hs ho hx hy hT ht rfl
   ·cases h
  ·cases h
 ·cases h
theorem r_val(hs:Sl N L a)(hT:TabOk P T)(h:valF T L o.op=some v):RunV P a o w v:=by
 cases ho:o.op<;>rw[ho]at h<;>simp only[valF]at h
 case move=>exact r_move hs ho h
 case assign=>exact r_assign hs ho h
 case pick=>exact pk_ok hs ho h
 case fieldAddr=>exact fa_ok hs hT ho h
 case field=>exact fd_ok hs hT ho h
 case call=>exact ln_ok hs hT ho h
 case convert=>exact cv_ok hs hT ho h
 case build=>exact bd_ok hs hT ho h
 case nilCheck=>exact nk_ok hs ho h
 case extract=>exact ex_ok hs ho h
 case makeFunc=>exact mf_ok hs ho h
 case unOp b t x=>
  cases b<;>simp only at h
  case not=>
   split at h
   ·rename_i b hb
    obtain rfl:=Option.some.inj h
    exact r_not hs ho hb
   ·cases h
  all_goals cases h
 case binOp b t x y yt=>
  cases b<;>simp only at h
  case eql=>exact eqT_ok hs hT ho h
  case neq=>exact eqFf_ok hs hT ho h
  all_goals cases h
 all_goals cases h
end
def kEq:IntKind→IntKind→Bool
 | .i64,.i64| .u8,.u8| .u16,.u16| .u32,.u32| .u64,.u64| .i32,.i32| .i16,.i16| .i8,.i8=>true
 |_,_=>false
theorem kEq_ok{k k':IntKind}(h:kEq k k'=true):k'=k:=by
 cases k<;>cases k'<;>first|rfl|cases h
structure Cq where
 p:Prop
 d:Decidable p
def cqF(b:BinOp)(n m:Int):Option Cq:=match b with
 | .lss=>some ⟨n<m,inferInstance⟩
 | .leq=>some ⟨n≤m,inferInstance⟩
 | .gtr=>some ⟨m<n,inferInstance⟩
 | .geq=>some ⟨m≤n,inferInstance⟩
 | .eql=>some ⟨n=m,inferInstance⟩
 | .neq=>some ⟨¬n=m,inferInstance⟩
 |_=>none
def cmpF(L:List (Nat × Value)):Op→Option Cq
 | .binOp b _ x y _=>match ev L x with
  |some (.int k n)=>match ev L y with
   |some (.int k' m)=>bif kEq k k' then cqF b n m else none
   |_=>none
  |_=>none
 |_=>none
section
variable {P:Program} {T:List (Nat × TI)} {N:Nat} {L:List (Nat × Value)} {a:Act} {w w0:World} {S:Nat→Prop} {M:List Hp} {o:Oper} {x y z:Operand} {v u:Value}
theorem cmp_one{b:BinOp}{t yt:TypeId}{k:IntKind}{n m:Int}{p:Prop}{d:Decidable p}(hs:Sl N L a)(ho:o.op= .binOp b t x y yt)(hx:ev L x=some (.int k n))(hy:ev L y=some (.int k m))
  (h:cqF b n m=some ⟨p,d⟩):RunV P a o w (.bool (@decide p d)):=by
 unfold cqF at h
 cases b<;>simp only[Option.some.injEq,Cq.mk.injEq,reduceCtorEq]at h
 case lss=>obtain⟨rfl,h⟩:=h;have:=eq_of_heq h;subst this;exact r_lss hs ho hx hy
 case leq=>obtain⟨rfl,h⟩:=h;have:=eq_of_heq h;subst this;exact r_leq hs ho hx hy
 case gtr=>obtain⟨rfl,h⟩:=h;have:=eq_of_heq h;subst this;exact r_gtr hs ho hx hy
 case geq=>obtain⟨rfl,h⟩:=h;have:=eq_of_heq h;subst this;exact r_geq hs ho hx hy
 case eql=>obtain⟨rfl,h⟩:=h;have:=eq_of_heq h;subst this;exact r_eql hs ho hx hy
 case neq=>
  obtain⟨rfl,h⟩:=h;have:=eq_of_heq h;subst this
  have h1:=r_neq (P:=P) (w:=w) hs ho hx hy
  rw[show(!decide (n=m))=decide (¬n=m) by simp]at h1
  exact h1
theorem cmp_ok{p:Prop}{d:Decidable p}(hs:Sl N L a)(h:cmpF L o.op=some ⟨p,d⟩):RunV P a o w (.bool (@decide p d)):=by
 cases ho:o.op<;>rw[ho]at h<;>simp only[cmpF]at h
 case binOp b t x y yt=>
  split at h
  ·rename_i k n hx
   split at h
   ·rename_i k' m hy
    cases hk:kEq k k' with
    |false=>rw[hk]at h;cases h
    |true=>
     rw[hk]at h
     have hk':=kEq_ok hk
     subst hk'
     exact cmp_one hs ho hx hy h
   ·cases h
  ·cases h
 all_goals cases h
theorem r_cT{p:Prop}{d:Decidable p}(hs:Sl N L a)(h:cmpF L o.op=some ⟨p,d⟩)(hp:p):RunV P a o w (.bool true):=by
 have h1:=cmp_ok (P:=P) (w:=w) hs h
 rwa[decide_eq_true hp]at h1
theorem r_cF{p:Prop}{d:Decidable p}(hs:Sl N L a)(h:cmpF L o.op=some ⟨p,d⟩)(hp:¬p):RunV P a o w (.bool false):=by
 have h1:=cmp_ok (P:=P) (w:=w) hs h
 rwa[decide_eq_false hp]at h1
end
def arF(L:List (Nat × Value)):Op→Option Int
 | .binOp b _ x y _=>match ev L x with
  |some (.int .i64 n)=>match ev L y with
   |some (.int .i64 m)=>match b with
    | .add=>some (n+m)
    | .sub=>some (n-m)
    | .mul=>some (n*m)
    |_=>none
   |_=>none
  |_=>none
 |_=>none
def biF'(b:BinOp)(k:IntKind)(n m:Int):Option Value:=match b with
 | .lss=>some (.bool (decide (n<m)))
 | .leq=>some (.bool (decide (n≤m)))
 | .gtr=>some (.bool (decide (m<n)))
 | .geq=>some (.bool (decide (m≤n)))
 | .eql=>some (.bool (decide (n=m)))
 | .neq=>some (.bool (!decide (n=m)))
 | .add=>some (.int k (k.wrap (n+m)))
 | .sub=>some (.int k (k.wrap (n-m)))
 | .mul=>some (.int k (k.wrap (n*m)))
 | .and=>some (.int k (bits .and k n m))
 | .or=>some (.int k (bits .or k n m))
 | .xor=>some (.int k (bits .xor k n m))
 |_=>none
def biF(L:List (Nat × Value)):Op→Option Value
 | .binOp b _ x y _=>match ev L x with
  |some (.int k n)=>match ev L y with
   |some (.int k' m)=>bif kEq k k' then biF' b k n m else none
   |_=>none
  |_=>none
 |_=>none
section
variable {P:Program} {T:List (Nat × TI)} {N:Nat} {L:List (Nat × Value)} {a:Act} {w w0:World} {S:Nat→Prop} {M:List Hp} {o:Oper} {x y z:Operand} {v u:Value}
theorem r_ar{e:Int}(hs:Sl N L a)(h:arF L o.op=some e)(hb:-9223372036854775808≤e∧e≤9223372036854775807):RunV P a o w (.int .i64 e):=by
 cases ho:o.op<;>rw[ho]at h<;>simp only[arF]at h
 case binOp b t x y yt=>
  split at h
  ·rename_i n hx
   split at h
   ·rename_i m hy
    cases b<;>simp only[Option.some.injEq,reduceCtorEq]at h
    case add=>subst h;exact r_add64 hs ho hx hy hb
    case sub=>subst h;exact r_sub64 hs ho hx hy hb
    case mul=>subst h;exact r_mul64 hs ho hx hy hb
   ·cases h
  ·cases h
 all_goals cases h
theorem r_arH{e:Int}{m:Nat}(hs:Sl N L a)(h:arF L o.op=some e)(he:e=(m:Int))(hb:(m:Int)≤9223372036854775807):RunV P a o w (.int .i64 (m:Int)):=by
 have:=r_ar (P:=P) (w:=w) hs h (by omega)
 rwa[he]at this
theorem bi_one{b:BinOp}{t yt:TypeId}{k:IntKind}{n m:Int}(hs:Sl N L a)(ho:o.op= .binOp b t x y yt)(hx:ev L x=some (.int k n))(hy:ev L y=some (.int k m))
  (h:biF' b k n m=some v):RunV P a o w v:=by
 unfold biF' at h
 cases b<;>simp only[Option.some.injEq,reduceCtorEq]at h
 case lss=>subst h;exact r_lss hs ho hx hy
 case leq=>subst h;exact r_leq hs ho hx hy
 case gtr=>subst h;exact r_gtr hs ho hx hy
 case geq=>subst h;exact r_geq hs ho hx hy
 case eql=>subst h;exact r_eql hs ho hx hy
 case neq=>subst h;exact r_neq hs ho hx hy
 case add=>subst h;exact r_add hs ho hx hy
 case sub=>subst h;exact r_sub hs ho hx hy
 case mul=>subst h;exact r_mul hs ho hx hy
 case and=>subst h;exact r_and hs ho hx hy
 case or=>subst h;exact r_or hs ho hx hy
 case xor=>subst h;exact r_xor hs ho hx hy
theorem r_bi(hs:Sl N L a)(h:biF L o.op=some v):RunV P a o w v:=by
 cases ho:o.op<;>rw[ho]at h<;>simp only[biF]at h
 case binOp b t x y yt=>
  split at h
  ·rename_i k n hx
   split at h
   ·rename_i k' m hy
    cases hk:kEq k k' with
    |false=>rw[hk]at h;cases h
    |true=>
     rw[hk]at h
     have hk':=kEq_ok hk
     subst hk'
     exact bi_one hs ho hx hy h
   ·cases h
  ·cases h
 all_goals cases h
end
def ixo:Nat→Nat→Nat→Option Nat
 |0,k,1=>some k
 |0,k,s=>some (k*s)
 |_,_,_=>none
def ixo'(off k:Nat):Nat→Option Nat
 |1=>some (off+k)
 |s=>some (off+k*s)
def ixF(T:List (Nat × TI))(L:List (Nat × Value)):Op→Option (Nat × Nat × Nat × Nat × Int × Nat)
 | .indexAddr t x y=>match ev L y with
  |some (.int _ i)=>match ev L x with
   |some (.slice (some ⟨g,off,none⟩) len _)=>match tlk T t with
    |some ⟨_,_,_,.sl e⟩=>match tsz T e with
     |some s=>match litN i with
      |some k=>some (g,off,k,s,i,len)
      |none=>none
     |none=>none
    |_=>none
   |some (.pointer (some ⟨g,off,none⟩))=>match tlk T t with
    |some ⟨_,_,_,.arr len e⟩=>match tsz T e with
     |some s=>match litN i with
      |some k=>some (g,off,k,s,i,len)
      |none=>none
     |none=>none
    |_=>none
   |_=>none
  |_=>none
 |_=>none
section
variable {P:Program} {T:List (Nat × TI)} {N:Nat} {L:List (Nat × Value)} {a:Act} {w w0:World} {S:Nat→Prop} {M:List Hp} {o:Oper} {x y z:Operand} {v u:Value}
theorem ix_ok{g off k s len:Nat}{i:Int}(hs:Sl N L a)(hT:TabOk P T)(h:ixF T L o.op=some (g,off,k,s,i,len))(hl:i<(len:Int)):RunV P a o w (.pointer (some ⟨g,off+k*s,none⟩)):=by
 cases ho:o.op<;>rw[ho]at h<;>simp only[ixF]at h
 case indexAddr t x y=>
  split at h
  ·rename_i kk i' hy
   split at h
   ·rename_i g' off' len' c' hx
    split at h
    ·rename_i e ht
     split at h
     ·rename_i s' hs'
      split at h
      ·rename_i k' hk
       simp only[Option.some.injEq,Prod.mk.injEq]at h
       obtain⟨rfl,rfl,rfl,rfl,rfl,rfl⟩:=h
       exact r_ixl hs ho hx hy hk hT ht rfl hs' hl
      ·cases h
     ·cases h
    ·cases h
   ·rename_i g' off' hx
    split at h
    ·rename_i len' e ht
     split at h
     ·rename_i s' hs'
      split at h
      ·rename_i k' hk
       simp only[Option.some.injEq,Prod.mk.injEq]at h
       obtain⟨rfl,rfl,rfl,rfl,rfl,rfl⟩:=h
       exact r_ixal hs ho hx hy hk hT ht rfl hs' hl
      ·cases h
     ·cases h
    ·cases h
   ·cases h
  ·cases h
 all_goals cases h
theorem r_iz{g off k s len q:Nat}{i:Int}(hs:Sl N L a)(hT:TabOk P T)(h:ixF T L o.op=some (g,off,k,s,i,len))(hq:ixo off k s=some q)(hl:i<(len:Int)):RunV P a o w (.pointer (some ⟨g,q,none⟩)):=by
 have h1:=ix_ok (P:=P) (w:=w) hs hT h hl
 unfold ixo at hq
 split at hq
 ·obtain rfl:=Option.some.inj hq
  rwa[Nat.zero_add,Nat.mul_one]at h1
 ·obtain rfl:=Option.some.inj hq
  rwa[Nat.zero_add]at h1
 ·cases hq
theorem r_iy{g off k s len q:Nat}{i:Int}(hs:Sl N L a)(hT:TabOk P T)(h:ixF T L o.op=some (g,off,k,s,i,len))(hq:ixo' off k s=some q)(hl:i<(len:Int)):RunV P a o w (.pointer (some ⟨g,q,none⟩)):=by
 have h1:=ix_ok (P:=P) (w:=w) hs hT h hl
 unfold ixo' at hq
 split at hq
 ·obtain rfl:=Option.some.inj hq
  rwa[Nat.mul_one]at h1
 ·obtain rfl:=Option.some.inj hq
  exact h1
end
theorem Ro.cl0{S:Nat→Prop}{w0 w:World}{M:List Hp}{b j:Nat}{vs:List Value}{v:Value}(h:Ro w0 b 0 vs)(hm:Mm S w0 M w)(hb:¬S b)(hv:vs[j]?=some v):w.cell? ⟨b,j,none⟩=some v:=by
 have:=Ro.cl h hm hb hv
 rwa[Nat.zero_add]at this
theorem mH{α:Type}{x:α}{l:List α}:x∈x::l:=List.mem_cons_self ..
theorem mT{α:Type}{x y:α}{l:List α}(h:x∈l):x∈y::l:=List.mem_cons_of_mem _ h
section
variable {P:Program} {T:List (Nat × TI)} {N:Nat} {L:List (Nat × Value)} {a:Act} {w w0:World} {S:Nat→Prop} {M:List Hp} {o:Oper} {x y z:Operand} {v u:Value} {ops:Array Oper} {rest:List Oper} {Q:Exit→Act→World→Prop} {Qa:Act→Prop} {K:Act→Prop}
structure One(P:Program)(ops:Array Oper)(S:Nat→Prop)(w0:World)(M:List Hp)(o:Oper)(a:Act)(K:Act→Prop):Prop where
 h:(Region.wanted o (yielded ops a.tmps)=true∧∃v,(∀w,Mm S w0 M w→RunV P a o w v)∧K (a.put o.dst v))∨(Region.wanted o (yielded ops a.tmps)=false∧K (a.put o.dst undef))
theorem toL(hm:Mm S w0 M w)(h:One P ops S w0 M o a (fun a'=>wpList P ops Q rest a' w)):wpList P ops Q (o::rest) a w:=by
 rcases h.h with⟨h1,v,h2,h3⟩|⟨h1,h3⟩
 ·unfold wpList
  rw[if_pos h1]
  exact .inl (Does.wp ((h2 w hm).does.mono fun v' w' hvw=>by rw[hvw.1,hvw.2];exact h3))
 ·unfold wpList
  rw[if_neg (by rw[h1];exact Bool.false_ne_true)]
  exact h3
theorem toQ(h:One P ops S w0 M o a (fun a'=>wpQuiet P ops (fun w'=>Mm S w0 M w') Qa rest a')):wpQuiet P ops (fun w'=>Mm S w0 M w') Qa (o::rest) a:=by
 rcases h.h with⟨h1,v,h2,h3⟩|⟨h1,h3⟩
 ·unfold wpQuiet
  rw[if_pos h1]
  exact qquiet h2 h3
 ·unfold wpQuiet
  rw[if_neg (by rw[h1];exact Bool.false_ne_true)]
  exact h3
theorem oneV{d:Nat}(hs:Sl N L a)(hg:Wnt ops N L o)(ho:o.dst=some d)(hd:Nat.blt d N=true)(h:∀w,Mm S w0 M w→RunV P a o w v)(k:∀a,Sl N ((d,v)::L) a→K a):One P ops S w0 M o a K:=
 ⟨.inl ⟨hg.yes hs,v,h,by rw[ho];exact k _ (hs.put v hd)⟩⟩
theorem oneN{d j e:Nat}{b c:Bool}(hs:Sl N L a)(hg:o.guard=some (j,b))(hj:(ops[j]?).bind (·.dst)=some e) (he:Nat.blt e N=true) (hv:lk L e=some (.bool c)) (hbc:(c==b)=false) (ho:o.dst=some d) (hd:Nat.blt d N=true) (k:∀a,Sl N ((d,undef)::L) a→K a):One P ops S w0 M o a K:=by
 refine⟨.inr ⟨?_,by rw[ho];exact k _ (hs.put undef hd)⟩⟩
 simp only[Region.wanted,hg,yielded_of hs hj he hv]
 simpa using hbc
theorem oneU{d j e:Nat}{b:Bool}(hs:Sl N L a)(hg:o.guard=some (j,b))(hj:(ops[j]?).bind (·.dst)=some e) (he:Nat.blt e N=true) (hv:lk L e=some undef) (ho:o.dst=some d) (hd:Nat.blt d N=true) (k:∀a,Sl N ((d,undef)::L) a→K a):One P ops S w0 M o a K:=by
 refine⟨.inr ⟨?_,by rw[ho];exact k _ (hs.put undef hd)⟩⟩
 simp[Region.wanted,hg,yielded_un hs hj he hv]
end
section
variable {P:Program} {T:List (Nat × TI)} {N:Nat} {L:List (Nat × Value)} {a:Act} {w w0:World} {S:Nat→Prop} {M M1:List Hp} {o:Oper} {v:Value} {K:Value→World→Prop} {Q:Exit→Act→World→Prop} {ops:Array Oper} {l:Array Bool} {S1:World→Prop} {n:Nat}
structure Drawn(P:Program)(ops:Array Oper)(Q:Exit→Act→World→Prop)(S1:World→Prop)(n:Nat)(l:Array Bool)(a:Act)(w:World):Prop where
 h:wpAnyH P .any ops (NoPanic Q) S1 n l a w
theorem cDraw{id:Nat}(M1:List Hp)(hm:Mm S w0 M w)(hf:P.follows .mixedOrders=true)(hn:ops.size=n)(k:∀w,Mm S w0 M w→Drawn P ops Q (fun w'=>Mm S w0 M1 w') n (Array.replicate n false) a w):(Code.region id ops true).wp P Q a w:=by
 refine wp_region_noPanic (wp_region_held (S:=fun w'=>Mm S w0 M1 w') hf ?_)
 rw[hn]
 exact(k _ hm.drew).h
def lget:List Oper→Nat→Option Oper
 |[],_=>none
 |x::_,0=>some x
 |_::r,n+1=>lget r n
theorem lget_eq(r:List Oper)(i:Nat):lget r i=r[i]?:=by
 induction r generalizing i with
 |nil=>rfl
 |cons x t ih=>cases i with
  |zero=>rfl
  |succ i=>simp only[lget,ih,List.getElem?_cons_succ]
theorem lget_ok{i:Nat}(h:lget ops.toList i=some o):ops[i]?=some o:=by
 rw[lget_eq]at h
 simpa using h
def takeB(ops:Array Oper)(l:Array Bool)(i:Nat):Bool:=Region.noSelect ops&&Region.free .any ops l i&&(Region.ready .any ops l).contains i
theorem hTake{d:Nat}(i:Nat)(hs:Sl N L a)(hi:lget ops.toList i=some o)(hb:takeB ops l i=true)(hg:Wnt ops N L o)(ho:o.dst=some d)(hd:Nat.blt d N=true)(h:∀w,S1 w→RunV P a o w v)(hS:S1 w)(k:∀a,Sl N ((d,v)::L) a→Drawn P ops Q S1 n (l.setIfInBounds i true) a w):Drawn P ops Q S1 (n+1) l a w:=by
 unfold takeB at hb
 simp only[Bool.and_eq_true]at hb
 refine⟨wpAnyH_take (lget_ok hi) hb.1.1 hb.1.2 hb.2 (fun _ _ _ h=>h) (.inl ⟨hg.yes hs,h⟩) hS ?_⟩
 rw[ho]
 exact(k _ (hs.put v hd)).h
theorem hDone(hr:(Region.ready .any ops l).isEmpty=true)(h:Goes Q .normal a w):Drawn P ops Q S1 n l a w:=
 ⟨wpAnyH_done (Q:=NoPanic Q) (by simpa using hr) (show NoPanic Q .normal a w from h) n⟩
structure Each(P:Program)(ops:Array Oper)(Q:Exit→Act→World→Prop)(S1:World→Prop)(n:Nat)(l:Array Bool)(a:Act)(w:World)(rs:List Nat):Prop where
 h:∀i∈rs,wpOp P ops (NoPanic Q) i (fun a' w'=>S1 w'∧wpAnyH P .any ops (NoPanic Q) S1 n (l.setIfInBounds i true) a' w') a w
theorem hEach(rs:List Nat)(hr:(Region.ready .any ops l==rs&&!rs.isEmpty)=true)(h:Each P ops Q S1 n l a w rs):Drawn P ops Q S1 (n+1) l a w:=by
 simp only[Bool.and_eq_true,beq_iff_eq,Bool.not_eq_true']at hr
 exact⟨wpAnyH_all hr.1 (fun e=>by rw[e]at hr;simp at hr) h.h⟩
theorem eNil:Each P ops Q S1 n l a w []:=⟨fun i hi=>by cases hi⟩
theorem eDo{d i:Nat}{rs:List Nat}(hs:Sl N L a)(hi:lget ops.toList i=some o)(hg:Wnt ops N L o)(ho:o.dst=some d)(hd:Nat.blt d N=true)(h:Does P a o w K)(k:∀v w',K v w'→∀a,Sl N ((d,v)::L) a→S1 w'∧Drawn P ops Q S1 n (l.setIfInBounds i true) a w')(r:Each P ops Q S1 n l a w rs):Each P ops Q S1 n l a w (i::rs):=by
 refine⟨fun j hj=>?_⟩
 rcases List.mem_cons.1 hj with rfl|hj
 ·refine wpOp_step (lget_ok hi) fun K' hK=>?_
  rw[if_pos (hg.yes hs)]
  exact Does.wp (h.mono fun v w' hk=>hK _ _ (by rw[ho];have:=k v w' hk _ (hs.put v hd);exact⟨this.1,this.2.h⟩))
 ·exact r.h j hj
theorem eDoN{i:Nat}{rs:List Nat}(hs:Sl N L a)(hi:lget ops.toList i=some o)(hg:Wnt ops N L o)(ho:o.dst=none)(h:Does P a o w K)(k:∀v w',K v w'→∀a,Sl N L a→S1 w'∧Drawn P ops Q S1 n (l.setIfInBounds i true) a w')(r:Each P ops Q S1 n l a w rs):Each P ops Q S1 n l a w (i::rs):=by
 refine⟨fun j hj=>?_⟩
 rcases List.mem_cons.1 hj with rfl|hj
 ·refine wpOp_step (lget_ok hi) fun K' hK=>?_
  rw[if_pos (hg.yes hs)]
  exact Does.wp (h.mono fun v w' hk=>hK _ _ (by rw[ho];have:=k v w' hk _ hs;exact⟨this.1,this.2.h⟩))
 ·exact r.h j hj
end
section
variable {P:Program} {ops:Array Oper} {Q:Exit→Act→World→Prop} {md:Region.Mode} {S:World→Prop}
def wpAnyB(P:Program)(md:Region.Mode)(ops:Array Oper)(Q:Exit→Act→World→Prop)(b:Nat)(S:World→Prop):Nat→Array Bool→Act→World→Prop
 |0,l,a,w=>Region.ready md ops l=[]∧Q .normal a w
 |fuel+1,l,a,w=>(Region.ready md ops l=[]→Q .normal a w)∧∀i∈Region.ready md ops l,wpOp P ops Q i (fun a' w'=>((l.setIfInBounds i true).getD b false=true∨S w')∧wpAnyB P md ops Q b S fuel (l.setIfInBounds i true) a' w') a w
theorem wpAny_of_b{b:Nat}:∀(fuel:Nat)(l:Array Bool)(a:Act)(w:World),wpAnyB P md ops Q b S fuel l a w→wpAny P md ops Q fuel l a w
 |0,_,_,_,h=>h
 |fuel+1,_,_,_,h=>⟨h.1,fun i hi=>wpOp_mono (fun a' w' h'=>wpAny_of_b fuel _ a' w' h'.2) (h.2 i hi)⟩
def waitsB(md:Region.Mode)(ops:Array Oper)(b i:Nat):Bool:=((ops[b]?).map fun o=>o.after.any fun e=>Region.binds md e&&e.on==i).getD false
theorem waitsB_not{b i j:Nat}{oj:Oper}(h:waitsB md ops b i=true)(hj:ops[j]?=some oj) (hn:∀e∈oj.after,Region.binds md e=true→e.on≠i):j≠b:=by
 rintro rfl
 unfold waitsB at h
 rw[hj,Option.map_some,Option.getD_some,Array.any_eq_true']at h
 obtain⟨e,he,h1⟩:=h
 rw[Bool.and_eq_true]at h1
 exact hn e he h1.1 (by simpa using h1.2)
theorem getD_tf{l:Array Bool}{b:Nat}(h:l.getD b true=false)(h2:l.getD b false=true):False:=by
 rw[Array.getD_eq_getD_getElem?]at h h2
 cases hl:l[b]? with
 |none=>rw[hl]at h;cases h
 |some x=>rw[hl]at h h2;dsimp only[Option.getD_some]at h h2;rw[h]at h2;cases h2
theorem wpAnyB_first{b i:Nat}{oi:Oper}{v:Value}{g:Bool}(hi:ops[i]?=some oi) (hsel:∀(j:Nat)(o:Oper) cs b,ops[j]?=some o→o.op≠ .select cs b)
  (hQ:∀c a w,Q (.panic c) (a.put oi.dst v) w→Q (.panic c) a w) (hib:i≠b) (hwt:g=true→waitsB md ops b i=true):
  ∀(fuel:Nat)(listed:Array Bool)(a:Act)(w:World),
   (∀j oj,ops[j]?=some oj→j≠i→listed.getD j true=false→(∀e∈oj.after,Region.binds md e=true→e.on≠i)→oi.apart ops oj=true)→
   i∈Region.ready md ops listed→(g=true→listed.getD b true=false)→YieldsIf P ops (fun w=>g=true→S w) oi v a→(listed.getD b false=true∨S w)→
   wpAnyB P md ops Q b S fuel (listed.setIfInBounds i true) (a.put oi.dst v) w→wpAnyB P md ops Q b S (fuel+1) listed a w:=by
 have hset:∀(l:Array Bool)(k:Nat),k≠b→∀x,(l.setIfInBounds k true).getD b x=l.getD b x:=fun l k hk x=>getD_set_ne x hk
 have hS0:∀(l:Array Bool)(w:World),(g=true→l.getD b true=false)→(l.getD b false=true∨S w)→g=true→S w:=fun l w h1 h2 hg=>h2.resolve_left fun h3=>getD_tf (h1 hg) h3
 intro fuel
 induction fuel with
 |zero=>
  intro listed a w _ hr hgb hy hS H
  refine⟨fun h=>(by rw[h]at hr;cases hr),fun j hj=>?_⟩
  by_cases hji:j=i
  ·subst hji
   exact hy.wpOp hi (hS0 _ _ hgb hS) ⟨by rw[hset _ _ hib];exact hS,H⟩
  ·have:=ready_mono hj hji
   rw[H.1]at this
   cases this
 |succ fuel ih=>
  intro listed a w hfree hr hgb hy hS H
  refine⟨fun h=>(by rw[h]at hr;cases hr),fun j hj=>?_⟩
  by_cases hji:j=i
  ·subst hji
   exact hy.wpOp hi (hS0 _ _ hgb hS) ⟨by rw[hset _ _ hib];exact hS,H⟩
  ·have h1:=H.2 j (ready_mono hj hji)
   obtain⟨hjun,oj,hoj,hall⟩:=mem_ready.1 hj
   have hnot:∀e∈oj.after,Region.binds md e=true→e.on≠i:=fun e he hb heq=>by
    have h1:=hall e he hb
    have h0:=(mem_ready.1 hr).1
    rw[heq]at h1
    rcases Nat.lt_or_ge i listed.size with h'|h'
    ·simp[h']at h0 h1;rw[h0]at h1;cases h1
    ·simp[Array.getElem?_eq_none h']at h1
   have h2:=wpOp_putIf hoj (hfree j oj hoj hji hjun hnot) (fun cs b=>hsel i oi cs b hi) (fun cs b=>hsel j oj cs b hoj) hQ hy h1
   have hfree':∀k ok,ops[k]?=some ok→k≠i→(listed.setIfInBounds j true).getD k true=false→
     (∀e∈ok.after,Region.binds md e=true→e.on≠i)→oi.apart ops ok=true:=fun k ok hk hki hun hno=>by
    refine hfree k ok hk hki ?_ hno
    by_cases hjk:j=k
    ·subst hjk;exact hjun
    ·rw[getD_set_ne true hjk]at hun;exact hun
   have hgb':g=true→(listed.setIfInBounds j true).getD b true=false:=fun hg=>by
    rw[hset _ _ (waitsB_not (hwt hg) hoj hnot)]
    exact hgb hg
   refine wpOp_mono (fun a' w' h3=>?_) h2
   have h4:(listed.setIfInBounds j true).getD b false=true∨S w':=by
    have h5:=h3.2.1
    rw[Array.setIfInBounds_comm _ _ (Ne.symm hji),hset _ _ hib]at h5
    exact h5
   refine⟨h4,ih (listed.setIfInBounds j true) a' w' hfree' (ready_mono hr (Ne.symm hji)) hgb' h3.1 h4 ?_⟩
   rw[Array.setIfInBounds_comm _ _ hji]
   exact h3.2.2
end
section
variable {P:Program} {T:List (Nat × TI)} {N:Nat} {L:List (Nat × Value)} {a:Act} {w w0:World} {S:Nat→Prop} {M M1:List Hp} {o:Oper} {v:Value} {K:Value→World→Prop} {Q:Exit→Act→World→Prop} {ops:Array Oper} {l:Array Bool} {S1:World→Prop} {n b:Nat}
structure DrawnB(P:Program)(ops:Array Oper)(Q:Exit→Act→World→Prop)(b:Nat)(S1:World→Prop)(n:Nat)(l:Array Bool)(a:Act)(w:World):Prop where
 h:wpAnyB P .any ops (NoPanic Q) b S1 n l a w
theorem cDrawB{id:Nat}(b:Nat)(M1:List Hp)(hm:Mm S w0 M w)(hf:P.follows .mixedOrders=true)(hn:ops.size=n)(k:∀w,Mm S w0 M w→DrawnB P ops Q b (fun w'=>Mm S w0 M1 w') n (Array.replicate n false) a w):(Code.region id ops true).wp P Q a w:=by
 refine wp_region_noPanic (wp_region_any hf (wpAny_of_b (b:=b) (S:=fun w'=>Mm S w0 M1 w') _ _ _ _ ?_))
 rw[hn]
 exact(k _ hm.drew).h
theorem bTake{d:Nat}(i:Nat)(g:Bool)(hs:Sl N L a)(hi:lget ops.toList i=some o)(hb:takeB ops l i=true)(hbar:(!(Nat.beq i b)&&(!g||(waitsB .any ops b i&&!(l.getD b true))))=true)(hg:Wnt ops N L o)(ho:o.dst=some d)(hd:Nat.blt d N=true)(h:∀w,(g=true→S1 w)→RunV P a o w v)(hS:l.getD b false=true∨S1 w)(k:∀a,Sl N ((d,v)::L) a→DrawnB P ops Q b S1 n (l.setIfInBounds i true) a w):DrawnB P ops Q b S1 (n+1) l a w:=by
 unfold takeB at hb
 simp only[Bool.and_eq_true]at hb
 rw[Bool.and_eq_true]at hbar
 refine⟨wpAnyB_first (g:=g) (lget_ok hi) (Region.noSelect_spec hb.1.1) (fun _ _ _ h=>h) (fun e=>?_) (fun e=>?_) n l a w (Region.free_spec (lget_ok hi) hb.1.2) (by simpa using hb.2) (fun e=>?_) (.inl ⟨hg.yes hs,h⟩) hS ?_⟩
 ·rw[e]at hbar
  simp at hbar
 ·have h2:=hbar.2
  rw[e]at h2
  simp only[Bool.not_true,Bool.false_or,Bool.and_eq_true]at h2
  exact h2.1
 ·have h2:=hbar.2
  rw[e]at h2
  simp only[Bool.not_true,Bool.false_or,Bool.and_eq_true]at h2
  simpa using h2.2
 ·rw[ho]
  exact(k _ (hs.put v hd)).h
theorem bDone(hr:(Region.ready .any ops l).isEmpty=true)(h:Goes Q .normal a w):DrawnB P ops Q b S1 n l a w:=by
 have h1:Region.ready .any ops l=[]:=by simpa using hr
 refine⟨?_⟩
 cases n with
 |zero=>exact⟨h1,h⟩
 |succ n=>exact⟨fun _=>h,by rw[h1];simp⟩
structure EachB(P:Program)(ops:Array Oper)(Q:Exit→Act→World→Prop)(b:Nat)(S1:World→Prop)(n:Nat)(l:Array Bool)(a:Act)(w:World)(rs:List Nat):Prop where
 h:∀i∈rs,wpOp P ops (NoPanic Q) i (fun a' w'=>((l.setIfInBounds i true).getD b false=true∨S1 w')∧wpAnyB P .any ops (NoPanic Q) b S1 n (l.setIfInBounds i true) a' w') a w
theorem bEach(rs:List Nat)(hr:(Region.ready .any ops l==rs&&!rs.isEmpty)=true)(h:EachB P ops Q b S1 n l a w rs):DrawnB P ops Q b S1 (n+1) l a w:=by
 simp only[Bool.and_eq_true,beq_iff_eq,Bool.not_eq_true']at hr
 refine⟨fun h0=>?_,hr.1▸h.h⟩
 have h1:=hr.2
 rw[←hr.1,h0]at h1
 simp at h1
theorem bNil:EachB P ops Q b S1 n l a w []:=⟨fun i hi=>by cases hi⟩
theorem bDo{d i:Nat}{rs:List Nat}(hs:Sl N L a)(hi:lget ops.toList i=some o)(hg:Wnt ops N L o)(ho:o.dst=some d)(hd:Nat.blt d N=true)(h:Does P a o w K)(k:∀v w',K v w'→∀a,Sl N ((d,v)::L) a→((l.setIfInBounds i true).getD b false=true∨S1 w')∧DrawnB P ops Q b S1 n (l.setIfInBounds i true) a w')(r:EachB P ops Q b S1 n l a w rs):EachB P ops Q b S1 n l a w (i::rs):=by
 refine⟨fun j hj=>?_⟩
 rcases List.mem_cons.1 hj with rfl|hj
 ·refine wpOp_step (lget_ok hi) fun K' hK=>?_
  rw[if_pos (hg.yes hs)]
  exact Does.wp (h.mono fun v w' hk=>hK _ _ (by rw[ho];have:=k v w' hk _ (hs.put v hd);exact⟨this.1,this.2.h⟩))
 ·exact r.h j hj
theorem bDoN{i:Nat}{rs:List Nat}(hs:Sl N L a)(hi:lget ops.toList i=some o)(hg:Wnt ops N L o)(ho:o.dst=none)(h:Does P a o w K)(k:∀v w',K v w'→∀a,Sl N L a→((l.setIfInBounds i true).getD b false=true∨S1 w')∧DrawnB P ops Q b S1 n (l.setIfInBounds i true) a w')(r:EachB P ops Q b S1 n l a w rs):EachB P ops Q b S1 n l a w (i::rs):=by
 refine⟨fun j hj=>?_⟩
 rcases List.mem_cons.1 hj with rfl|hj
 ·refine wpOp_step (lget_ok hi) fun K' hK=>?_
  rw[if_pos (hg.yes hs)]
  exact Does.wp (h.mono fun v w' hk=>hK _ _ (by rw[ho];have:=k v w' hk _ hs;exact⟨this.1,this.2.h⟩))
 ·exact r.h j hj
end
section
variable {P:Program} {N:Nat} {L:List (Nat × Value)} {a:Act} {w:World} {o:Oper} {v:Value} {K:Value→World→Prop} {ops:Array Oper}
theorem kv_(h:RunV P a o w v:=by first|exact r_val hs tab rfl|((with_reducible apply kLoad);first|exact r_load hs rfl rfl tab rfl rfl (by first|exact hm.cl (by repeat(first|exact mH|apply mT)) (by first|rfl|assumption)|exact Ro.cl (by assumption) hm (by first|exact(fun t=>t)|assumption) (by first|rfl|assumption)|exact Ro.cl0 (by assumption) hm (by first|exact(fun t=>t)|assumption) (by first|rfl|assumption))|exact r_loadO hs rfl rfl tab rfl rfl rfl hm (by repeat(first|exact mH|apply mT)) (by rfl)|exact r_loadA hs rfl rfl tab rfl rfl (Ro.ro (by assumption) hm (by first|exact(fun t=>t)|assumption)) rfl)|exact r_iz hs tab rfl rfl (by omega)|exact r_iy hs tab rfl rfl (by omega)|exact r_cT hs rfl (by omega)|exact r_cF hs rfl (by omega)|exact r_arH hs rfl (by assumption) (by omega)|exact r_pred hs rfl rfl rfl (by omega)|exact r_ar hs rfl (by omega)|exact r_bi hs rfl|exact r_pick hs rfl rfl rfl rfl):RunV P a o w v:=h
theorem kvR_(h:RunV P a o w v:=by first|exact r_val hs tab rfl|((with_reducible apply kLoad);first|exact r_load hs rfl rfl tab rfl rfl (by first|exact Ro.cl (by assumption) hm (by first|exact(fun t=>t)|assumption) (by first|rfl|assumption)|exact Ro.cl0 (by assumption) hm (by first|exact(fun t=>t)|assumption) (by first|rfl|assumption)|exact hm.cl (by repeat(first|exact mH|apply mT)) (by first|rfl|assumption))|exact r_loadO hs rfl rfl tab rfl rfl rfl hm (by repeat(first|exact mH|apply mT)) (by rfl)|exact r_loadA hs rfl rfl tab rfl rfl (Ro.ro (by assumption) hm (by first|exact(fun t=>t)|assumption)) rfl)|exact r_iz hs tab rfl rfl (by omega)|exact r_iy hs tab rfl rfl (by omega)|exact r_cT hs rfl (by omega)|exact r_cF hs rfl (by omega)|exact r_arH hs rfl (by assumption) (by omega)|exact r_pred hs rfl rfl rfl (by omega)|exact r_ar hs rfl (by omega)|exact r_bi hs rfl|exact r_pick hs rfl rfl rfl rfl):RunV P a o w v:=h
theorem kl_(h:RunV P a o w v:=by((with_reducible apply kLoad);first|exact r_load hs rfl rfl tab rfl rfl (by first|exact hm.cl (by repeat(first|exact mH|apply mT)) (by first|rfl|assumption)|exact Ro.cl (by assumption) hm (by first|exact(fun t=>t)|assumption) (by first|rfl|assumption)|exact Ro.cl0 (by assumption) hm (by first|exact(fun t=>t)|assumption) (by first|rfl|assumption))|exact r_loadO hs rfl rfl tab rfl rfl rfl hm (by repeat(first|exact mH|apply mT)) (by rfl)|exact r_loadA hs rfl rfl tab rfl rfl (Ro.ro (by assumption) hm (by first|exact(fun t=>t)|assumption)) rfl)):RunV P a o w v:=h
theorem klR_(h:RunV P a o w v:=by((with_reducible apply kLoad);first|exact r_load hs rfl rfl tab rfl rfl (by first|exact Ro.cl (by assumption) hm (by first|exact(fun t=>t)|assumption) (by first|rfl|assumption)|exact Ro.cl0 (by assumption) hm (by first|exact(fun t=>t)|assumption) (by first|rfl|assumption)|exact hm.cl (by repeat(first|exact mH|apply mT)) (by first|rfl|assumption))|exact r_loadO hs rfl rfl tab rfl rfl rfl hm (by repeat(first|exact mH|apply mT)) (by rfl)|exact r_loadA hs rfl rfl tab rfl rfl (Ro.ro (by assumption) hm (by first|exact(fun t=>t)|assumption)) rfl)):RunV P a o w v:=h
theorem gw_(h:Wnt ops N L o:=by first|exact Wnt.none rfl|exact Wnt.some rfl rfl rfl rfl):Wnt ops N L o:=h
theorem da_(h:Does P a o w K:=by first|exact d_alloc rfl tab rfl rfl hm|exact d_box hs rfl rfl rfl hm|exact d_buildSlice0 rfl tab rfl rfl rfl hm|exact d_buildSlice hs rfl tab rfl rfl rfl rfl rfl rfl rfl rfl rfl hm):Does P a o w K:=h
theorem ds_(h:Does P a o w K:=by first|exact d_store hs rfl rfl rfl tab rfl rfl rfl rfl hm (by repeat(first|exact Rep.head _ _ _|apply Rep.tail)) (by rfl)|exact d_store1 hs rfl rfl rfl tab rfl rfl rfl rfl hm (by repeat(first|exact Rep.head _ _ _|apply Rep.tail)) (by first|omega|assumption|(simp;omega))):Does P a o w K:=h
theorem bd_{b c:Bool}(h:b=c:=by first|rfl|assumption|exact decide_eq_true (by omega)|exact decide_eq_false (by omega)|exact ndT (by omega)|exact ndF (by omega)):b=c:=h
theorem mem_{x:Hp}{M:List Hp}(h:x∈M:=by repeat(first|exact mH|apply mT)):x∈M:=h
theorem rep_{M M':List Hp}{x y:Hp}(h:Rep M x y M':=by repeat(first|exact Rep.head _ _ _|apply Rep.tail)):Rep M x y M':=h
theorem sub_{M M':List Hp}(h:M.Sublist M':=by repeat(first|exact List.Sublist.refl _|exact List.nil_sublist _|apply List.Sublist.cons_cons|apply List.Sublist.cons)):M.Sublist M':=h
theorem ksl_(h:RunV P a o w v:=by first|exact r_sliceArr hs rfl rfl tab rfl rfl rfl|exact r_sliceArrTo hs rfl rfl rfl tab rfl rfl rfl (by omega) (by omega)|exact r_sliceTo hs rfl rfl rfl tab rfl rfl rfl (by omega) (by omega)|exact r_sliceFrom hs rfl rfl rfl tab rfl rfl rfl (by omega) (by omega)):RunV P a o w v:=h
theorem ov_{G H:Prop}(k:H)(s:H→G:=by intro k;(with_reducible refine toL hm ?_);first|exact oneV hs gw_ rfl rfl (by intro w hm;exact kv_) k|exact oneN hs rfl rfl rfl rfl rfl rfl rfl k|exact oneU hs rfl rfl rfl rfl rfl rfl k):G:=s k
theorem ovR_{G H:Prop}(k:H)(s:H→G:=by intro k;(with_reducible refine toL hm ?_);first|exact oneV hs gw_ rfl rfl (by intro w hm;exact kvR_) k|exact oneN hs rfl rfl rfl rfl rfl rfl rfl k|exact oneU hs rfl rfl rfl rfl rfl rfl k):G:=s k
theorem sc_{G H:Prop}(k:H)(s:H→G:=by first|(with_reducible first|exact lNilThen|exact lNilBlock|exact lNil|exact wp_seq|exact wp_region_lit|exact wp_block|exact cExit|exact cRet|exact cSkip|exact gThen|exact gBlock|exact eThen|exact eBlockHit|exact fun k=>eBlock rfl k|exact rThen|exact rBlock)|(intro k;(with_reducible apply cCond);first|exact cTrue hs rfl bd_ k|exact cFalse hs rfl bd_ k)):G:=s k
theorem oq_{G H:Prop}(k:H)(s:H→G:=by intro k;(with_reducible first|refine toL hm ?_|refine toQ ?_);first|exact oneV hs gw_ rfl rfl (by intro w hm;exact kv_) k|exact oneN hs rfl rfl rfl rfl rfl rfl rfl k|exact oneU hs rfl rfl rfl rfl rfl rfl k):G:=s k
theorem oqR_{G H:Prop}(k:H)(s:H→G:=by intro k;(with_reducible first|refine toL hm ?_|refine toQ ?_);first|exact oneV hs gw_ rfl rfl (by intro w hm;exact kvR_) k|exact oneN hs rfl rfl rfl rfl rfl rfl rfl k|exact oneU hs rfl rfl rfl rfl rfl rfl k):G:=s k
theorem cQ_{G H:Prop}(k:H)(s:H→G:=by intro k;(with_reducible refine cQuiet hm ?_ ?_ ?_ k);rfl;kernel_rfl;kernel_rfl):G:=s k
end
section
variable {P:Program} {N:Nat} {L:List (Nat × Value)} {a:Act} {w w0:World} {S:Nat→Prop} {M:List Hp} {o:Oper} {ops:Array Oper} {rest:List Oper} {Q:Exit→Act→World→Prop} {Qa:Act→Prop}
theorem dvc{d:Nat}{fo:Operand}{xs:List Operand}{vs:List Value}{ts:Array TypeId}{f:FuncId}{v:Value}(hs:Sl N L a)(hm:Mm S w0 M w)(hg:Wnt ops N L o)(ho':o.dst=some d)(hd:Nat.blt d N=true)(ho:o.op= .call {callee:= .value fo,args:=xs.toArray,argTypes:=ts})(hf:ev L fo=some (.func (.func f) #[] #[]))(hx:evs L xs=some vs)(hp:plain P f)(hc:Ret P f vs w (fun u w'=>u=v∧Pu w w'))(k:∀w',Mm S w0 M w'→∀a,Sl N ((d,v)::L) a→wpList P ops Q rest a w'):wpList P ops Q (o::rest) a w:=
 dv hs hg ho' hd (d_call hs ho hf hx hp hc) fun u w' ⟨hu,hf'⟩ a h=>by subst hu;exact k w' (hm.pu hf') a h
theorem qwc{d:Nat}{fo:Operand}{xs:List Operand}{vs:List Value}{ts:Array TypeId}{f:FuncId}{v:Value}(hs:Sl N L a)(hg:Wnt ops N L o)(ho':o.dst=some d)(hd:Nat.blt d N=true)(ho:o.op= .call {callee:= .value fo,args:=xs.toArray,argTypes:=ts})(hf:ev L fo=some (.func (.func f) #[] #[]))(hx:evs L xs=some vs)(hp:plain P f)(hc:∀w,Mm S w0 M w→Ret P f vs w (fun u w'=>u=v∧Pu w w'))(k:∀a,Sl N ((d,v)::L) a→wpQuiet P ops (fun w'=>Mm S w0 M w') Qa rest a):wpQuiet P ops (fun w'=>Mm S w0 M w') Qa (o::rest) a:=
 qwcall hs hg ho' hd ho hf hx hp (fun w hm=>Ret.mono (hc w hm) fun _ _ ⟨h1,h2⟩=>⟨h1,hm.pu h2⟩) k
end
theorem Row.room0(g:Nat)(s:Nat):Row (some g) 0 0 s [] []:=⟨(fun e=>by cases e),Nat.le_refl _,Nat.zero_le _,by simp,by simp,by simp⟩
theorem flat_set{α:Type}(f:α→List Value)(s:Nat)(hs:∀a,(f a).length=s)(l:List α)(k j:Nat)(x:α)(v:Value)(hk:l[k]?=some x) (hj:j<s) (y:α) (hy:f y=(f x).set j v):(l.flatMap f).set (k*s+j) v=(l.set k y).flatMap f:=by
 induction l generalizing k with
 |nil=>simp at hk
 |cons a t ih=>
  cases k with
  |zero=>
   simp at hk
   subst hk
   simp only[List.flatMap_cons,Nat.zero_mul,Nat.zero_add,List.set_cons_zero]
   rw[List.set_append_left _ _ (by rw[hs];exact hj),hy]
  |succ k=>
   simp only[List.flatMap_cons,List.set_cons_succ]
   rw[List.set_append_right _ _ (by rw[hs,Nat.succ_mul];omega),hs]
   have e:(k+1)*s+j-s=k*s+j:=by rw[Nat.succ_mul];omega
   rw[e,ih k (by simpa using hk)]
theorem New.none_(w w':World)(t:TypeId):New w w' [⟨none,t,[]⟩]:=⟨fun x hx=>(by rcases List.mem_singleton.1 hx with rfl;rfl),⟨fun x hx=>(by cases hx),trivial⟩,fun x hx g hg=>(by rcases List.mem_singleton.1 hx with rfl;cases hg)⟩
theorem Rd.none_nil{w:World}{B:Nat}{xs:List Value}(h:Rd w B none xs):xs=[]:=by
 cases xs with
 |nil=>rfl
 |cons x r=>obtain⟨b,off,e,_⟩:=h (by simp);cases e
theorem zrep_map{α:Type}(n:Nat)(f:α→List Value)(x:α):zrep n (f x)=(List.replicate n x).flatMap f:=by
 induction n with
 |zero=>rfl
 |succ n ih=>rw[zrep,ih,List.replicate_succ,List.flatMap_cons]
theorem take_set_snoc{α:Type}(l:List α)(k:Nat)(v:α)(hk:k<l.length):(l.set k v).take (k+1)=l.take k++[v]:=by
 rw[List.take_succ_eq_append_getElem (by simpa using hk),List.take_set_of_le (Nat.le_refl k)]
 simp
theorem gEnd{P:Program}{T:List (Nat × TI)}{N:Nat}{L:List (Nat × Value)}{a:Act}{w:World}{K:Value→World→Prop}{fn:Func}{rs:List ResultVar}{vs:List Value}(hT:TabOk P T)(hs:Sl N L a)(hf:fn.results=rs.toArray)(hv:AllRes T L w rs vs)(h:K (resV vs) w):Goes (bodyPost P fn (fun e w'=>∃v,e= .returned v∧K v w')) .normal a w:=retEnd hT hs hf hv ⟨_,rfl,h⟩
structure IS where
 A:Option Addr
 n:Nat
 c:Nat
 xs:List Int
def IS.v(b:IS):Value:= .slice b.A b.n b.c
def IS.ok(b:IS)(w:World):Prop:=b.xs.length=b.n∧Rd w w.heap.size b.A (ints b.xs)
section
variable {P:Program} {T:List (Nat × TI)} {N:Nat} {L:List (Nat × Value)} {a:Act} {w w0:World} {S:Nat→Prop} {M M':List Hp} {o:Oper} {x y z:Operand} {Q:Exit→Act→World→Prop}
theorem Mm.sel(hm:Mm S w0 M w)(idx:List Nat)(hn:idx.Nodup)(he:M'=idx.filterMap (fun i=>M[i]?)):Mm S w0 M' w:=by
 subst he
 have hmem:∀h∈idx.filterMap (fun i=>M[i]?),h∈M:=fun h hh=>by
  obtain⟨i,_,hi⟩:=List.mem_filterMap.1 hh
  exact List.mem_of_getElem? hi
 refine⟨fun h hh=>hm.me h (hmem h hh),hm.fr,?_,fun h hh=>hm.ow h (hmem h hh)⟩
 have hp:=apart_iff.1 hm.dj
 have hsym:∀(i j:Nat)(x y:Hp),i≠j→M[i]?=some x→M[j]?=some y→∀g,x.g=some g→y.g≠some g:=by
  intro i j x y hij hx hy g hg e
  obtain⟨hi,rfl⟩:=List.getElem?_eq_some_iff.1 hx
  obtain⟨hj,rfl⟩:=List.getElem?_eq_some_iff.1 hy
  rcases Nat.lt_or_gt_of_ne hij with h|h
  ·exact List.pairwise_iff_getElem.1 hp i j hi hj h g hg e
  ·exact List.pairwise_iff_getElem.1 hp j i hj hi h g e hg
 rw[apart_iff,List.pairwise_filterMap]
 exact List.Pairwise.imp (fun{i j} hij x hx y hy=>hsym i j x y hij hx hy) hn
theorem r_remH{t yt:TypeId}{k:IntKind}{n m:Int}{q:Nat}(hs:Sl N L a)(ho:o.op= .binOp .rem t x y yt)(hx:ev L x=some (.int k n))(hy:ev L y=some (.int k m))(he:n%m=(q:Int))(hn:0≤n)(hm:0<m):RunV P a o w (.int k (q:Int)):=by
 have:=r_rem64 (P:=P) (w:=w) hs ho hx hy hn hm
 rwa[he]at this
theorem r_shl{t yt:TypeId}{k k':IntKind}{n m:Int}(hs:Sl N L a)(ho:o.op= .binOp .shl t x y yt)(hx:ev L x=some (.int k n))(hy:ev L y=some (.int k' m))(hm:0≤m):RunV P a o w (.int k (k.wrap (n*2 ^ (min m.toNat k.bits)))):=by
 replace hx:=hs.ev hx
 replace hy:=hs.ev hy
 have h0:¬m<0:=by omega
 unfold RunV
 generalize a.eval=ρ at*
 unfold execOp
 simp[ho,go_sem,hx,hy,Op.shift,h0]
theorem r_shr{t yt:TypeId}{k k':IntKind}{n m:Int}(hs:Sl N L a)(ho:o.op= .binOp .shr t x y yt)(hx:ev L x=some (.int k n))(hy:ev L y=some (.int k' m))(hm:0≤m):RunV P a o w (.int k (n.fdiv (2 ^ (min m.toNat k.bits)))):=by
 replace hx:=hs.ev hx
 replace hy:=hs.ev hy
 have h0:¬m<0:=by omega
 unfold RunV
 generalize a.eval=ρ at*
 unfold execOp
 simp[ho,go_sem,hx,hy,Op.shift,h0]
end
theorem cMid{P:Program}{Q:Exit→Act→World→Prop}{a:Act}{w:World}{c:Code}(I:Act→World→Prop)(h:c.wp P (fun e a w=>e= .normal∧I a w) a w)(k:∀a w,I a w→Goes Q .normal a w):c.wp P Q a w:=
 wp_mono h fun e a w ⟨he,hi⟩=>by subst he;exact k a w hi
section
variable {P:Program} {T:List (Nat × TI)} {N:Nat} {L:List (Nat × Value)} {a:Act} {w w0:World} {S:Nat→Prop} {M M1:List Hp} {o:Oper} {v:Value} {K:Value→World→Prop} {Q:Exit→Act→World→Prop} {ops:Array Oper} {l:Array Bool} {S1:World→Prop} {n:Nat}
theorem hTakeN{d j e:Nat}{b c:Bool}(i:Nat)(hs:Sl N L a)(hi:lget ops.toList i=some o)(hb:takeB ops l i=true)(hg:o.guard=some (j,b))(hj:(ops[j]?).bind (·.dst)=some e) (he:Nat.blt e N=true) (hv:lk L e=some (.bool c)) (hbc:(c==b)=false) (ho:o.dst=some d) (hd:Nat.blt d N=true) (hS:S1 w) (k:∀a,Sl N ((d,undef)::L) a→Drawn P ops Q S1 n (l.setIfInBounds i true) a w):Drawn P ops Q S1 (n+1) l a w:=by
 unfold takeB at hb
 simp only[Bool.and_eq_true]at hb
 refine⟨wpAnyH_take (v:=undef) (lget_ok hi) hb.1.1 hb.1.2 hb.2 (fun _ _ _ h=>h) (.inr ⟨?_,rfl⟩) hS ?_⟩
 ·simp only[Region.wanted,hg,yielded_of hs hj he hv]
  simpa using hbc
 ·rw[ho]
  exact(k _ (hs.put undef hd)).h
end
abbrev nS:Value:= .slice none 0 0
abbrev pt(g:Nat):Value:= .pointer (some ⟨g,0,none⟩)
inductive Tr where
 |d
 |t (i:Nat) (r:Tr)
 |e (l:List (Nat × Tr))
 |x (r:Tr)
@[reducible] def Tr.s (l:List Nat) (r:Tr):Tr:=l.foldr .t r
@[reducible] def Tr.o (i:Nat) (r:Tr):Tr:= .e [(i,r)]
def Tr.nx:Tr→Bool
 | .x _=>false
 |_=>true
structure TG(r:Tr):Prop where
structure Bx(H:Prop):Prop where
 h:H
section
variable {P:Program} {N:Nat} {L:List (Nat × Value)} {a:Act} {w:World} {o:Oper} {v:Value} {K:Value→World→Prop} {Q:Exit→Act→World→Prop} {ops:Array Oper} {l:Array Bool} {S1:World→Prop} {n b:Nat}
structure OneD(P:Program)(ops:Array Oper)(Q:Exit→Act→World→Prop)(S1:World→Prop)(n:Nat)(l:Array Bool)(a:Act)(w:World)(i:Nat):Prop where
 h:wpOp P ops (NoPanic Q) i (fun a' w'=>S1 w'∧wpAnyH P .any ops (NoPanic Q) S1 n (l.setIfInBounds i true) a' w') a w
structure OneB(P:Program)(ops:Array Oper)(Q:Exit→Act→World→Prop)(b:Nat)(S1:World→Prop)(n:Nat)(l:Array Bool)(a:Act)(w:World)(i:Nat):Prop where
 h:wpOp P ops (NoPanic Q) i (fun a' w'=>((l.setIfInBounds i true).getD b false=true∨S1 w')∧wpAnyB P .any ops (NoPanic Q) b S1 n (l.setIfInBounds i true) a' w') a w
structure EacT(P:Program)(ops:Array Oper)(Q:Exit→Act→World→Prop)(S1:World→Prop)(n:Nat)(l:Array Bool)(a:Act)(w:World)(rs:List (Nat × Tr)):Prop where
 h:Each P ops Q S1 n l a w (rs.map Prod.fst)
structure EacB(P:Program)(ops:Array Oper)(Q:Exit→Act→World→Prop)(b:Nat)(S1:World→Prop)(n:Nat)(l:Array Bool)(a:Act)(w:World)(rs:List (Nat × Tr)):Prop where
 h:EachB P ops Q b S1 n l a w (rs.map Prod.fst)
theorem cDrawT{id:Nat}{S:Nat→Prop}{w0:World}{M:List Hp}(r:Tr)(M1:List Hp)(hm:Mm S w0 M w)(hf:P.follows .mixedOrders=true)(hn:ops.size=n)(k:TG r→∀w,Mm S w0 M w→Drawn P ops Q (fun w'=>Mm S w0 M1 w') n (Array.replicate n false) a w):(Code.region id ops true).wp P Q a w:=cDraw M1 hm hf hn (k ⟨⟩)
theorem cDrawTB{id:Nat}{S:Nat→Prop}{w0:World}{M:List Hp}(r:Tr)(b:Nat)(M1:List Hp)(hm:Mm S w0 M w)(hf:P.follows .mixedOrders=true)(hn:ops.size=n)(k:TG r→∀w,Mm S w0 M w→DrawnB P ops Q b (fun w'=>Mm S w0 M1 w') n (Array.replicate n false) a w):(Code.region id ops true).wp P Q a w:=cDrawB b M1 hm hf hn (k ⟨⟩)
theorem tTake{d i:Nat}{r:Tr}(_:TG (.t i r))(hs:Sl N L a)(hi:lget ops.toList i=some o)(hb:takeB ops l i=true)(hg:Wnt ops N L o)(ho:o.dst=some d)(hd:Nat.blt d N=true)(h:∀w,S1 w→RunV P a o w v)(hS:S1 w)(k:TG r→∀a,Sl N ((d,v)::L) a→Drawn P ops Q S1 n (l.setIfInBounds i true) a w):Drawn P ops Q S1 (n+1) l a w:=hTake i hs hi hb hg ho hd h hS (k ⟨⟩)
theorem tTakeN{d j e i:Nat}{b c:Bool}{r:Tr}(_:TG (.t i r))(hs:Sl N L a)(hi:lget ops.toList i=some o)(hb:takeB ops l i=true)(hg:o.guard=some (j,b))(hj:(ops[j]?).bind (·.dst)=some e) (he:Nat.blt e N=true) (hv:lk L e=some (.bool c)) (hbc:(c==b)=false) (ho:o.dst=some d) (hd:Nat.blt d N=true) (hS:S1 w) (k:TG r→∀a,Sl N ((d,undef)::L) a→Drawn P ops Q S1 n (l.setIfInBounds i true) a w):Drawn P ops Q S1 (n+1) l a w:=hTakeN i hs hi hb hg hj he hv hbc ho hd hS (k ⟨⟩)
theorem tTakeB{d i:Nat}{r:Tr}(g:Bool)(_:TG (.t i r))(hs:Sl N L a)(hi:lget ops.toList i=some o)(hb:takeB ops l i=true)(hbar:(!(Nat.beq i b)&&(!g||(waitsB .any ops b i&&!(l.getD b true))))=true)(hg:Wnt ops N L o)(ho:o.dst=some d)(hd:Nat.blt d N=true)(h:∀w,(g=true→S1 w)→RunV P a o w v)(hS:l.getD b false=true∨S1 w)(k:TG r→∀a,Sl N ((d,v)::L) a→DrawnB P ops Q b S1 n (l.setIfInBounds i true) a w):DrawnB P ops Q b S1 (n+1) l a w:=bTake i g hs hi hb hbar hg ho hd h hS (k ⟨⟩)
theorem tE{rs:List (Nat × Tr)}(_:TG (.e rs))(h:EacT P ops Q S1 n l a w rs)(hr:(Region.ready .any ops l==rs.map Prod.fst&&!(rs.map Prod.fst).isEmpty)=true:=by kernel_rfl):Drawn P ops Q S1 (n+1) l a w:=hEach _ hr h.h
theorem tEB{rs:List (Nat × Tr)}(_:TG (.e rs))(h:EacB P ops Q b S1 n l a w rs)(hr:(Region.ready .any ops l==rs.map Prod.fst&&!(rs.map Prod.fst).isEmpty)=true:=by kernel_rfl):DrawnB P ops Q b S1 (n+1) l a w:=bEach _ hr h.h
theorem tN:EacT P ops Q S1 n l a w []:=⟨eNil⟩
theorem tNB:EacB P ops Q b S1 n l a w []:=⟨bNil⟩
theorem tC{i:Nat}{r:Tr}{rs:List (Nat × Tr)}(h:TG r→OneD P ops Q S1 n l a w i)(k:EacT P ops Q S1 n l a w rs):EacT P ops Q S1 n l a w ((i,r)::rs):=⟨⟨fun j hj=>by
 rcases List.mem_cons.1 hj with rfl|hj
 ·exact(h ⟨⟩).h
 ·exact k.h.h j hj⟩⟩
theorem tCB{i:Nat}{r:Tr}{rs:List (Nat × Tr)}(h:TG r→OneB P ops Q b S1 n l a w i)(k:EacB P ops Q b S1 n l a w rs):EacB P ops Q b S1 n l a w ((i,r)::rs):=⟨⟨fun j hj=>by
 rcases List.mem_cons.1 hj with rfl|hj
 ·exact(h ⟨⟩).h
 ·exact k.h.h j hj⟩⟩
theorem tE1{i:Nat}{r:Tr}(t:TG (.e [(i,r)]))(h:TG r→OneD P ops Q S1 n l a w i)(hr:(Region.ready .any ops l== [i]&&!([i]:List Nat).isEmpty)=true:=by kernel_rfl):Drawn P ops Q S1 (n+1) l a w:=tE t (tC h tN) hr
theorem tE1B{i:Nat}{r:Tr}(t:TG (.e [(i,r)]))(h:TG r→OneB P ops Q b S1 n l a w i)(hr:(Region.ready .any ops l== [i]&&!([i]:List Nat).isEmpty)=true:=by kernel_rfl):DrawnB P ops Q b S1 (n+1) l a w:=tEB t (tCB h tNB) hr
theorem oDo{d i:Nat}(hs:Sl N L a)(hi:lget ops.toList i=some o)(hg:Wnt ops N L o)(ho:o.dst=some d)(hd:Nat.blt d N=true)(h:Does P a o w K)(k:∀v w',K v w'→∀a,Sl N ((d,v)::L) a→S1 w'∧Drawn P ops Q S1 n (l.setIfInBounds i true) a w'):OneD P ops Q S1 n l a w i:=⟨(eDo hs hi hg ho hd h k eNil).h i (List.mem_cons_self ..)⟩
theorem oDoN{i:Nat}(hs:Sl N L a)(hi:lget ops.toList i=some o)(hg:Wnt ops N L o)(ho:o.dst=none)(h:Does P a o w K)(k:∀v w',K v w'→∀a,Sl N L a→S1 w'∧Drawn P ops Q S1 n (l.setIfInBounds i true) a w'):OneD P ops Q S1 n l a w i:=⟨(eDoN hs hi hg ho h k eNil).h i (List.mem_cons_self ..)⟩
theorem oDoB{d i:Nat}(hs:Sl N L a)(hi:lget ops.toList i=some o)(hg:Wnt ops N L o)(ho:o.dst=some d)(hd:Nat.blt d N=true)(h:Does P a o w K)(k:∀v w',K v w'→∀a,Sl N ((d,v)::L) a→((l.setIfInBounds i true).getD b false=true∨S1 w')∧DrawnB P ops Q b S1 n (l.setIfInBounds i true) a w'):OneB P ops Q b S1 n l a w i:=⟨(bDo hs hi hg ho hd h k bNil).h i (List.mem_cons_self ..)⟩
theorem oDoNB{i:Nat}(hs:Sl N L a)(hi:lget ops.toList i=some o)(hg:Wnt ops N L o)(ho:o.dst=none)(h:Does P a o w K)(k:∀v w',K v w'→∀a,Sl N L a→((l.setIfInBounds i true).getD b false=true∨S1 w')∧DrawnB P ops Q b S1 n (l.setIfInBounds i true) a w'):OneB P ops Q b S1 n l a w i:=⟨(bDoN hs hi hg ho h k bNil).h i (List.mem_cons_self ..)⟩
theorem oDoV{d i:Nat}(hs:Sl N L a)(hi:lget ops.toList i=some o)(hg:Wnt ops N L o)(ho:o.dst=some d)(hd:Nat.blt d N=true)(h:RunV P a o w v)(k:∀a,Sl N ((d,v)::L) a→S1 w∧Drawn P ops Q S1 n (l.setIfInBounds i true) a w):OneD P ops Q S1 n l a w i:=
 oDo hs hi hg ho hd (RunV.does h) (by rintro _ _ ⟨rfl,rfl⟩;exact k)
theorem tX{r:Tr}(_:TG (.x r)):TG r:=⟨⟩
theorem nx_{r:Tr}{p:Prop}(_:TG r)(_:r.nx=true)(h:p):p:=h
theorem tD(_:TG .d)(h:Goes Q .normal a w)(hr:(Region.ready .any ops l).isEmpty=true:=by kernel_rfl):Drawn P ops Q S1 n l a w:=hDone hr h
theorem tDB(_:TG .d)(h:Goes Q .normal a w)(hr:(Region.ready .any ops l).isEmpty=true:=by kernel_rfl):DrawnB P ops Q b S1 n l a w:=bDone hr h
end
theorem Sl.pp{N:Nat}{L:List (Nat × Value)}{a:Act}(_hs:Sl N L a)(k:Nat){g:Nat}(_h:lk L k=some (.pointer (some ⟨g,0,none⟩)):=by exact rfl):∃g',g'=g:=⟨_,rfl⟩
theorem Sl.qq{N:Nat}{L:List (Nat × Value)}{a:Act}(_hs:Sl N L a)(k:Nat){g n c:Nat}(_h:lk L k=some (.slice (some ⟨g,0,none⟩) n c):=by exact rfl):∃g',g'=g:=⟨_,rfl⟩
theorem rexc_{P:Program}{N:Nat}{L:List (Nat × Value)}{a:Act}{S:Nat→Prop}{w0 w:World}{M:List Hp}{c:Code}{Q:Exit→Act→World→Prop}(hs:Sl N L a)(hm:Mm S w0 M w)(k:∀a,Mm S w0 M w→Sl N L a→Code.wp P c Q a w):Code.wp P c Q a w:=k a hm hs
theorem rexl_{P:Program}{N:Nat}{L:List (Nat × Value)}{a:Act}{S:Nat→Prop}{w0 w:World}{M:List Hp}{ops:Array Oper}{l:List Oper}{Q:Exit→Act→World→Prop}(hs:Sl N L a)(hm:Mm S w0 M w)(k:∀a,Mm S w0 M w→Sl N L a→wpList P ops Q l a w):wpList P ops Q l a w:=k a hm hs
theorem rexg_{N:Nat}{L:List (Nat × Value)}{a:Act}{S:Nat→Prop}{w0 w:World}{M:List Hp}{Q:Exit→Act→World→Prop}{e:Exit}(hs:Sl N L a)(hm:Mm S w0 M w)(k:∀a,Mm S w0 M w→Sl N L a→Goes Q e a w):Goes Q e a w:=k a hm hs
theorem sb_{N:Nat}{L L':List (Nat × Value)}{a:Act}(hs:Sl N L a)(h:Has L L':=by repeat(first|exact trivial|refine And.intro rfl ?_)):Sl N L' a:=hs.sub h.all
theorem bu_{b:Nat}{l:Array Bool}{p:Prop}(h:l.getD b false=true∨p:=by first|exact .inl rfl|exact .inr (hm.sub sub_)):l.getD b false=true∨p:=h
theorem dg149e_{G H:Prop}(k:H)(s:Bx H→G:=by intro k_;(repeat(first|(refine tTake t_ hs rfl (by kernel_rfl) gw_ rfl rfl (by intro w hm;replace hm:Mm _ _ _ w:=hm;(first|exact kvR_|exact kb2_)) (hm.sub sub_) ?_;(try clear t_ hs a);intro t_ a hs)|(refine tTakeN t_ hs rfl (by kernel_rfl) rfl rfl rfl rfl rfl rfl rfl (hm.sub sub_) ?_;(try clear t_ hs a);intro t_ a hs)|(refine tTakeU t_ hs rfl (by kernel_rfl) rfl rfl rfl rfl rfl rfl (hm.sub sub_) ?_;(try clear t_ hs a);intro t_ a hs)|(refine tE1 t_ ?_;(try clear t_);intro t_)|(refine nx_ t_ rfl ?_;have t_:=t_;first|(refine oDo hs rfl gw_ rfl rfl da_ ?_;(try clear hs hm a);rintro _ w_ ⟨g_,rfl,-,hm⟩ a hs;refine⟨(hm.sub sub_),?_⟩)|(refine oDoN hs rfl gw_ rfl ds_ ?_;(try clear hs hm a);rintro-w_ hm a hs;refine⟨(hm.sub sub_),?_⟩)|(refine oDoV hs rfl gw_ rfl rfl (by exact klR_) ?_;(try clear hs a);intro a hs;refine⟨(hm.sub sub_),?_⟩))));have y_:=t_;clear t_;(first|(have m_:=hm;have s_:=hs;have z_:=y_;clear hs;(try clear hm);revert m_ s_ z_ a)|((first|refine rexd_ hs hm ?_|refine rexb_ hs hm ?_);intro a hm hs;have z_:=y_;revert hm hs z_ a));(try revert w_);(repeat revert g_);exact k_.h):G:=s ⟨k⟩
theorem dg2657_{G H:Prop}(k:H)(s:Bx H→G:=by intro k_;(repeat(first|(refine tTakeB false t_ hs rfl (by kernel_rfl) (by kernel_rfl) gw_ rfl rfl (by intro w _;exact kv_) bu_ ?_;(try clear t_ hs a);intro t_ a hs)|(refine tTakeB true t_ hs rfl (by kernel_rfl) (by kernel_rfl) gw_ rfl rfl (by intro w hm;replace hm:Mm _ _ _ w:=hm rfl;exact kl_) bu_ ?_;(try clear t_ hs a);intro t_ a hs)|(refine tE1B t_ ?_;(try clear t_);intro t_)|(refine nx_ t_ rfl ?_;have t_:=t_;first|(refine oDoB hs rfl gw_ rfl rfl da_ ?_;(try clear hs hm a);rintro _ w_ ⟨g_,rfl,-,hm⟩ a hs;refine⟨bu_,?_⟩)|(refine oDoNB hs rfl gw_ rfl ds_ ?_;(try clear hs hm a);rintro-w_ hm a hs;refine⟨bu_,?_⟩)|(refine oDoVB hs rfl gw_ rfl rfl (by exact kl_) ?_;(try clear hs a);intro a hs;refine⟨bu_,?_⟩))));have y_:=t_;clear t_;(first|(have m_:=hm;have s_:=hs;have z_:=y_;clear hs;(try clear hm);revert m_ s_ z_ a)|((first|refine rexd_ hs hm ?_|refine rexb_ hs hm ?_);intro a hm hs;have z_:=y_;revert hm hs z_ a));(try revert w_);(repeat revert g_);exact k_.h):G:=s ⟨k⟩
theorem dg2c00_{G H:Prop}(k:H)(s:Bx H→G:=by intro k_;(repeat(first|(refine tTake t_ hs rfl (by kernel_rfl) gw_ rfl rfl (by intro w hm;replace hm:Mm _ _ _ w:=hm;(first|exact kvR_|exact r_min hs rfl rfl rfl|exact kb2_)) (hm.sub sub_) ?_;(try clear t_ hs a);intro t_ a hs)|(refine tTakeN t_ hs rfl (by kernel_rfl) rfl rfl rfl rfl rfl rfl rfl (hm.sub sub_) ?_;(try clear t_ hs a);intro t_ a hs)|(refine tTakeU t_ hs rfl (by kernel_rfl) rfl rfl rfl rfl rfl rfl (hm.sub sub_) ?_;(try clear t_ hs a);intro t_ a hs)|(refine tE1 t_ ?_;(try clear t_);intro t_)|(refine nx_ t_ rfl ?_;have t_:=t_;first|(refine oDo hs rfl gw_ rfl rfl da_ ?_;(try clear hs hm a);rintro _ w_ ⟨g_,rfl,-,hm⟩ a hs;refine⟨(hm.sub sub_),?_⟩)|(refine oDoN hs rfl gw_ rfl ds_ ?_;(try clear hs hm a);rintro-w_ hm a hs;refine⟨(hm.sub sub_),?_⟩)|(refine oDoV hs rfl gw_ rfl rfl (by exact klR_) ?_;(try clear hs a);intro a hs;refine⟨(hm.sub sub_),?_⟩))));have y_:=t_;clear t_;(first|(have m_:=hm;have s_:=hs;have z_:=y_;clear hs;(try clear hm);revert m_ s_ z_ a)|((first|refine rexd_ hs hm ?_|refine rexb_ hs hm ?_);intro a hm hs;have z_:=y_;revert hm hs z_ a));(try revert w_);(repeat revert g_);exact k_.h):G:=s ⟨k⟩
theorem dg6140_{G H:Prop}(k:H)(s:Bx H→G:=by intro k_;(repeat(first|(refine tTake t_ hs rfl (by kernel_rfl) gw_ rfl rfl (by intro w hm;replace hm:Mm _ _ _ w:=hm;(first|exact kvR_|exact r_quo64 hs rfl rfl rfl (by omega) (by omega)|exact r_quo hs rfl rfl rfl (by omega)|exact r_remH hs rfl rfl rfl (by assumption) (by omega) (by omega)|exact r_rem64 hs rfl rfl rfl (by omega) (by omega)|exact r_rem hs rfl rfl rfl (by omega)|exact kb2_|exact r_sliceArr hs rfl rfl tab rfl rfl rfl|exact r_sliceArrTo hs rfl rfl rfl tab rfl rfl rfl (by omega) (by omega)|exact r_sliceTo hs rfl rfl rfl tab rfl rfl rfl (by omega) (by omega)|exact r_sliceN2 hs rfl rfl rfl rfl tab rfl rfl rfl (by omega) (by omega) (by omega)|exact r_sliceF2 hs rfl rfl rfl tab rfl rfl rfl (by omega) (by omega))) (hm.sub sub_) ?_;(try clear t_ hs a);intro t_ a hs)|(refine tTakeN t_ hs rfl (by kernel_rfl) rfl rfl rfl rfl rfl rfl rfl (hm.sub sub_) ?_;(try clear t_ hs a);intro t_ a hs)|(refine tTakeU t_ hs rfl (by kernel_rfl) rfl rfl rfl rfl rfl rfl (hm.sub sub_) ?_;(try clear t_ hs a);intro t_ a hs)|(refine tE1 t_ ?_;(try clear t_);intro t_)|(refine nx_ t_ rfl ?_;have t_:=t_;first|(refine oDo hs rfl gw_ rfl rfl da_ ?_;(try clear hs hm a);rintro _ w_ ⟨g_,rfl,-,hm⟩ a hs;refine⟨(hm.sub sub_),?_⟩)|(refine oDoN hs rfl gw_ rfl ds_ ?_;(try clear hs hm a);rintro-w_ hm a hs;refine⟨(hm.sub sub_),?_⟩)|(refine oDoV hs rfl gw_ rfl rfl (by exact klR_) ?_;(try clear hs a);intro a hs;refine⟨(hm.sub sub_),?_⟩))));have y_:=t_;clear t_;(first|(have m_:=hm;have s_:=hs;have z_:=y_;clear hs;(try clear hm);revert m_ s_ z_ a)|((first|refine rexd_ hs hm ?_|refine rexb_ hs hm ?_);intro a hm hs;have z_:=y_;revert hm hs z_ a));(try revert w_);(repeat revert g_);exact k_.h):G:=s ⟨k⟩
theorem dg6d05_{G H:Prop}(k:H)(s:Bx H→G:=by intro k_;(repeat(first|(refine tTake t_ hs rfl (by kernel_rfl) gw_ rfl rfl (by intro w hm;replace hm:Mm _ _ _ w:=hm;(first|exact kvR_|exact ksl_)) (hm.sub sub_) ?_;(try clear t_ hs a);intro t_ a hs)|(refine tTakeN t_ hs rfl (by kernel_rfl) rfl rfl rfl rfl rfl rfl rfl (hm.sub sub_) ?_;(try clear t_ hs a);intro t_ a hs)|(refine tTakeU t_ hs rfl (by kernel_rfl) rfl rfl rfl rfl rfl rfl (hm.sub sub_) ?_;(try clear t_ hs a);intro t_ a hs)|(refine tE1 t_ ?_;(try clear t_);intro t_)|(refine nx_ t_ rfl ?_;have t_:=t_;first|(refine oDo hs rfl gw_ rfl rfl da_ ?_;(try clear hs hm a);rintro _ w_ ⟨g_,rfl,-,hm⟩ a hs;refine⟨(hm.sub sub_),?_⟩)|(refine oDoN hs rfl gw_ rfl ds_ ?_;(try clear hs hm a);rintro-w_ hm a hs;refine⟨(hm.sub sub_),?_⟩)|(refine oDoV hs rfl gw_ rfl rfl (by exact klR_) ?_;(try clear hs a);intro a hs;refine⟨(hm.sub sub_),?_⟩))));have y_:=t_;clear t_;(first|(have m_:=hm;have s_:=hs;have z_:=y_;clear hs;(try clear hm);revert m_ s_ z_ a)|((first|refine rexd_ hs hm ?_|refine rexb_ hs hm ?_);intro a hm hs;have z_:=y_;revert hm hs z_ a));(try revert w_);(repeat revert g_);exact k_.h):G:=s ⟨k⟩
theorem dg75f8_{G H:Prop}(k:H)(s:Bx H→G:=by intro k_;(repeat(first|(refine tTake t_ hs rfl (by kernel_rfl) gw_ rfl rfl (by intro w hm;replace hm:Mm _ _ _ w:=hm;(first|exact kv_|exact kb2_)) (hm.sub sub_) ?_;(try clear t_ hs a);intro t_ a hs)|(refine tTakeN t_ hs rfl (by kernel_rfl) rfl rfl rfl rfl rfl rfl rfl (hm.sub sub_) ?_;(try clear t_ hs a);intro t_ a hs)|(refine tTakeU t_ hs rfl (by kernel_rfl) rfl rfl rfl rfl rfl rfl (hm.sub sub_) ?_;(try clear t_ hs a);intro t_ a hs)|(refine tE1 t_ ?_;(try clear t_);intro t_)|(refine nx_ t_ rfl ?_;have t_:=t_;first|(refine oDo hs rfl gw_ rfl rfl da_ ?_;(try clear hs hm a);rintro _ w_ ⟨g_,rfl,-,hm⟩ a hs;refine⟨(hm.sub sub_),?_⟩)|(refine oDoN hs rfl gw_ rfl ds_ ?_;(try clear hs hm a);rintro-w_ hm a hs;refine⟨(hm.sub sub_),?_⟩)|(refine oDoV hs rfl gw_ rfl rfl (by exact kl_) ?_;(try clear hs a);intro a hs;refine⟨(hm.sub sub_),?_⟩))));have y_:=t_;clear t_;(first|(have m_:=hm;have s_:=hs;have z_:=y_;clear hs;(try clear hm);revert m_ s_ z_ a)|((first|refine rexd_ hs hm ?_|refine rexb_ hs hm ?_);intro a hm hs;have z_:=y_;revert hm hs z_ a));(try revert w_);(repeat revert g_);exact k_.h):G:=s ⟨k⟩
theorem dg7dd6_{G H:Prop}(k:H)(s:Bx H→G:=by intro k_;(repeat(first|(refine tTake t_ hs rfl (by kernel_rfl) gw_ rfl rfl (by intro w hm;replace hm:Mm _ _ _ w:=hm;(first|exact kvR_|exact kb2_|exact ksl_)) (hm.sub sub_) ?_;(try clear t_ hs a);intro t_ a hs)|(refine tTakeN t_ hs rfl (by kernel_rfl) rfl rfl rfl rfl rfl rfl rfl (hm.sub sub_) ?_;(try clear t_ hs a);intro t_ a hs)|(refine tTakeU t_ hs rfl (by kernel_rfl) rfl rfl rfl rfl rfl rfl (hm.sub sub_) ?_;(try clear t_ hs a);intro t_ a hs)|(refine tE1 t_ ?_;(try clear t_);intro t_)|(refine nx_ t_ rfl ?_;have t_:=t_;first|(refine oDo hs rfl gw_ rfl rfl da_ ?_;(try clear hs hm a);rintro _ w_ ⟨g_,rfl,-,hm⟩ a hs;refine⟨(hm.sub sub_),?_⟩)|(refine oDoN hs rfl gw_ rfl ds_ ?_;(try clear hs hm a);rintro-w_ hm a hs;refine⟨(hm.sub sub_),?_⟩)|(refine oDoV hs rfl gw_ rfl rfl (by exact klR_) ?_;(try clear hs a);intro a hs;refine⟨(hm.sub sub_),?_⟩))));have y_:=t_;clear t_;(first|(have m_:=hm;have s_:=hs;have z_:=y_;clear hs;(try clear hm);revert m_ s_ z_ a)|((first|refine rexd_ hs hm ?_|refine rexb_ hs hm ?_);intro a hm hs;have z_:=y_;revert hm hs z_ a));(try revert w_);(repeat revert g_);exact k_.h):G:=s ⟨k⟩
theorem dg81ac_{G H:Prop}(k:H)(s:Bx H→G:=by intro k_;(repeat(first|(refine tTake t_ hs rfl (by kernel_rfl) gw_ rfl rfl (by intro w hm;replace hm:Mm _ _ _ w:=hm;(first|exact kvR_|exact r_neqSt (fl:=[(true,0,5),(true,1,23)]) hs rfl rfl rfl tab (by kernel_rfl) (by kernel_rfl) (by kernel_rfl) (by kernel_rfl) rfl)) (hm.sub sub_) ?_;(try clear t_ hs a);intro t_ a hs)|(refine tTakeN t_ hs rfl (by kernel_rfl) rfl rfl rfl rfl rfl rfl rfl (hm.sub sub_) ?_;(try clear t_ hs a);intro t_ a hs)|(refine tTakeU t_ hs rfl (by kernel_rfl) rfl rfl rfl rfl rfl rfl (hm.sub sub_) ?_;(try clear t_ hs a);intro t_ a hs)|(refine tE1 t_ ?_;(try clear t_);intro t_)|(refine nx_ t_ rfl ?_;have t_:=t_;first|(refine oDo hs rfl gw_ rfl rfl da_ ?_;(try clear hs hm a);rintro _ w_ ⟨g_,rfl,-,hm⟩ a hs;refine⟨(hm.sub sub_),?_⟩)|(refine oDoN hs rfl gw_ rfl ds_ ?_;(try clear hs hm a);rintro-w_ hm a hs;refine⟨(hm.sub sub_),?_⟩)|(refine oDoV hs rfl gw_ rfl rfl (by exact klR_) ?_;(try clear hs a);intro a hs;refine⟨(hm.sub sub_),?_⟩))));have y_:=t_;clear t_;(first|(have m_:=hm;have s_:=hs;have z_:=y_;clear hs;(try clear hm);revert m_ s_ z_ a)|((first|refine rexd_ hs hm ?_|refine rexb_ hs hm ?_);intro a hm hs;have z_:=y_;revert hm hs z_ a));(try revert w_);(repeat revert g_);exact k_.h):G:=s ⟨k⟩
theorem dg9546_{G H:Prop}(k:H)(s:Bx H→G:=by intro k_;(repeat(first|(refine tTake t_ hs rfl (by kernel_rfl) gw_ rfl rfl (by intro w hm;replace hm:Mm _ _ _ w:=hm;exact kvR_) (hm.sub sub_) ?_;(try clear t_ hs a);intro t_ a hs)|(refine tTakeN t_ hs rfl (by kernel_rfl) rfl rfl rfl rfl rfl rfl rfl (hm.sub sub_) ?_;(try clear t_ hs a);intro t_ a hs)|(refine tTakeU t_ hs rfl (by kernel_rfl) rfl rfl rfl rfl rfl rfl (hm.sub sub_) ?_;(try clear t_ hs a);intro t_ a hs)|(refine tE1 t_ ?_;(try clear t_);intro t_)|(refine nx_ t_ rfl ?_;have t_:=t_;first|(refine oDo hs rfl gw_ rfl rfl da_ ?_;(try clear hs hm a);rintro _ w_ ⟨g_,rfl,-,hm⟩ a hs;refine⟨(hm.sub sub_),?_⟩)|(refine oDoN hs rfl gw_ rfl ds_ ?_;(try clear hs hm a);rintro-w_ hm a hs;refine⟨(hm.sub sub_),?_⟩)|(refine oDoV hs rfl gw_ rfl rfl (by exact klR_) ?_;(try clear hs a);intro a hs;refine⟨(hm.sub sub_),?_⟩))));have y_:=t_;clear t_;(first|(have m_:=hm;have s_:=hs;have z_:=y_;clear hs;(try clear hm);revert m_ s_ z_ a)|((first|refine rexd_ hs hm ?_|refine rexb_ hs hm ?_);intro a hm hs;have z_:=y_;revert hm hs z_ a));(try revert w_);(repeat revert g_);exact k_.h):G:=s ⟨k⟩
theorem dg95fa_{G H:Prop}(k:H)(s:Bx H→G:=by intro k_;(repeat(first|(refine tTakeB false t_ hs rfl (by kernel_rfl) (by kernel_rfl) gw_ rfl rfl (by intro w _;(first|exact kvR_|exact kb2_|exact r_loadO hs rfl rfl tab rfl rfl rfl hm (by repeat(first|exact mH|apply mT)) (by assumption))) bu_ ?_;(try clear t_ hs a);intro t_ a hs)|(refine tTakeB true t_ hs rfl (by kernel_rfl) (by kernel_rfl) gw_ rfl rfl (by intro w hm;replace hm:Mm _ _ _ w:=hm rfl;(first|exact klR_|exact r_loadO hs rfl rfl tab rfl rfl rfl hm (by repeat(first|exact mH|apply mT)) (by assumption))) bu_ ?_;(try clear t_ hs a);intro t_ a hs)|(refine tE1B t_ ?_;(try clear t_);intro t_)|(refine nx_ t_ rfl ?_;have t_:=t_;first|(refine oDoB hs rfl gw_ rfl rfl da_ ?_;(try clear hs hm a);rintro _ w_ ⟨g_,rfl,-,hm⟩ a hs;refine⟨bu_,?_⟩)|(refine oDoNB hs rfl gw_ rfl ds_ ?_;(try clear hs hm a);rintro-w_ hm a hs;refine⟨bu_,?_⟩)|(refine oDoVB hs rfl gw_ rfl rfl (by(first|exact klR_|exact r_loadO hs rfl rfl tab rfl rfl rfl hm (by repeat(first|exact mH|apply mT)) (by assumption))) ?_;(try clear hs a);intro a hs;refine⟨bu_,?_⟩))));have y_:=t_;clear t_;(first|(have m_:=hm;have s_:=hs;have z_:=y_;clear hs;(try clear hm);revert m_ s_ z_ a)|((first|refine rexd_ hs hm ?_|refine rexb_ hs hm ?_);intro a hm hs;have z_:=y_;revert hm hs z_ a));(try revert w_);(repeat revert g_);exact k_.h):G:=s ⟨k⟩
theorem dgc949_{G H:Prop}(k:H)(s:Bx H→G:=by intro k_;(repeat(first|(refine tTakeB false t_ hs rfl (by kernel_rfl) (by kernel_rfl) gw_ rfl rfl (by intro w _;(first|exact kvR_|exact r_remH hs rfl rfl rfl (by assumption) (by omega) (by omega)|exact r_rem64 hs rfl rfl rfl (by omega) (by omega)|exact r_rem hs rfl rfl rfl (by omega)|exact r_loadO hs rfl rfl tab rfl rfl rfl hm (by repeat(first|exact mH|apply mT)) (by assumption))) bu_ ?_;(try clear t_ hs a);intro t_ a hs)|(refine tTakeB true t_ hs rfl (by kernel_rfl) (by kernel_rfl) gw_ rfl rfl (by intro w hm;replace hm:Mm _ _ _ w:=hm rfl;exact klR_) bu_ ?_;(try clear t_ hs a);intro t_ a hs)|(refine tE1B t_ ?_;(try clear t_);intro t_)|(refine nx_ t_ rfl ?_;have t_:=t_;first|(refine oDoB hs rfl gw_ rfl rfl da_ ?_;(try clear hs hm a);rintro _ w_ ⟨g_,rfl,-,hm⟩ a hs;refine⟨bu_,?_⟩)|(refine oDoNB hs rfl gw_ rfl ds_ ?_;(try clear hs hm a);rintro-w_ hm a hs;refine⟨bu_,?_⟩)|(refine oDoVB hs rfl gw_ rfl rfl (by exact klR_) ?_;(try clear hs a);intro a hs;refine⟨bu_,?_⟩))));have y_:=t_;clear t_;(first|(have m_:=hm;have s_:=hs;have z_:=y_;clear hs;(try clear hm);revert m_ s_ z_ a)|((first|refine rexd_ hs hm ?_|refine rexb_ hs hm ?_);intro a hm hs;have z_:=y_;revert hm hs z_ a));(try revert w_);(repeat revert g_);exact k_.h):G:=s ⟨k⟩
theorem dgca31_{G H:Prop}(k:H)(s:Bx H→G:=by intro k_;(repeat(first|(refine tTake t_ hs rfl (by kernel_rfl) gw_ rfl rfl (by intro w hm;replace hm:Mm _ _ _ w:=hm;(first|exact kvR_|exact r_loadO hs rfl rfl tab rfl rfl rfl hm (by repeat(first|exact mH|apply mT)) (by assumption))) (hm.sub sub_) ?_;(try clear t_ hs a);intro t_ a hs)|(refine tTakeN t_ hs rfl (by kernel_rfl) rfl rfl rfl rfl rfl rfl rfl (hm.sub sub_) ?_;(try clear t_ hs a);intro t_ a hs)|(refine tTakeU t_ hs rfl (by kernel_rfl) rfl rfl rfl rfl rfl rfl (hm.sub sub_) ?_;(try clear t_ hs a);intro t_ a hs)|(refine tE1 t_ ?_;(try clear t_);intro t_)|(refine nx_ t_ rfl ?_;have t_:=t_;first|(refine oDo hs rfl gw_ rfl rfl da_ ?_;(try clear hs hm a);rintro _ w_ ⟨g_,rfl,-,hm⟩ a hs;refine⟨(hm.sub sub_),?_⟩)|(refine oDoN hs rfl gw_ rfl ds_ ?_;(try clear hs hm a);rintro-w_ hm a hs;refine⟨(hm.sub sub_),?_⟩)|(refine oDoV hs rfl gw_ rfl rfl (by exact klR_) ?_;(try clear hs a);intro a hs;refine⟨(hm.sub sub_),?_⟩))));have y_:=t_;clear t_;(first|(have m_:=hm;have s_:=hs;have z_:=y_;clear hs;(try clear hm);revert m_ s_ z_ a)|((first|refine rexd_ hs hm ?_|refine rexb_ hs hm ?_);intro a hm hs;have z_:=y_;revert hm hs z_ a));(try revert w_);(repeat revert g_);exact k_.h):G:=s ⟨k⟩
theorem dgd265_{G H:Prop}(k:H)(s:Bx H→G:=by intro k_;(repeat(first|(refine tTakeB false t_ hs rfl (by kernel_rfl) (by kernel_rfl) gw_ rfl rfl (by intro w _;(first|exact kvR_|exact kb2_|exact ksl_)) bu_ ?_;(try clear t_ hs a);intro t_ a hs)|(refine tTakeB true t_ hs rfl (by kernel_rfl) (by kernel_rfl) gw_ rfl rfl (by intro w hm;replace hm:Mm _ _ _ w:=hm rfl;exact klR_) bu_ ?_;(try clear t_ hs a);intro t_ a hs)|(refine tE1B t_ ?_;(try clear t_);intro t_)|(refine nx_ t_ rfl ?_;have t_:=t_;first|(refine oDoB hs rfl gw_ rfl rfl da_ ?_;(try clear hs hm a);rintro _ w_ ⟨g_,rfl,-,hm⟩ a hs;refine⟨bu_,?_⟩)|(refine oDoNB hs rfl gw_ rfl ds_ ?_;(try clear hs hm a);rintro-w_ hm a hs;refine⟨bu_,?_⟩)|(refine oDoVB hs rfl gw_ rfl rfl (by exact klR_) ?_;(try clear hs a);intro a hs;refine⟨bu_,?_⟩))));have y_:=t_;clear t_;(first|(have m_:=hm;have s_:=hs;have z_:=y_;clear hs;(try clear hm);revert m_ s_ z_ a)|((first|refine rexd_ hs hm ?_|refine rexb_ hs hm ?_);intro a hm hs;have z_:=y_;revert hm hs z_ a));(try revert w_);(repeat revert g_);exact k_.h):G:=s ⟨k⟩
theorem dgd799_{G H:Prop}(k:H)(s:Bx H→G:=by intro k_;(repeat(first|(refine tTake t_ hs rfl (by kernel_rfl) gw_ rfl rfl (by intro w hm;replace hm:Mm _ _ _ w:=hm;(first|exact kvR_|exact kb2_|exact r_loadO hs rfl rfl tab rfl rfl rfl hm (by repeat(first|exact mH|apply mT)) (by assumption))) (hm.sub sub_) ?_;(try clear t_ hs a);intro t_ a hs)|(refine tTakeN t_ hs rfl (by kernel_rfl) rfl rfl rfl rfl rfl rfl rfl (hm.sub sub_) ?_;(try clear t_ hs a);intro t_ a hs)|(refine tTakeU t_ hs rfl (by kernel_rfl) rfl rfl rfl rfl rfl rfl (hm.sub sub_) ?_;(try clear t_ hs a);intro t_ a hs)|(refine tE1 t_ ?_;(try clear t_);intro t_)|(refine nx_ t_ rfl ?_;have t_:=t_;first|(refine oDo hs rfl gw_ rfl rfl da_ ?_;(try clear hs hm a);rintro _ w_ ⟨g_,rfl,-,hm⟩ a hs;refine⟨(hm.sub sub_),?_⟩)|(refine oDoN hs rfl gw_ rfl ds_ ?_;(try clear hs hm a);rintro-w_ hm a hs;refine⟨(hm.sub sub_),?_⟩)|(refine oDoV hs rfl gw_ rfl rfl (by(first|exact klR_|exact r_loadO hs rfl rfl tab rfl rfl rfl hm (by repeat(first|exact mH|apply mT)) (by assumption))) ?_;(try clear hs a);intro a hs;refine⟨(hm.sub sub_),?_⟩))));have y_:=t_;clear t_;(first|(have m_:=hm;have s_:=hs;have z_:=y_;clear hs;(try clear hm);revert m_ s_ z_ a)|((first|refine rexd_ hs hm ?_|refine rexb_ hs hm ?_);intro a hm hs;have z_:=y_;revert hm hs z_ a));(try revert w_);(repeat revert g_);exact k_.h):G:=s ⟨k⟩
theorem dgdadf_{G H:Prop}(k:H)(s:Bx H→G:=by intro k_;(repeat(first|(refine tTake t_ hs rfl (by kernel_rfl) gw_ rfl rfl (by intro w hm;replace hm:Mm _ _ _ w:=hm;exact kv_) (hm.sub sub_) ?_;(try clear t_ hs a);intro t_ a hs)|(refine tTakeN t_ hs rfl (by kernel_rfl) rfl rfl rfl rfl rfl rfl rfl (hm.sub sub_) ?_;(try clear t_ hs a);intro t_ a hs)|(refine tTakeU t_ hs rfl (by kernel_rfl) rfl rfl rfl rfl rfl rfl (hm.sub sub_) ?_;(try clear t_ hs a);intro t_ a hs)|(refine tE1 t_ ?_;(try clear t_);intro t_)|(refine nx_ t_ rfl ?_;have t_:=t_;first|(refine oDo hs rfl gw_ rfl rfl da_ ?_;(try clear hs hm a);rintro _ w_ ⟨g_,rfl,-,hm⟩ a hs;refine⟨(hm.sub sub_),?_⟩)|(refine oDoN hs rfl gw_ rfl ds_ ?_;(try clear hs hm a);rintro-w_ hm a hs;refine⟨(hm.sub sub_),?_⟩)|(refine oDoV hs rfl gw_ rfl rfl (by exact kl_) ?_;(try clear hs a);intro a hs;refine⟨(hm.sub sub_),?_⟩))));have y_:=t_;clear t_;(first|(have m_:=hm;have s_:=hs;have z_:=y_;clear hs;(try clear hm);revert m_ s_ z_ a)|((first|refine rexd_ hs hm ?_|refine rexb_ hs hm ?_);intro a hm hs;have z_:=y_;revert hm hs z_ a));(try revert w_);(repeat revert g_);exact k_.h):G:=s ⟨k⟩
theorem dge39a_{G H:Prop}(k:H)(s:Bx H→G:=by intro k_;(repeat(first|(refine tTake t_ hs rfl (by kernel_rfl) gw_ rfl rfl (by intro w hm;replace hm:Mm _ _ _ w:=hm;(first|exact kv_|exact ksl_)) (hm.sub sub_) ?_;(try clear t_ hs a);intro t_ a hs)|(refine tTakeN t_ hs rfl (by kernel_rfl) rfl rfl rfl rfl rfl rfl rfl (hm.sub sub_) ?_;(try clear t_ hs a);intro t_ a hs)|(refine tTakeU t_ hs rfl (by kernel_rfl) rfl rfl rfl rfl rfl rfl (hm.sub sub_) ?_;(try clear t_ hs a);intro t_ a hs)|(refine tE1 t_ ?_;(try clear t_);intro t_)|(refine nx_ t_ rfl ?_;have t_:=t_;first|(refine oDo hs rfl gw_ rfl rfl da_ ?_;(try clear hs hm a);rintro _ w_ ⟨g_,rfl,-,hm⟩ a hs;refine⟨(hm.sub sub_),?_⟩)|(refine oDoN hs rfl gw_ rfl ds_ ?_;(try clear hs hm a);rintro-w_ hm a hs;refine⟨(hm.sub sub_),?_⟩)|(refine oDoV hs rfl gw_ rfl rfl (by exact kl_) ?_;(try clear hs a);intro a hs;refine⟨(hm.sub sub_),?_⟩))));have y_:=t_;clear t_;(first|(have m_:=hm;have s_:=hs;have z_:=y_;clear hs;(try clear hm);revert m_ s_ z_ a)|((first|refine rexd_ hs hm ?_|refine rexb_ hs hm ?_);intro a hm hs;have z_:=y_;revert hm hs z_ a));(try revert w_);(repeat revert g_);exact k_.h):G:=s ⟨k⟩
theorem gq0ba6_{G H:Prop}(k:H)(s:Bx H→G:=by intro k_;(repeat(first|(refine oq_ ?_;(try clear hs a);intro a hs)|((with_reducible apply lCons);first|(refine dv hs gw_ rfl rfl da_ ?_;(try clear hs hm a);rintro _ w_ ⟨g_,rfl,-,hm⟩ a hs)|(refine stn hs rfl rfl ds_ ?_;(try clear hs hm a);rintro-w_ hm a hs))|((with_reducible apply qNil);(try clear hm);intro w_ hm)|refine cQ_ ?_|refine sc_ ?_));(first|(have m_:=hm;have s_:=hs;clear hs;(try clear hm);revert m_ s_ a)|((first|refine rexc_ hs hm ?_|refine rexl_ hs hm ?_|refine rexg_ hs hm ?_|refine rexq_ hs hm ?_);intro a hm hs;revert hm hs a));(try revert w_);(repeat revert g_);exact k_.h):G:=s ⟨k⟩
theorem gq20dc_{G H:Prop}(k:H)(s:Bx H→G:=by intro k_;(repeat(first|(refine oq8d44_ ?_;(try clear hs a);intro a hs)|((with_reducible apply lCons);first|(refine dv hs gw_ rfl rfl da_ ?_;(try clear hs hm a);rintro _ w_ ⟨g_,rfl,-,hm⟩ a hs)|(refine stn hs rfl rfl ds_ ?_;(try clear hs hm a);rintro-w_ hm a hs))|((with_reducible apply qNil);(try clear hm);intro w_ hm)|refine cQ_ ?_|refine sc_ ?_));(first|(have m_:=hm;have s_:=hs;clear hs;(try clear hm);revert m_ s_ a)|((first|refine rexc_ hs hm ?_|refine rexl_ hs hm ?_|refine rexg_ hs hm ?_|refine rexq_ hs hm ?_);intro a hm hs;revert hm hs a));(try revert w_);(repeat revert g_);exact k_.h):G:=s ⟨k⟩
theorem gqb0e8_{G H:Prop}(k:H)(s:Bx H→G:=by intro k_;(repeat(first|(refine oqR_ ?_;(try clear hs a);intro a hs)|((with_reducible apply lCons);first|(refine dv hs gw_ rfl rfl da_ ?_;(try clear hs hm a);rintro _ w_ ⟨g_,rfl,-,hm⟩ a hs)|(refine stn hs rfl rfl ds_ ?_;(try clear hs hm a);rintro-w_ hm a hs))|((with_reducible apply qNil);(try clear hm);intro w_ hm)|refine cQ_ ?_|refine sc_ ?_));(first|(have m_:=hm;have s_:=hs;clear hs;(try clear hm);revert m_ s_ a)|((first|refine rexc_ hs hm ?_|refine rexl_ hs hm ?_|refine rexg_ hs hm ?_|refine rexq_ hs hm ?_);intro a hm hs;revert hm hs a));(try revert w_);(repeat revert g_);exact k_.h):G:=s ⟨k⟩
theorem gqb114_{G H:Prop}(k:H)(s:Bx H→G:=by intro k_;(repeat(first|(refine oqc4ee_ ?_;(try clear hs a);intro a hs)|((with_reducible apply lCons);first|(refine dv hs gw_ rfl rfl da_ ?_;(try clear hs hm a);rintro _ w_ ⟨g_,rfl,-,hm⟩ a hs)|(refine stn hs rfl rfl ds_ ?_;(try clear hs hm a);rintro-w_ hm a hs))|((with_reducible apply qNil);(try clear hm);intro w_ hm)|refine cQ_ ?_|refine sc_ ?_));(first|(have m_:=hm;have s_:=hs;clear hs;(try clear hm);revert m_ s_ a)|((first|refine rexc_ hs hm ?_|refine rexl_ hs hm ?_|refine rexg_ hs hm ?_|refine rexq_ hs hm ?_);intro a hm hs;revert hm hs a));(try revert w_);(repeat revert g_);exact k_.h):G:=s ⟨k⟩
theorem gs088d_{G H:Prop}(k:H)(s:Bx H→G:=by intro k_;(repeat(first|(refine ov701a_ ?_;(try clear hs a);intro a hs)|((with_reducible apply lCons);first|(refine dv hs gw_ rfl rfl (by first|exact da_|exact d_makeSlice hs rfl rfl rfl tab rfl rfl rfl rfl rfl (by omega) rfl hm) ?_;(try clear hs hm a);rintro _ w_ ⟨g_,rfl,-,hm⟩ a hs)|(refine stn hs rfl rfl ds_ ?_;(try clear hs hm a);rintro-w_ hm a hs))|refine sc_ ?_));(first|(have m_:=hm;have s_:=hs;clear hs;(try clear hm);revert m_ s_ a)|((first|refine rexc_ hs hm ?_|refine rexl_ hs hm ?_|refine rexg_ hs hm ?_|refine rexq_ hs hm ?_);intro a hm hs;revert hm hs a));(try revert w_);(repeat revert g_);exact k_.h):G:=s ⟨k⟩
theorem gs0d2a_{G H:Prop}(k:H)(s:Bx H→G:=by intro k_;(repeat(first|(refine ovd7a0_ ?_;(try clear hs a);intro a hs)|((with_reducible apply lCons);first|(refine dv hs gw_ rfl rfl da_ ?_;(try clear hs hm a);rintro _ w_ ⟨g_,rfl,-,hm⟩ a hs)|(refine stn hs rfl rfl ds_ ?_;(try clear hs hm a);rintro-w_ hm a hs))|refine sc_ ?_));(first|(have m_:=hm;have s_:=hs;clear hs;(try clear hm);revert m_ s_ a)|((first|refine rexc_ hs hm ?_|refine rexl_ hs hm ?_|refine rexg_ hs hm ?_|refine rexq_ hs hm ?_);intro a hm hs;revert hm hs a));(try revert w_);(repeat revert g_);exact k_.h):G:=s ⟨k⟩
theorem gs3375_{G H:Prop}(k:H)(s:Bx H→G:=by intro k_;(repeat(first|(refine ov2663_ ?_;(try clear hs a);intro a hs)|((with_reducible apply lCons);first|(refine dv hs gw_ rfl rfl da_ ?_;(try clear hs hm a);rintro _ w_ ⟨g_,rfl,-,hm⟩ a hs)|(refine stn hs rfl rfl ds_ ?_;(try clear hs hm a);rintro-w_ hm a hs))|refine sc_ ?_));(first|(have m_:=hm;have s_:=hs;clear hs;(try clear hm);revert m_ s_ a)|((first|refine rexc_ hs hm ?_|refine rexl_ hs hm ?_|refine rexg_ hs hm ?_|refine rexq_ hs hm ?_);intro a hm hs;revert hm hs a));(try revert w_);(repeat revert g_);exact k_.h):G:=s ⟨k⟩
theorem gs377c_{G H:Prop}(k:H)(s:Bx H→G:=by intro k_;(repeat(first|(refine ovaca9_ ?_;(try clear hs a);intro a hs)|((with_reducible apply lCons);first|(refine dv hs gw_ rfl rfl da_ ?_;(try clear hs hm a);rintro _ w_ ⟨g_,rfl,-,hm⟩ a hs)|(refine stn hs rfl rfl ds_ ?_;(try clear hs hm a);rintro-w_ hm a hs))|refine sc_ ?_));(first|(have m_:=hm;have s_:=hs;clear hs;(try clear hm);revert m_ s_ a)|((first|refine rexc_ hs hm ?_|refine rexl_ hs hm ?_|refine rexg_ hs hm ?_|refine rexq_ hs hm ?_);intro a hm hs;revert hm hs a));(try revert w_);(repeat revert g_);exact k_.h):G:=s ⟨k⟩
theorem gs575d_{G H:Prop}(k:H)(s:Bx H→G:=by intro k_;(repeat(first|(refine ov6211_ ?_;(try clear hs a);intro a hs)|((with_reducible apply lCons);first|(refine dv hs gw_ rfl rfl da_ ?_;(try clear hs hm a);rintro _ w_ ⟨g_,rfl,-,hm⟩ a hs)|(refine stn hs rfl rfl ds_ ?_;(try clear hs hm a);rintro-w_ hm a hs))|refine sc_ ?_));(first|(have m_:=hm;have s_:=hs;clear hs;(try clear hm);revert m_ s_ a)|((first|refine rexc_ hs hm ?_|refine rexl_ hs hm ?_|refine rexg_ hs hm ?_|refine rexq_ hs hm ?_);intro a hm hs;revert hm hs a));(try revert w_);(repeat revert g_);exact k_.h):G:=s ⟨k⟩
theorem gs5c3d_{G H:Prop}(k:H)(s:Bx H→G:=by intro k_;(repeat(first|(refine ov169a_ ?_;(try clear hs a);intro a hs)|((with_reducible apply lCons);first|(refine dv hs gw_ rfl rfl da_ ?_;(try clear hs hm a);rintro _ w_ ⟨g_,rfl,-,hm⟩ a hs)|(refine stn hs rfl rfl ds_ ?_;(try clear hs hm a);rintro-w_ hm a hs))|refine sc_ ?_));(first|(have m_:=hm;have s_:=hs;clear hs;(try clear hm);revert m_ s_ a)|((first|refine rexc_ hs hm ?_|refine rexl_ hs hm ?_|refine rexg_ hs hm ?_|refine rexq_ hs hm ?_);intro a hm hs;revert hm hs a));(try revert w_);(repeat revert g_);exact k_.h):G:=s ⟨k⟩
theorem gs5eea_{G H:Prop}(k:H)(s:Bx H→G:=by intro k_;(repeat(first|(refine oveb52_ ?_;(try clear hs a);intro a hs)|((with_reducible apply lCons);first|(refine dv hs gw_ rfl rfl da_ ?_;(try clear hs hm a);rintro _ w_ ⟨g_,rfl,-,hm⟩ a hs)|(refine stn hs rfl rfl ds_ ?_;(try clear hs hm a);rintro-w_ hm a hs))|refine sc_ ?_));(first|(have m_:=hm;have s_:=hs;clear hs;(try clear hm);revert m_ s_ a)|((first|refine rexc_ hs hm ?_|refine rexl_ hs hm ?_|refine rexg_ hs hm ?_|refine rexq_ hs hm ?_);intro a hm hs;revert hm hs a));(try revert w_);(repeat revert g_);exact k_.h):G:=s ⟨k⟩
theorem gs6b74_{G H:Prop}(k:H)(s:Bx H→G:=by intro k_;(repeat(first|(refine ov6fb2_ ?_;(try clear hs a);intro a hs)|((with_reducible apply lCons);first|(refine dv hs gw_ rfl rfl da_ ?_;(try clear hs hm a);rintro _ w_ ⟨g_,rfl,-,hm⟩ a hs)|(refine stn hs rfl rfl ds_ ?_;(try clear hs hm a);rintro-w_ hm a hs))|refine sc_ ?_));(first|(have m_:=hm;have s_:=hs;clear hs;(try clear hm);revert m_ s_ a)|((first|refine rexc_ hs hm ?_|refine rexl_ hs hm ?_|refine rexg_ hs hm ?_|refine rexq_ hs hm ?_);intro a hm hs;revert hm hs a));(try revert w_);(repeat revert g_);exact k_.h):G:=s ⟨k⟩
theorem gs730d_{G H:Prop}(k:H)(s:Bx H→G:=by intro k_;(repeat(first|(refine ovR_ ?_;(try clear hs a);intro a hs)|((with_reducible apply lCons);first|(refine dv hs gw_ rfl rfl da_ ?_;(try clear hs hm a);rintro _ w_ ⟨g_,rfl,-,hm⟩ a hs)|(refine stn hs rfl rfl ds_ ?_;(try clear hs hm a);rintro-w_ hm a hs))));(first|(have m_:=hm;have s_:=hs;clear hs;(try clear hm);revert m_ s_ a)|((first|refine rexc_ hs hm ?_|refine rexl_ hs hm ?_|refine rexg_ hs hm ?_|refine rexq_ hs hm ?_);intro a hm hs;revert hm hs a));(try revert w_);(repeat revert g_);exact k_.h):G:=s ⟨k⟩
theorem gs76db_{G H:Prop}(k:H)(s:Bx H→G:=by intro k_;(repeat(first|(refine ov9ea5_ ?_;(try clear hs a);intro a hs)|((with_reducible apply lCons);first|(refine dv hs gw_ rfl rfl da_ ?_;(try clear hs hm a);rintro _ w_ ⟨g_,rfl,-,hm⟩ a hs)|(refine stn hs rfl rfl ds_ ?_;(try clear hs hm a);rintro-w_ hm a hs))|refine sc_ ?_));(first|(have m_:=hm;have s_:=hs;clear hs;(try clear hm);revert m_ s_ a)|((first|refine rexc_ hs hm ?_|refine rexl_ hs hm ?_|refine rexg_ hs hm ?_|refine rexq_ hs hm ?_);intro a hm hs;revert hm hs a));(try revert w_);(repeat revert g_);exact k_.h):G:=s ⟨k⟩
theorem gs87a7_{G H:Prop}(k:H)(s:Bx H→G:=by intro k_;(repeat(first|(refine ov_ ?_;(try clear hs a);intro a hs)|((with_reducible apply lCons);first|(refine dv hs gw_ rfl rfl da_ ?_;(try clear hs hm a);rintro _ w_ ⟨g_,rfl,-,hm⟩ a hs)|(refine stn hs rfl rfl ds_ ?_;(try clear hs hm a);rintro-w_ hm a hs))|refine sc_ ?_));(first|(have m_:=hm;have s_:=hs;clear hs;(try clear hm);revert m_ s_ a)|((first|refine rexc_ hs hm ?_|refine rexl_ hs hm ?_|refine rexg_ hs hm ?_|refine rexq_ hs hm ?_);intro a hm hs;revert hm hs a));(try revert w_);(repeat revert g_);exact k_.h):G:=s ⟨k⟩
theorem gs9a29_{G H:Prop}(k:H)(s:Bx H→G:=by intro k_;(repeat(first|(refine ov79a8_ ?_;(try clear hs a);intro a hs)|((with_reducible apply lCons);first|(refine dv hs gw_ rfl rfl da_ ?_;(try clear hs hm a);rintro _ w_ ⟨g_,rfl,-,hm⟩ a hs)|(refine stn hs rfl rfl ds_ ?_;(try clear hs hm a);rintro-w_ hm a hs))|refine sc_ ?_));(first|(have m_:=hm;have s_:=hs;clear hs;(try clear hm);revert m_ s_ a)|((first|refine rexc_ hs hm ?_|refine rexl_ hs hm ?_|refine rexg_ hs hm ?_|refine rexq_ hs hm ?_);intro a hm hs;revert hm hs a));(try revert w_);(repeat revert g_);exact k_.h):G:=s ⟨k⟩
theorem gs9cbd_{G H:Prop}(k:H)(s:Bx H→G:=by intro k_;(repeat(first|(refine ovb8aa_ ?_;(try clear hs a);intro a hs)|((with_reducible apply lCons);first|(refine dv hs gw_ rfl rfl da_ ?_;(try clear hs hm a);rintro _ w_ ⟨g_,rfl,-,hm⟩ a hs)|(refine stn hs rfl rfl ds_ ?_;(try clear hs hm a);rintro-w_ hm a hs))|refine sc_ ?_));(first|(have m_:=hm;have s_:=hs;clear hs;(try clear hm);revert m_ s_ a)|((first|refine rexc_ hs hm ?_|refine rexl_ hs hm ?_|refine rexg_ hs hm ?_|refine rexq_ hs hm ?_);intro a hm hs;revert hm hs a));(try revert w_);(repeat revert g_);exact k_.h):G:=s ⟨k⟩
theorem gsab4d_{G H:Prop}(k:H)(s:Bx H→G:=by intro k_;(repeat(first|(refine ove28a_ ?_;(try clear hs a);intro a hs)|((with_reducible apply lCons);first|(refine dv hs gw_ rfl rfl da_ ?_;(try clear hs hm a);rintro _ w_ ⟨g_,rfl,-,hm⟩ a hs)|(refine stn hs rfl rfl ds_ ?_;(try clear hs hm a);rintro-w_ hm a hs))|refine sc_ ?_));(first|(have m_:=hm;have s_:=hs;clear hs;(try clear hm);revert m_ s_ a)|((first|refine rexc_ hs hm ?_|refine rexl_ hs hm ?_|refine rexg_ hs hm ?_|refine rexq_ hs hm ?_);intro a hm hs;revert hm hs a));(try revert w_);(repeat revert g_);exact k_.h):G:=s ⟨k⟩
theorem gsac6a_{G H:Prop}(k:H)(s:Bx H→G:=by intro k_;(repeat(first|(refine ovadf2_ ?_;(try clear hs a);intro a hs)|((with_reducible apply lCons);first|(refine dv hs gw_ rfl rfl da_ ?_;(try clear hs hm a);rintro _ w_ ⟨g_,rfl,-,hm⟩ a hs)|(refine stn hs rfl rfl ds_ ?_;(try clear hs hm a);rintro-w_ hm a hs))|refine sc_ ?_));(first|(have m_:=hm;have s_:=hs;clear hs;(try clear hm);revert m_ s_ a)|((first|refine rexc_ hs hm ?_|refine rexl_ hs hm ?_|refine rexg_ hs hm ?_|refine rexq_ hs hm ?_);intro a hm hs;revert hm hs a));(try revert w_);(repeat revert g_);exact k_.h):G:=s ⟨k⟩
theorem gsb147_{G H:Prop}(k:H)(s:Bx H→G:=by intro k_;(repeat(first|(refine ovf6da_ ?_;(try clear hs a);intro a hs)|((with_reducible apply lCons);first|(refine dv hs gw_ rfl rfl da_ ?_;(try clear hs hm a);rintro _ w_ ⟨g_,rfl,-,hm⟩ a hs)|(refine stn hs rfl rfl ds_ ?_;(try clear hs hm a);rintro-w_ hm a hs))|refine sc_ ?_));(first|(have m_:=hm;have s_:=hs;clear hs;(try clear hm);revert m_ s_ a)|((first|refine rexc_ hs hm ?_|refine rexl_ hs hm ?_|refine rexg_ hs hm ?_|refine rexq_ hs hm ?_);intro a hm hs;revert hm hs a));(try revert w_);(repeat revert g_);exact k_.h):G:=s ⟨k⟩
theorem gsb5fb_{G H:Prop}(k:H)(s:Bx H→G:=by intro k_;(repeat(first|(refine ov2c7d_ ?_;(try clear hs a);intro a hs)|((with_reducible apply lCons);first|(refine dv hs gw_ rfl rfl da_ ?_;(try clear hs hm a);rintro _ w_ ⟨g_,rfl,-,hm⟩ a hs)|(refine stn hs rfl rfl ds_ ?_;(try clear hs hm a);rintro-w_ hm a hs))|refine sc_ ?_));(first|(have m_:=hm;have s_:=hs;clear hs;(try clear hm);revert m_ s_ a)|((first|refine rexc_ hs hm ?_|refine rexl_ hs hm ?_|refine rexg_ hs hm ?_|refine rexq_ hs hm ?_);intro a hm hs;revert hm hs a));(try revert w_);(repeat revert g_);exact k_.h):G:=s ⟨k⟩
theorem gsb785_{G H:Prop}(k:H)(s:Bx H→G:=by intro k_;(repeat(first|(refine ov47e8_ ?_;(try clear hs a);intro a hs)|((with_reducible apply lCons);first|(refine dv hs gw_ rfl rfl da_ ?_;(try clear hs hm a);rintro _ w_ ⟨g_,rfl,-,hm⟩ a hs)|(refine stn hs rfl rfl ds_ ?_;(try clear hs hm a);rintro-w_ hm a hs))|refine sc_ ?_));(first|(have m_:=hm;have s_:=hs;clear hs;(try clear hm);revert m_ s_ a)|((first|refine rexc_ hs hm ?_|refine rexl_ hs hm ?_|refine rexg_ hs hm ?_|refine rexq_ hs hm ?_);intro a hm hs;revert hm hs a));(try revert w_);(repeat revert g_);exact k_.h):G:=s ⟨k⟩
theorem gsc373_{G H:Prop}(k:H)(s:Bx H→G:=by intro k_;(repeat(first|(refine ov_ ?_;(try clear hs a);intro a hs)|((with_reducible apply lCons);first|(refine dv hs gw_ rfl rfl (by first|exact da_|exact d_makeSlice hs rfl rfl rfl tab rfl rfl rfl rfl rfl (by omega) rfl hm) ?_;(try clear hs hm a);rintro _ w_ ⟨g_,rfl,-,hm⟩ a hs)|(refine stn hs rfl rfl ds_ ?_;(try clear hs hm a);rintro-w_ hm a hs))|refine sc_ ?_));(first|(have m_:=hm;have s_:=hs;clear hs;(try clear hm);revert m_ s_ a)|((first|refine rexc_ hs hm ?_|refine rexl_ hs hm ?_|refine rexg_ hs hm ?_|refine rexq_ hs hm ?_);intro a hm hs;revert hm hs a));(try revert w_);(repeat revert g_);exact k_.h):G:=s ⟨k⟩
theorem gsc5af_{G H:Prop}(k:H)(s:Bx H→G:=by intro k_;(repeat(first|(refine ov701a_ ?_;(try clear hs a);intro a hs)|((with_reducible apply lCons);first|(refine dv hs gw_ rfl rfl da_ ?_;(try clear hs hm a);rintro _ w_ ⟨g_,rfl,-,hm⟩ a hs)|(refine stn hs rfl rfl ds_ ?_;(try clear hs hm a);rintro-w_ hm a hs))|refine sc_ ?_));(first|(have m_:=hm;have s_:=hs;clear hs;(try clear hm);revert m_ s_ a)|((first|refine rexc_ hs hm ?_|refine rexl_ hs hm ?_|refine rexg_ hs hm ?_|refine rexq_ hs hm ?_);intro a hm hs;revert hm hs a));(try revert w_);(repeat revert g_);exact k_.h):G:=s ⟨k⟩
theorem gsce98_{G H:Prop}(k:H)(s:Bx H→G:=by intro k_;(repeat(first|(refine ovR_ ?_;(try clear hs a);intro a hs)|((with_reducible apply lCons);first|(refine dv hs gw_ rfl rfl da_ ?_;(try clear hs hm a);rintro _ w_ ⟨g_,rfl,-,hm⟩ a hs)|(refine stn hs rfl rfl ds_ ?_;(try clear hs hm a);rintro-w_ hm a hs))|refine sc_ ?_));(first|(have m_:=hm;have s_:=hs;clear hs;(try clear hm);revert m_ s_ a)|((first|refine rexc_ hs hm ?_|refine rexl_ hs hm ?_|refine rexg_ hs hm ?_|refine rexq_ hs hm ?_);intro a hm hs;revert hm hs a));(try revert w_);(repeat revert g_);exact k_.h):G:=s ⟨k⟩
theorem gsd389_{G H:Prop}(k:H)(s:Bx H→G:=by intro k_;(repeat(first|(refine ovdc5f_ ?_;(try clear hs a);intro a hs)|((with_reducible apply lCons);first|(refine dv hs gw_ rfl rfl da_ ?_;(try clear hs hm a);rintro _ w_ ⟨g_,rfl,-,hm⟩ a hs)|(refine stn hs rfl rfl ds_ ?_;(try clear hs hm a);rintro-w_ hm a hs))|refine sc_ ?_));(first|(have m_:=hm;have s_:=hs;clear hs;(try clear hm);revert m_ s_ a)|((first|refine rexc_ hs hm ?_|refine rexl_ hs hm ?_|refine rexg_ hs hm ?_|refine rexq_ hs hm ?_);intro a hm hs;revert hm hs a));(try revert w_);(repeat revert g_);exact k_.h):G:=s ⟨k⟩
theorem gsdfd4_{G H:Prop}(k:H)(s:Bx H→G:=by intro k_;(repeat(first|(refine ovR_ ?_;(try clear hs a);intro a hs)|((with_reducible apply lCons);first|(refine dv hs gw_ rfl rfl (by first|exact da_|exact d_makeSlice hs rfl rfl rfl tab rfl rfl rfl rfl rfl (by omega) rfl hm) ?_;(try clear hs hm a);rintro _ w_ ⟨g_,rfl,-,hm⟩ a hs)|(refine stn hs rfl rfl ds_ ?_;(try clear hs hm a);rintro-w_ hm a hs))|refine sc_ ?_));(first|(have m_:=hm;have s_:=hs;clear hs;(try clear hm);revert m_ s_ a)|((first|refine rexc_ hs hm ?_|refine rexl_ hs hm ?_|refine rexg_ hs hm ?_|refine rexq_ hs hm ?_);intro a hm hs;revert hm hs a));(try revert w_);(repeat revert g_);exact k_.h):G:=s ⟨k⟩
theorem gsf098_{G H:Prop}(k:H)(s:Bx H→G:=by intro k_;(repeat(first|(refine ov1015_ ?_;(try clear hs a);intro a hs)|((with_reducible apply lCons);first|(refine dv hs gw_ rfl rfl da_ ?_;(try clear hs hm a);rintro _ w_ ⟨g_,rfl,-,hm⟩ a hs)|(refine stn hs rfl rfl ds_ ?_;(try clear hs hm a);rintro-w_ hm a hs))|refine sc_ ?_));(first|(have m_:=hm;have s_:=hs;clear hs;(try clear hm);revert m_ s_ a)|((first|refine rexc_ hs hm ?_|refine rexl_ hs hm ?_|refine rexg_ hs hm ?_|refine rexq_ hs hm ?_);intro a hm hs;revert hm hs a));(try revert w_);(repeat revert g_);exact k_.h):G:=s ⟨k⟩
theorem oq227d_{G H:Prop}(k:H)(s:H→G:=by intro k;(with_reducible first|refine toL hm ?_|refine toQ ?_);first|exact oneV hs gw_ rfl rfl (by intro w hm;(first|exact kvR_|exact r_min hs rfl rfl rfl)) k|exact oneN hs rfl rfl rfl rfl rfl rfl rfl k|exact oneU hs rfl rfl rfl rfl rfl rfl k):G:=s k
theorem oq2d6d_{G H:Prop}(k:H)(s:H→G:=by intro k;(with_reducible first|refine toL hm ?_|refine toQ ?_);first|exact oneV hs gw_ rfl rfl (by intro w hm;(first|exact kvR_|exact kb2_|exact r_sidx hs rfl rfl rfl tab rfl rfl (by assumption))) k|exact oneN hs rfl rfl rfl rfl rfl rfl rfl k|exact oneU hs rfl rfl rfl rfl rfl rfl k):G:=s k
theorem oq8d44_{G H:Prop}(k:H)(s:H→G:=by intro k;(with_reducible first|refine toL hm ?_|refine toQ ?_);first|exact oneV hs gw_ rfl rfl (by intro w hm;(first|exact kvR_|exact kb2_)) k|exact oneN hs rfl rfl rfl rfl rfl rfl rfl k|exact oneU hs rfl rfl rfl rfl rfl rfl k):G:=s k
theorem oqa646_{G H:Prop}(k:H)(s:H→G:=by intro k;(with_reducible first|refine toL hm ?_|refine toQ ?_);first|exact oneV hs gw_ rfl rfl (by intro w hm;(first|exact kvR_|exact r_min hs rfl rfl rfl|exact kb2_|exact ksl_|exact r_sliceGN hs rfl rfl rfl rfl tab rfl rfl rfl (by omega) (by omega))) k|exact oneN hs rfl rfl rfl rfl rfl rfl rfl k|exact oneU hs rfl rfl rfl rfl rfl rfl k):G:=s k
theorem oqa85c_{G H:Prop}(k:H)(s:H→G:=by intro k;(with_reducible first|refine toL hm ?_|refine toQ ?_);first|exact oneV hs gw_ rfl rfl (by intro w hm;(first|exact kvR_|exact r_sidx hs rfl rfl rfl tab rfl rfl (by assumption))) k|exact oneN hs rfl rfl rfl rfl rfl rfl rfl k|exact oneU hs rfl rfl rfl rfl rfl rfl k):G:=s k
theorem oqc4ee_{G H:Prop}(k:H)(s:H→G:=by intro k;(with_reducible first|refine toL hm ?_|refine toQ ?_);first|exact oneV hs gw_ rfl rfl (by intro w hm;(first|exact kvR_|exact r_neqSt (fl:=[(true,0,5),(true,1,23)]) hs rfl rfl rfl tab (by kernel_rfl) (by kernel_rfl) (by kernel_rfl) (by kernel_rfl) rfl)) k|exact oneN hs rfl rfl rfl rfl rfl rfl rfl k|exact oneU hs rfl rfl rfl rfl rfl rfl k):G:=s k
theorem oqde87_{G H:Prop}(k:H)(s:H→G:=by intro k;(with_reducible first|refine toL hm ?_|refine toQ ?_);first|exact oneV hs gw_ rfl rfl (by intro w hm;(first|exact kvR_|exact r_remH hs rfl rfl rfl (by assumption) (by omega) (by omega)|exact r_rem64 hs rfl rfl rfl (by omega) (by omega)|exact r_rem hs rfl rfl rfl (by omega))) k|exact oneN hs rfl rfl rfl rfl rfl rfl rfl k|exact oneU hs rfl rfl rfl rfl rfl rfl k):G:=s k
theorem ov1015_{G H:Prop}(k:H)(s:H→G:=by intro k;(with_reducible refine toL hm ?_);first|exact oneV hs gw_ rfl rfl (by intro w hm;(first|exact kvR_|exact r_quo64 hs rfl rfl rfl (by omega) (by omega)|exact r_quo hs rfl rfl rfl (by omega)|exact r_remH hs rfl rfl rfl (by assumption) (by omega) (by omega)|exact r_rem64 hs rfl rfl rfl (by omega) (by omega)|exact r_rem hs rfl rfl rfl (by omega)|exact kb2_|exact r_sliceArr hs rfl rfl tab rfl rfl rfl|exact r_sliceArrTo hs rfl rfl rfl tab rfl rfl rfl (by omega) (by omega)|exact r_sliceTo hs rfl rfl rfl tab rfl rfl rfl (by omega) (by omega)|exact r_sliceN2 hs rfl rfl rfl rfl tab rfl rfl rfl (by omega) (by omega) (by omega)|exact r_sliceF2 hs rfl rfl rfl tab rfl rfl rfl (by omega) (by omega))) k|exact oneN hs rfl rfl rfl rfl rfl rfl rfl k|exact oneU hs rfl rfl rfl rfl rfl rfl k):G:=s k
theorem ov169a_{G H:Prop}(k:H)(s:H→G:=by intro k;(with_reducible refine toL hm ?_);first|exact oneV hs gw_ rfl rfl (by intro w hm;(first|exact kvR_|exact r_min hs rfl rfl rfl|exact r_cutFG hs rfl rfl rfl tab rfl rfl rfl (by omega)|exact r_cutTG hs rfl rfl rfl tab rfl rfl rfl (by omega))) k|exact oneN hs rfl rfl rfl rfl rfl rfl rfl k|exact oneU hs rfl rfl rfl rfl rfl rfl k):G:=s k
theorem ov1817_{G H:Prop}(k:H)(s:H→G:=by intro k;(with_reducible refine toL hm ?_);first|exact oneV hs gw_ rfl rfl (by intro w hm;(first|exact kvR_|exact kb2_|exact r_sidx hs rfl rfl rfl tab rfl rfl (by assumption))) k|exact oneN hs rfl rfl rfl rfl rfl rfl rfl k|exact oneU hs rfl rfl rfl rfl rfl rfl k):G:=s k
theorem ov2663_{G H:Prop}(k:H)(s:H→G:=by intro k;(with_reducible refine toL hm ?_);first|exact oneV hs gw_ rfl rfl (by intro w hm;(first|exact kvR_|exact kb2_|exact r_loadO hs rfl rfl tab rfl rfl rfl hm (by repeat(first|exact mH|apply mT)) (by assumption))) k|exact oneN hs rfl rfl rfl rfl rfl rfl rfl k|exact oneU hs rfl rfl rfl rfl rfl rfl k):G:=s k
theorem ov2c7d_{G H:Prop}(k:H)(s:H→G:=by intro k;(with_reducible refine toL hm ?_);first|exact oneV hs gw_ rfl rfl (by intro w hm;(first|exact kvR_|exact r_loadO hs rfl rfl tab rfl rfl rfl hm (by repeat(first|exact mH|apply mT)) (by assumption))) k|exact oneN hs rfl rfl rfl rfl rfl rfl rfl k|exact oneU hs rfl rfl rfl rfl rfl rfl k):G:=s k
theorem ov47e8_{G H:Prop}(k:H)(s:H→G:=by intro k;(with_reducible refine toL hm ?_);first|exact oneV hs gw_ rfl rfl (by intro w hm;(first|exact kvR_|exact r_min hs rfl rfl rfl|exact kb2_)) k|exact oneN hs rfl rfl rfl rfl rfl rfl rfl k|exact oneU hs rfl rfl rfl rfl rfl rfl k):G:=s k
theorem ov5a1a_{G H:Prop}(k:H)(s:H→G:=by intro k;(with_reducible refine toL hm ?_);first|exact oneV hs gw_ rfl rfl (by intro w hm;(first|exact kvR_|exact r_quo64 hs rfl rfl rfl (by omega) (by omega)|exact r_quo hs rfl rfl rfl (by omega)|exact r_shl hs rfl rfl rfl (by omega)|exact r_shr hs rfl rfl rfl (by omega)|exact r_remH hs rfl rfl rfl (by assumption) (by omega) (by omega)|exact r_rem64 hs rfl rfl rfl (by omega) (by omega)|exact r_rem hs rfl rfl rfl (by omega))) k|exact oneN hs rfl rfl rfl rfl rfl rfl rfl k|exact oneU hs rfl rfl rfl rfl rfl rfl k):G:=s k
theorem ov6211_{G H:Prop}(k:H)(s:H→G:=by intro k;(with_reducible refine toL hm ?_);first|exact oneV hs gw_ rfl rfl (by intro w hm;(first|exact kvR_|exact r_min hs rfl rfl rfl)) k|exact oneN hs rfl rfl rfl rfl rfl rfl rfl k|exact oneU hs rfl rfl rfl rfl rfl rfl k):G:=s k
theorem ov6fb2_{G H:Prop}(k:H)(s:H→G:=by intro k;(with_reducible refine toL hm ?_);first|exact oneV hs gw_ rfl rfl (by intro w hm;(first|exact kvR_|exact ksl_)) k|exact oneN hs rfl rfl rfl rfl rfl rfl rfl k|exact oneU hs rfl rfl rfl rfl rfl rfl k):G:=s k
theorem ov701a_{G H:Prop}(k:H)(s:H→G:=by intro k;(with_reducible refine toL hm ?_);first|exact oneV hs gw_ rfl rfl (by intro w hm;(first|exact kvR_|exact kb2_)) k|exact oneN hs rfl rfl rfl rfl rfl rfl rfl k|exact oneU hs rfl rfl rfl rfl rfl rfl k):G:=s k
theorem ov79a8_{G H:Prop}(k:H)(s:H→G:=by intro k;(with_reducible refine toL hm ?_);first|exact oneV hs gw_ rfl rfl (by intro w hm;(first|exact kvR_|exact r_sidx hs rfl rfl rfl tab rfl rfl (by assumption))) k|exact oneN hs rfl rfl rfl rfl rfl rfl rfl k|exact oneU hs rfl rfl rfl rfl rfl rfl k):G:=s k
theorem ov9ea5_{G H:Prop}(k:H)(s:H→G:=by intro k;(with_reducible refine toL hm ?_);first|exact oneV hs gw_ rfl rfl (by intro w hm;(first|exact kvR_|exact r_min hs rfl rfl rfl|exact kb2_|exact ksl_|exact r_sliceGN hs rfl rfl rfl rfl tab rfl rfl rfl (by omega) (by omega))) k|exact oneN hs rfl rfl rfl rfl rfl rfl rfl k|exact oneU hs rfl rfl rfl rfl rfl rfl k):G:=s k
theorem ovaca9_{G H:Prop}(k:H)(s:H→G:=by intro k;(with_reducible refine toL hm ?_);first|exact oneV hs gw_ rfl rfl (by intro w hm;(first|exact kvR_|exact r_quo64 hs rfl rfl rfl (by omega) (by omega)|exact r_quo hs rfl rfl rfl (by omega)|exact r_remH hs rfl rfl rfl (by assumption) (by omega) (by omega)|exact r_rem64 hs rfl rfl rfl (by omega) (by omega)|exact r_rem hs rfl rfl rfl (by omega)|exact r_loadO hs rfl rfl tab rfl rfl rfl hm (by repeat(first|exact mH|apply mT)) (by assumption))) k|exact oneN hs rfl rfl rfl rfl rfl rfl rfl k|exact oneU hs rfl rfl rfl rfl rfl rfl k):G:=s k
theorem ovadf2_{G H:Prop}(k:H)(s:H→G:=by intro k;(with_reducible refine toL hm ?_);first|exact oneV hs gw_ rfl rfl (by intro w hm;(first|exact kvR_|exact r_remH hs rfl rfl rfl (by assumption) (by omega) (by omega)|exact r_rem64 hs rfl rfl rfl (by omega) (by omega)|exact r_rem hs rfl rfl rfl (by omega))) k|exact oneN hs rfl rfl rfl rfl rfl rfl rfl k|exact oneU hs rfl rfl rfl rfl rfl rfl k):G:=s k
theorem ovb8aa_{G H:Prop}(k:H)(s:H→G:=by intro k;(with_reducible refine toL hm ?_);first|exact oneV hs gw_ rfl rfl (by intro w hm;(first|exact kv_|exact r_remH hs rfl rfl rfl (by assumption) (by omega) (by omega)|exact r_rem64 hs rfl rfl rfl (by omega) (by omega)|exact r_rem hs rfl rfl rfl (by omega))) k|exact oneN hs rfl rfl rfl rfl rfl rfl rfl k|exact oneU hs rfl rfl rfl rfl rfl rfl k):G:=s k
theorem ovd7a0_{G H:Prop}(k:H)(s:H→G:=by intro k;(with_reducible refine toL hm ?_);first|exact oneV hs gw_ rfl rfl (by intro w hm;(first|exact kv_|exact ksl_)) k|exact oneN hs rfl rfl rfl rfl rfl rfl rfl k|exact oneU hs rfl rfl rfl rfl rfl rfl k):G:=s k
theorem ovdc5f_{G H:Prop}(k:H)(s:H→G:=by intro k;(with_reducible refine toL hm ?_);first|exact oneV hs gw_ rfl rfl (by intro w hm;(first|exact kvR_|exact r_neqSt (fl:=[(true,0,5),(true,1,23)]) hs rfl rfl rfl tab (by kernel_rfl) (by kernel_rfl) (by kernel_rfl) (by kernel_rfl) rfl)) k|exact oneN hs rfl rfl rfl rfl rfl rfl rfl k|exact oneU hs rfl rfl rfl rfl rfl rfl k):G:=s k
theorem ove28a_{G H:Prop}(k:H)(s:H→G:=by intro k;(with_reducible refine toL hm ?_);first|exact oneV hs gw_ rfl rfl (by intro w hm;(first|exact kvR_|exact kb2_|exact ksl_)) k|exact oneN hs rfl rfl rfl rfl rfl rfl rfl k|exact oneU hs rfl rfl rfl rfl rfl rfl k):G:=s k
theorem oveb52_{G H:Prop}(k:H)(s:H→G:=by intro k;(with_reducible refine toL hm ?_);first|exact oneV hs gw_ rfl rfl (by intro w hm;(first|exact kv_|exact kb2_)) k|exact oneN hs rfl rfl rfl rfl rfl rfl rfl k|exact oneU hs rfl rfl rfl rfl rfl rfl k):G:=s k
theorem ovf6da_{G H:Prop}(k:H)(s:H→G:=by intro k;(with_reducible refine toL hm ?_);first|exact oneV hs gw_ rfl rfl (by intro w hm;(first|exact kvR_|exact r_remH hs rfl rfl rfl (by assumption) (by omega) (by omega)|exact r_rem64 hs rfl rfl rfl (by omega) (by omega)|exact r_rem hs rfl rfl rfl (by omega)|exact r_loadO hs rfl rfl tab rfl rfl rfl hm (by repeat(first|exact mH|apply mT)) (by assumption))) k|exact oneN hs rfl rfl rfl rfl rfl rfl rfl k|exact oneU hs rfl rfl rfl rfl rfl rfl k):G:=s k
theorem z0359_{G:Prop}(h:G:=by exact⟨k+1,by omega,(sb_ hs),hm,by omega⟩):G:=h
theorem z12c7_{G:Prop}(h:G:=by exact gRetN tab hs rfl (.cons (.cells rfl rfl rfl rfl (hm.ro (k:=0) (n:=2) mem_ (cutF_ok rfl))) (.cons (.tmp rfl) .nil)) ⟨rfl,hm.fr⟩):G:=h
theorem z12cd_{G:Prop}(h:G:=by exact List.Sublist.cons _ (List.Sublist.cons _ (List.Sublist.cons _ (List.Sublist.refl _)))):G:=h
theorem z27a2_{G:Prop}(h:G:=by exact gRetN tab hs rfl (.cons (.tmp rfl) (.cons (.tmp rfl) (.cons (.tmp rfl) .nil))) (hno _ hm)):G:=h
theorem z3a12_{G:Prop}(h:G:=by exact gRetN tab hs rfl (.cons (.cells rfl rfl rfl rfl (hm.ro (k:=0) (n:=5) (g:=g8) mem_ (cutF_ok rfl))) (.cons (.tmp rfl) .nil)) (hno _ hm.fr)):G:=h
theorem z4ca6_{G:Prop}(h:G:=by exact gRetN tab hs rfl (.cons (.tmp rfl) (.cons (.tmp rfl) .nil)) ⟨rfl,hm.fr⟩):G:=h
theorem z5095_{G:Prop}(h:G:=by exact gRetN tab hs rfl (.cons (.cells rfl rfl rfl rfl (hm.ro (k:=0) (n:=2) (g:=g6) mem_ (cutF_ok rfl))) (.cons (.tmp rfl) .nil)) (hfin dcs ds ocs os (-1) _ (by omega) rfl hdr hyo.dd hor hyv (hm.sub sub_))):G:=h
theorem z78f3_{G:Prop}(h:G:=by exact gRetN tab hs rfl (.cons (.cells rfl rfl rfl rfl (hm.ro (k:=0) (n:=7) (g:=g4) mem_ (cutF_ok rfl))) .nil) ⟨r.o,r.k,js,jv,valR 0 false,rfl,hjs,hI.step hm',valR_st _ _ _ _,valR_fit _ _,hm'⟩):G:=h
theorem zb443_{G:Prop}(h:G:=by exact gRetN tab hs rfl (.cons (.cells rfl rfl rfl rfl (hm.ro (k:=0) (n:=4) mem_ (cutF_ok rfl))) .nil) ⟨rfl,hm.fr⟩):G:=h
theorem zb7e7_{G:Prop}(h:G:=by exact⟨k+1,by omega,by omega,(sb_ hs),hm⟩):G:=h
theorem zbd11_{G:Prop}(h:G:=by exact List.Sublist.cons _ (List.Sublist.cons_cons _ (List.Sublist.cons_cons _ (List.Sublist.cons _ (List.Sublist.refl _))))):G:=h
theorem zc137_{G:Prop}(h:G:=by exact do_g0 x r wB hx h hr hrv hrk hst (by omega)):G:=h
theorem zd36a_{G:Prop}(h:G:=by exact⟨k+1,by omega,(sb_ hs),hm.sub sub_,by omega⟩):G:=h
theorem zdde0_{G:Prop}(h:G:=by exact gRet1 hs rfl rfl ⟨a9,some g8,2,cs,l,by rw[hln];rfl,by rw[hln,←hcs];exact row_lit (by rw[hcs,flat_len inV 5 inV_len,hln]) (by omega),by omega,by omega,hiv,hm⟩):G:=h
theorem ze382_{G:Prop}(h:G:=by exact⟨k+1,by omega,(sb_ hs),hm.sub (List.nil_sublist _),by omega⟩):G:=h
theorem zfe81_{G:Prop}(h:G:=by exact⟨k+1,by omega,by omega,(sb_ hs),hm.sub sub_⟩):G:=h
end Go.Proofs.YtbjffoojenpmfaaGreat
namespace Go.Proofs.YtbjffoojenpmfaaGreat
def TAB:List (Nat × TI):=[(3,⟨1,8,.int .i64 0,.int .i64⟩),
 (4,⟨1,1,.bool false,.bool⟩),
 (5,⟨1,1,.int .u8 0,.int .u8⟩),
 (9,⟨1,16,.string .empty,.str⟩),
 (22,⟨1,24,.slice none 0 0,.sl 3⟩),
 (23,⟨1,2,.int .u16 0,.int .u16⟩),
 (74,⟨1,24,.slice none 0 0,.sl 23⟩),
 (25,⟨2,32,.agg #[.slice none 0 0,.int .u16 0],.st [(0,22),(1,23)]⟩),
 (26,⟨1,24,.slice none 0 0,.sl 103⟩),
 (27,⟨1,24,.slice none 0 0,.sl 61⟩),
 (29,⟨2,48,.agg #[.slice none 0 0,.slice none 0 0],.st [(0,26),(1,27)]⟩),
 (30,⟨1,24,.slice none 0 0,.sl 52⟩),
 (32,⟨5,104,.agg #[.slice none 0 0,.int .u16 0,.slice none 0 0,.slice none 0 0,.slice none 0 0],.st [(0,25),(2,29),(4,30)]⟩),
 (35,⟨1,24,.slice none 0 0,.sl 54⟩),
 (36,⟨1,24,.slice none 0 0,.sl 74⟩),
 (38,⟨3,72,.agg #[.slice none 0 0,.slice none 0 0,.slice none 0 0],.st [(0,35),(1,22),(2,36)]⟩),
 (41,⟨1,8,.pointer none,.ptr 65⟩),
 (43,⟨1,24,.slice none 0 0,.sl 32⟩),
 (52,⟨8,80,.agg #[.int .i64 0,.slice none 0 0,.int .i64 0,.int .i64 0,.int .i64 0,.int .i64 0,.int .i64 0,.int .u16 0],.st [(0,3),(1,26),(2,3),(3,3),(4,3),(5,3),(6,3),(7,23)]⟩),
 (54,⟨5,40,.agg #[.int .i64 0,.int .i64 0,.int .i64 0,.int .i64 0,.int .i64 0],.st [(0,3),(1,3),(2,3),(3,3),(4,3)]⟩),
 (55,⟨1,8,.int .i64 0,.int .i64⟩),
 (61,⟨3,40,.agg #[.int .i64 0,.bool false,.slice none 0 0],.st [(0,3),(1,4),(2,26)]⟩),
 (65,⟨2,32,.agg #[.slice none 0 0,.int .i64 0],.st [(0,22),(1,3)]⟩),
 (66,⟨1,8,.pointer none,.ptr 52⟩),
 (72,⟨1,8,.pointer none,.ptr 32⟩),
 (75,⟨1,24,.slice none 0 0,.sl 93⟩),
 (76,⟨1,24,.slice none 0 0,.sl 212⟩),
 (78,⟨2,48,.agg #[.slice none 0 0,.slice none 0 0],.st [(0,75),(1,76)]⟩),
 (79,⟨1,24,.slice none 0 0,.sl 192⟩),
 (81,⟨6,144,.agg #[.slice none 0 0,.slice none 0 0,.slice none 0 0,.slice none 0 0,.slice none 0 0,.slice none 0 0],.st [(0,74),(1,74),(2,36),(3,78),(5,79)]⟩),
 (84,⟨2,48,.agg #[.slice none 0 0,.slice none 0 0],.st [(0,22),(1,82)]⟩),
 (85,⟨1,24,.slice none 0 0,.sl 177⟩),
 (87,⟨18,416,.agg #[.slice none 0 0,.slice none 0 0,.slice none 0 0,.slice none 0 0,.int .u16 0,.slice none 0 0,.slice none 0 0,.slice none 0 0,.slice none 0 0,.slice none 0 0,.slice none 0 0,.slice none 0 0,.slice none 0 0,.slice none 0 0,.slice none 0 0,.slice none 0 0,.slice none 0 0,.slice none 0 0],.st [(0,38),(3,32),(8,81),(14,84),(16,85),(17,22)]⟩),
 (89,⟨1,24,.slice none 0 0,.sl 98⟩),
 (91,⟨2,48,.agg #[.slice none 0 0,.slice none 0 0],.st [(0,75),(1,89)]⟩),
 (93,⟨1,24,.slice none 0 0,.sl 95⟩),
 (95,⟨4,24,.agg #[.int .u8 0,.int .u16 0,.int .i64 0,.int .i64 0],.st [(0,5),(1,23),(2,3),(3,3)]⟩),
 (98,⟨8,80,.agg #[.int .i64 0,.int .i64 0,.int .i64 0,.int .i64 0,.int .i64 0,.int .i64 0,.int .u16 0,.slice none 0 0],.st [(0,3),(1,3),(2,3),(3,3),(4,3),(5,3),(6,23),(7,93)]⟩),
 (103,⟨2,4,.agg #[.int .u8 0,.int .u16 0],.st [(0,5),(1,23)]⟩),
 (113,⟨1,8,.pointer none,.ptr 29⟩),
 (124,⟨3,24,.agg #[.int .i64 0,.int .i64 0,.bool false],.st [(0,3),(1,3),(2,4)]⟩),
 (129,⟨2,16,.agg #[.int .i64 0,.int .i64 0],.st [(0,3),(1,3)]⟩),
 (149,⟨1,8,.pointer none,.ptr 61⟩),
 (173,⟨8,96,.agg #[.int .i64 0,.int .i64 0,.int .i64 0,.int .i64 0,.int .i64 0,.int .i64 0,.slice none 0 0,.slice none 0 0],.st [(0,3),(1,3),(2,3),(3,3),(4,3),(5,3),(6,93),(7,93)]⟩),
 (175,⟨7,64,.agg #[.int .u8 0,.int .u16 0,.int .i64 0,.int .i64 0,.slice none 0 0,.int .i64 0,.bool false],.st [(0,95),(4,93),(5,3),(6,4)]⟩),
 (177,⟨18,184,.agg #[.int .i64 0,.int .i64 0,.int .i64 0,.int .i64 0,.int .i64 0,.int .i64 0,.int .i64 0,.int .i64 0,.int .i64 0,.slice none 0 0,.slice none 0 0,.int .u8 0,.int .u16 0,.int .i64 0,.int .i64 0,.slice none 0 0,.int .i64 0,.bool false],.st [(0,3),(1,3),(2,3),(3,173),(11,175)]⟩),
 (181,⟨1,8,.pointer none,.ptr 87⟩),
 (186,⟨4,4,.agg #[.bool false,.bool false,.bool false,.bool false],.arr 4 4⟩),
 (188,⟨1,24,.slice none 0 0,.sl 35⟩),
 (192,⟨3,40,.agg #[.int .i64 0,.int .i64 0,.slice none 0 0],.st [(0,3),(1,3),(2,93)]⟩),
 (212,⟨3,24,.agg #[.int .i64 0,.int .i64 0,.bool false],.st [(0,3),(1,3),(2,4)]⟩),
 (245,⟨1,8,.pointer none,.ptr 212⟩),
 (2,⟨1,8,.int .i64 0,.int .i64⟩),
 (12,⟨1,8,.int .u64 0,.int .u64⟩),
 (13,⟨2,24,.agg #[.string .empty,.int .u64 0],.st [(0,9),(1,12)]⟩),
 (21,⟨1,4,.int .i32 0,.int .i32⟩),
 (24,⟨2,32,.agg #[.slice none 0 0,.int .u16 0],.st [(0,22),(1,23)]⟩),
 (28,⟨2,48,.agg #[.slice none 0 0,.slice none 0 0],.st [(0,26),(1,27)]⟩),
 (31,⟨5,104,.agg #[.slice none 0 0,.int .u16 0,.slice none 0 0,.slice none 0 0,.slice none 0 0],.st [(0,25),(2,29),(4,30)]⟩),
 (37,⟨3,72,.agg #[.slice none 0 0,.slice none 0 0,.slice none 0 0],.st [(0,35),(1,22),(2,36)]⟩),
 (51,⟨8,80,.agg #[.int .i64 0,.slice none 0 0,.int .i64 0,.int .i64 0,.int .i64 0,.int .i64 0,.int .i64 0,.int .u16 0],.st [(0,3),(1,26),(2,3),(3,3),(4,3),(5,3),(6,3),(7,23)]⟩),
 (53,⟨5,40,.agg #[.int .i64 0,.int .i64 0,.int .i64 0,.int .i64 0,.int .i64 0],.st [(0,3),(1,3),(2,3),(3,3),(4,3)]⟩),
 (60,⟨3,40,.agg #[.int .i64 0,.bool false,.slice none 0 0],.st [(0,3),(1,4),(2,26)]⟩),
 (64,⟨2,32,.agg #[.slice none 0 0,.int .i64 0],.st [(0,22),(1,3)]⟩),
 (77,⟨2,48,.agg #[.slice none 0 0,.slice none 0 0],.st [(0,75),(1,76)]⟩),
 (80,⟨6,144,.agg #[.slice none 0 0,.slice none 0 0,.slice none 0 0,.slice none 0 0,.slice none 0 0,.slice none 0 0],.st [(0,74),(1,74),(2,36),(3,78),(5,79)]⟩),
 (82,⟨1,24,.slice none 0 0,.sl 22⟩),
 (83,⟨2,48,.agg #[.slice none 0 0,.slice none 0 0],.st [(0,22),(1,82)]⟩),
 (86,⟨18,416,.agg #[.slice none 0 0,.slice none 0 0,.slice none 0 0,.slice none 0 0,.int .u16 0,.slice none 0 0,.slice none 0 0,.slice none 0 0,.slice none 0 0,.slice none 0 0,.slice none 0 0,.slice none 0 0,.slice none 0 0,.slice none 0 0,.slice none 0 0,.slice none 0 0,.slice none 0 0,.slice none 0 0],.st [(0,38),(3,32),(8,81),(14,84),(16,85),(17,22)]⟩),
 (90,⟨2,48,.agg #[.slice none 0 0,.slice none 0 0],.st [(0,75),(1,89)]⟩),
 (94,⟨4,24,.agg #[.int .u8 0,.int .u16 0,.int .i64 0,.int .i64 0],.st [(0,5),(1,23),(2,3),(3,3)]⟩),
 (97,⟨8,80,.agg #[.int .i64 0,.int .i64 0,.int .i64 0,.int .i64 0,.int .i64 0,.int .i64 0,.int .u16 0,.slice none 0 0],.st [(0,3),(1,3),(2,3),(3,3),(4,3),(5,3),(6,23),(7,93)]⟩),
 (102,⟨2,4,.agg #[.int .u8 0,.int .u16 0],.st [(0,5),(1,23)]⟩),
 (123,⟨3,24,.agg #[.int .i64 0,.int .i64 0,.bool false],.st [(0,3),(1,3),(2,4)]⟩),
 (128,⟨2,16,.agg #[.int .i64 0,.int .i64 0],.st [(0,3),(1,3)]⟩),
 (172,⟨8,96,.agg #[.int .i64 0,.int .i64 0,.int .i64 0,.int .i64 0,.int .i64 0,.int .i64 0,.slice none 0 0,.slice none 0 0],.st [(0,3),(1,3),(2,3),(3,3),(4,3),(5,3),(6,93),(7,93)]⟩),
 (174,⟨7,64,.agg #[.int .u8 0,.int .u16 0,.int .i64 0,.int .i64 0,.slice none 0 0,.int .i64 0,.bool false],.st [(0,95),(4,93),(5,3),(6,4)]⟩),
 (176,⟨18,184,.agg #[.int .i64 0,.int .i64 0,.int .i64 0,.int .i64 0,.int .i64 0,.int .i64 0,.int .i64 0,.int .i64 0,.int .i64 0,.slice none 0 0,.slice none 0 0,.int .u8 0,.int .u16 0,.int .i64 0,.int .i64 0,.slice none 0 0,.int .i64 0,.bool false],.st [(0,3),(1,3),(2,3),(3,173),(11,175)]⟩),
 (191,⟨3,40,.agg #[.int .i64 0,.int .i64 0,.slice none 0 0],.st [(0,3),(1,3),(2,93)]⟩),
 (211,⟨3,24,.agg #[.int .i64 0,.int .i64 0,.bool false],.st [(0,3),(1,3),(2,4)]⟩),
 (254,⟨1,4,.int .u32 0,.int .u32⟩),
 (258,⟨1,8,.pointer none,.ptr 5⟩),
 (1,⟨1,8,.nilFunc,.fn⟩),
 (6,⟨1,1,.int .u8 0,.int .u8⟩),
 (7,⟨4,24,.agg #[.int .i64 0,.int .i64 0,.bool false,.int .u8 0],.st [(0,2),(1,3),(2,4),(3,6)]⟩),
 (8,⟨4,24,.agg #[.int .i64 0,.int .i64 0,.bool false,.int .u8 0],.st [(0,2),(1,3),(2,4),(3,6)]⟩),
 (10,⟨1,16,.string .empty,.str⟩),
 (11,⟨1,16,.string .empty,.str⟩),
 (14,⟨2,24,.agg #[.string .empty,.int .u64 0],.st [(0,9),(1,12)]⟩),
 (15,⟨1,8,.pointer none,.ptr 249⟩),
 (16,⟨1,8,.pointer none,.ptr 252⟩),
 (17,⟨1,8,.pointer none,.ptr 262⟩),
 (18,⟨1,8,.agg #[.pointer none],.st [(0,17)]⟩),
 (19,⟨1,8,.agg #[.pointer none],.st [(0,17)]⟩),
 (33,⟨1,8,.nilFunc,.fn⟩),
 (34,⟨1,8,.nilFunc,.fn⟩),
 (40,⟨1,8,.nilFunc,.fn⟩),
 (42,⟨1,8,.nilFunc,.fn⟩),
 (44,⟨1,8,.nilFunc,.fn⟩),
 (46,⟨1,8,.nilFunc,.fn⟩),
 (47,⟨1,8,.nilFunc,.fn⟩),
 (48,⟨1,8,.nilFunc,.fn⟩),
 (49,⟨1,8,.nilFunc,.fn⟩),
 (50,⟨1,8,.nilFunc,.fn⟩),
 (57,⟨1,8,.nilFunc,.fn⟩),
 (58,⟨1,8,.nilFunc,.fn⟩),
 (59,⟨1,8,.nilFunc,.fn⟩),
 (62,⟨1,8,.nilFunc,.fn⟩),
 (63,⟨1,8,.nilFunc,.fn⟩),
 (67,⟨1,8,.nilFunc,.fn⟩),
 (68,⟨1,8,.nilFunc,.fn⟩),
 (69,⟨1,8,.nilFunc,.fn⟩),
 (70,⟨1,8,.nilFunc,.fn⟩),
 (71,⟨1,8,.nilFunc,.fn⟩),
 (73,⟨1,8,.nilFunc,.fn⟩),
 (88,⟨1,8,.nilFunc,.fn⟩),
 (92,⟨1,8,.nilFunc,.fn⟩),
 (96,⟨1,8,.nilFunc,.fn⟩),
 (99,⟨1,8,.nilFunc,.fn⟩),
 (100,⟨1,8,.nilFunc,.fn⟩),
 (101,⟨1,8,.nilFunc,.fn⟩),
 (104,⟨1,8,.nilFunc,.fn⟩),
 (105,⟨1,8,.nilFunc,.fn⟩),
 (106,⟨1,8,.nilFunc,.fn⟩),
 (107,⟨1,8,.nilFunc,.fn⟩),
 (108,⟨1,8,.nilFunc,.fn⟩),
 (109,⟨1,8,.nilFunc,.fn⟩),
 (111,⟨1,8,.nilFunc,.fn⟩),
 (112,⟨1,8,.nilFunc,.fn⟩),
 (114,⟨1,8,.nilFunc,.fn⟩),
 (115,⟨1,8,.nilFunc,.fn⟩),
 (116,⟨1,8,.nilFunc,.fn⟩),
 (117,⟨1,8,.nilFunc,.fn⟩),
 (119,⟨1,8,.nilFunc,.fn⟩),
 (120,⟨1,8,.nilFunc,.fn⟩),
 (121,⟨1,8,.nilFunc,.fn⟩),
 (122,⟨1,8,.nilFunc,.fn⟩),
 (125,⟨1,8,.nilFunc,.fn⟩),
 (126,⟨1,8,.nilFunc,.fn⟩),
 (127,⟨1,8,.nilFunc,.fn⟩),
 (131,⟨1,8,.nilFunc,.fn⟩),
 (132,⟨1,8,.nilFunc,.fn⟩),
 (133,⟨1,8,.nilFunc,.fn⟩),
 (134,⟨1,8,.nilFunc,.fn⟩),
 (135,⟨1,8,.nilFunc,.fn⟩),
 (136,⟨1,8,.nilFunc,.fn⟩),
 (137,⟨1,8,.nilFunc,.fn⟩),
 (139,⟨1,8,.nilFunc,.fn⟩),
 (140,⟨1,8,.nilFunc,.fn⟩),
 (141,⟨1,8,.nilFunc,.fn⟩),
 (142,⟨1,8,.nilFunc,.fn⟩),
 (143,⟨1,8,.nilFunc,.fn⟩),
 (144,⟨1,8,.nilFunc,.fn⟩),
 (145,⟨1,8,.nilFunc,.fn⟩),
 (147,⟨1,8,.nilFunc,.fn⟩),
 (148,⟨1,8,.nilFunc,.fn⟩),
 (150,⟨1,8,.nilFunc,.fn⟩),
 (151,⟨1,8,.nilFunc,.fn⟩),
 (152,⟨1,8,.nilFunc,.fn⟩),
 (154,⟨1,8,.nilFunc,.fn⟩),
 (155,⟨1,8,.nilFunc,.fn⟩),
 (156,⟨1,8,.nilFunc,.fn⟩),
 (157,⟨1,8,.nilFunc,.fn⟩),
 (158,⟨1,8,.nilFunc,.fn⟩),
 (159,⟨1,8,.nilFunc,.fn⟩),
 (161,⟨1,8,.nilFunc,.fn⟩),
 (162,⟨1,8,.nilFunc,.fn⟩),
 (163,⟨1,8,.nilFunc,.fn⟩),
 (164,⟨1,8,.nilFunc,.fn⟩),
 (165,⟨1,8,.nilFunc,.fn⟩),
 (167,⟨1,8,.nilFunc,.fn⟩),
 (169,⟨1,8,.nilFunc,.fn⟩),
 (170,⟨1,8,.nilFunc,.fn⟩),
 (171,⟨1,8,.nilFunc,.fn⟩),
 (179,⟨1,8,.nilFunc,.fn⟩),
 (180,⟨1,8,.nilFunc,.fn⟩),
 (182,⟨1,8,.nilFunc,.fn⟩),
 (183,⟨1,8,.nilFunc,.fn⟩),
 (184,⟨1,8,.nilFunc,.fn⟩),
 (185,⟨1,8,.nilFunc,.fn⟩),
 (187,⟨1,8,.nilFunc,.fn⟩),
 (190,⟨1,8,.nilFunc,.fn⟩),
 (193,⟨1,8,.nilFunc,.fn⟩),
 (194,⟨1,8,.nilFunc,.fn⟩),
 (195,⟨1,8,.nilFunc,.fn⟩),
 (196,⟨1,8,.nilFunc,.fn⟩),
 (197,⟨1,8,.nilFunc,.fn⟩),
 (199,⟨1,8,.nilFunc,.fn⟩),
 (200,⟨1,8,.nilFunc,.fn⟩),
 (201,⟨1,8,.nilFunc,.fn⟩),
 (202,⟨1,8,.nilFunc,.fn⟩),
 (204,⟨1,8,.nilFunc,.fn⟩),
 (205,⟨1,8,.nilFunc,.fn⟩),
 (206,⟨1,8,.nilFunc,.fn⟩),
 (207,⟨1,8,.nilFunc,.fn⟩),
 (209,⟨1,8,.nilFunc,.fn⟩),
 (210,⟨1,8,.nilFunc,.fn⟩),
 (213,⟨1,8,.nilFunc,.fn⟩),
 (214,⟨1,8,.nilFunc,.fn⟩),
 (216,⟨1,8,.nilFunc,.fn⟩),
 (217,⟨1,8,.nilFunc,.fn⟩),
 (218,⟨1,8,.nilFunc,.fn⟩),
 (219,⟨1,8,.nilFunc,.fn⟩),
 (221,⟨1,8,.nilFunc,.fn⟩),
 (223,⟨1,8,.nilFunc,.fn⟩),
 (224,⟨1,8,.nilFunc,.fn⟩),
 (225,⟨1,8,.nilFunc,.fn⟩),
 (226,⟨1,8,.nilFunc,.fn⟩),
 (227,⟨1,8,.nilFunc,.fn⟩),
 (229,⟨1,8,.nilFunc,.fn⟩),
 (231,⟨1,8,.nilFunc,.fn⟩),
 (233,⟨1,8,.nilFunc,.fn⟩),
 (235,⟨1,8,.nilFunc,.fn⟩),
 (236,⟨1,8,.nilFunc,.fn⟩),
 (238,⟨1,8,.nilFunc,.fn⟩),
 (240,⟨1,8,.nilFunc,.fn⟩),
 (242,⟨1,8,.nilFunc,.fn⟩),
 (243,⟨1,8,.nilFunc,.fn⟩),
 (244,⟨1,8,.nilFunc,.fn⟩),
 (246,⟨1,8,.nilFunc,.fn⟩),
 (247,⟨1,8,.nilFunc,.fn⟩),
 (248,⟨4,40,.agg #[.pointer none,.pointer none,.pointer none,.string .empty],.st [(0,17),(1,17),(2,17),(3,9)]⟩),
 (249,⟨4,40,.agg #[.pointer none,.pointer none,.pointer none,.string .empty],.st [(0,17),(1,17),(2,17),(3,9)]⟩),
 (250,⟨0,0,.agg #[],.arr 0 16⟩),
 (251,⟨0,0,.agg #[],.st [(0,250)]⟩),
 (252,⟨0,0,.agg #[],.st [(0,250)]⟩),
 (253,⟨1,8,.nilFunc,.fn⟩),
 (255,⟨1,1,.int .u8 0,.int .u8⟩),
 (256,⟨1,1,.int .u8 0,.int .u8⟩),
 (257,⟨1,8,.nilFunc,.fn⟩),
 (259,⟨1,4,.int .i32 0,.int .i32⟩),
 (260,⟨1,4,.int .i32 0,.int .i32⟩),
 (261,⟨11,48,.agg #[.int .u64 0,.int .u64 0,.int .u32 0,.int .u8 0,.int .u8 0,.int .u8 0,.int .u8 0,.nilFunc,.pointer none,.int .i32 0,.int .i32 0],.st [(0,12),(1,12),(2,254),(3,255),(4,5),(5,5),(6,256),(7,257),(8,258),(9,259),(10,260)]⟩),
 (262,⟨11,48,.agg #[.int .u64 0,.int .u64 0,.int .u32 0,.int .u8 0,.int .u8 0,.int .u8 0,.int .u8 0,.nilFunc,.pointer none,.int .i32 0,.int .i32 0],.st [(0,12),(1,12),(2,254),(3,255),(4,5),(5,5),(6,256),(7,257),(8,258),(9,259),(10,260)]⟩)]
theorem tab:TabOk Tryz.prog TAB:=by
 have h1:TAB.map (fun p=>(Tryz.prog.info? p.1).map (fun i=>(i.zero,i.size,i.bytes)))=TAB.map (fun p=>some (some p.2.z,p.2.sz,p.2.by_)):=by kernel_rfl
 have h2:TAB.map (fun p=>(Tryz.prog.underlying p.1).map tdOf)=TAB.map (fun p=>some p.2.d):=by kernel_rfl
 exact tabOk fun p hp=>⟨List.map_inj_left.1 h1 p hp,List.map_inj_left.1 h2 p hp⟩
def NOTPL:List Nat:=[0,1,2,143,144,145,146,147,148,149,150,151,152,153,154,155,156,157,158,159]
def PLN(f:Nat):Bool:=Nat.blt f 160&&!(NOTPL.contains f)
theorem pl(f:Nat)(h:PLN f=true):plain Tryz.prog f:=by
 have h1:(List.range 160).all (fun f=>NOTPL.contains f||((Tryz.prog.funcs[f]?).map (fun fn=>!(fn.name== "runtime.NumGoroutine")&&fn.body.isSome)==some true))=true:=by kernel_rfl
 unfold PLN at h
 simp only[Bool.and_eq_true,Bool.not_eq_true']at h
 have h2:=List.all_eq_true.1 h1 f (List.mem_range.2 (Nat.blt_eq.mp h.1))
 rw[h.2,Bool.false_or]at h2
 exact⟨by simpa using h2⟩
end Go.Proofs.YtbjffoojenpmfaaGreat
namespace Go.Proofs.YtbjffoojenpmfaaGreat
open Go.RowKit
structure CV where
 t:Int
 v:Int
def CV.cs(c:CV):List Value:=[.int .u8 c.t,.int .u16 c.v]
theorem CV.cs_len(c:CV):c.cs.length=2:=rfl
def cvs(l:List CV):List Value:=l.flatMap CV.cs
theorem cvs_len(l:List CV):(cvs l).length=l.length*2:=flat_len CV.cs 2 CV.cs_len l
theorem flat_one{α:Type}{f:α→List Value}(h:∀x,(f x).all (·.oneCell')=true)(l:List α):(l.flatMap f).all (·.oneCell')=true:=by
 rw[List.all_eq_true]
 intro v hv
 obtain⟨x,_,hx⟩:=List.mem_flatMap.1 hv
 exact List.all_eq_true.1 (h x) v hx
theorem cvs_one(l:List CV):(cvs l).all (·.oneCell')=true:=flat_one (fun _=>rfl) l
structure LnD where
 tag:Int
 d:Bool
 xs:List CV
structure ThD where
 st:Int
 xs:List CV
 pc:Int
 cnt:Int
 han:Int
 sav:Int
 trp:Int
 cod:Int
structure MD where
 bs:List Int
 key:Int
 xs:List CV
 ls:List LnD
 ts:List ThD
structure LnV where
 A:Option Addr
 c:Nat
 d:LnD
structure ThV where
 A:Option Addr
 c:Nat
 d:ThD
def LnV.v(x:LnV):List Value:=[.int .i64 x.d.tag,.bool x.d.d,.slice x.A x.d.xs.length x.c]
def ThV.v(x:ThV):List Value:=[.int .i64 x.d.st,.slice x.A x.d.xs.length x.c,.int .i64 x.d.pc,.int .i64 x.d.cnt,.int .i64 x.d.han,.int .i64 x.d.sav,.int .i64 x.d.trp,.int .u16 x.d.cod]
theorem LnV.len(x:LnV):x.v.length=3:=rfl
theorem ThV.len(x:ThV):x.v.length=8:=rfl
structure MV where
 bA:Option Addr
 bc:Nat
 bs:List Int
 key:Int
 cA:Option Addr
 cc:Nat
 xs:List CV
 lA:Option Addr
 lc:Nat
 ls:List LnV
 tA:Option Addr
 tc:Nat
 ts:List ThV
def MV.me(x:MV):Value:= .agg #[.slice x.cA x.xs.length x.cc,.slice x.lA x.ls.length x.lc]
abbrev MV.cl(x:MV)(t:List Value):List Value:= .slice x.bA x.bs.length x.bc:: .int .u16 x.key:: .slice x.cA x.xs.length x.cc:: .slice x.lA x.ls.length x.lc::t
def MV.v(x:MV):Value:= .agg #[.slice x.bA x.bs.length x.bc,.int .u16 x.key,.slice x.cA x.xs.length x.cc,.slice x.lA x.ls.length x.lc,.slice x.tA x.ts.length x.tc]
def MV.d(x:MV):MD:=⟨x.bs,x.key,x.xs,x.ls.map LnV.d,x.ts.map ThV.d⟩
structure MV.ok(x:MV)(w:World):Prop where
 b:Rd w w.heap.size x.bA (ints x.bs)
 c:Rd w w.heap.size x.cA (cvs x.xs)
 l:Rd w w.heap.size x.lA (x.ls.flatMap LnV.v)
 t:Rd w w.heap.size x.tA (x.ts.flatMap ThV.v)
 ll:∀y∈x.ls,Rd w w.heap.size y.A (cvs y.d.xs)
 tt:∀y∈x.ts,Rd w w.heap.size y.A (cvs y.d.xs)
theorem MV.ok.pu{x:MV}{w w':World}(h:x.ok w)(hf:Pu w w'):x.ok w':=
 ⟨hf.rd' h.b,hf.rd' h.c,hf.rd' h.l,hf.rd' h.t,fun y hy=>hf.rd' (h.ll y hy),fun y hy=>hf.rd' (h.tt y hy)⟩
structure MD.sm(x:MD):Prop where
 b:x.bs.length≤1000
 c:x.xs.length≤1000
 l:x.ls.length≤1000
 t:x.ts.length≤1000
 ll:∀y∈x.ls,y.xs.length≤1000
 tt:∀y∈x.ts,y.xs.length≤1000
structure LnO where
 A:Option Nat
 c:Nat
 cs:List Value
 d:LnD
structure ThO where
 A:Option Nat
 c:Nat
 cs:List Value
 d:ThD
def LnO.v(x:LnO):List Value:=[.int .i64 x.d.tag,.bool x.d.d,slv x.A x.d.xs.length x.c]
def ThO.v(x:ThO):List Value:=[.int .i64 x.d.st,slv x.A x.d.xs.length x.c,.int .i64 x.d.pc,.int .i64 x.d.cnt,.int .i64 x.d.han,.int .i64 x.d.sav,.int .i64 x.d.trp,.int .u16 x.d.cod]
theorem LnO.len(x:LnO):x.v.length=3:=rfl
theorem ThO.len(x:ThO):x.v.length=8:=rfl
def LnO.hp(x:LnO):Hp:=⟨x.A,103,x.cs⟩
def ThO.hp(x:ThO):Hp:=⟨x.A,103,x.cs⟩
def LnO.ok(x:LnO):Prop:=Row x.A x.d.xs.length x.c 2 (cvs x.d.xs) x.cs
def ThO.ok(x:ThO):Prop:=Row x.A x.d.xs.length x.c 2 (cvs x.d.xs) x.cs
structure MeO where
 cA:Option Nat
 cc:Nat
 ccs:List Value
 xs:List CV
 lA:Option Nat
 lc:Nat
 lcs:List Value
 ls:List LnO
def MeO.v(x:MeO):Value:= .agg #[slv x.cA x.xs.length x.cc,slv x.lA x.ls.length x.lc]
def MeO.hps(x:MeO):List Hp:=⟨x.cA,103,x.ccs⟩::⟨x.lA,61,x.lcs⟩::x.ls.map LnO.hp
structure MeO.ok(x:MeO):Prop where
 c:Row x.cA x.xs.length x.cc 2 (cvs x.xs) x.ccs
 l:Row x.lA x.ls.length x.lc 3 (x.ls.flatMap LnO.v) x.lcs
 ll:∀y∈x.ls,y.ok
structure MO where
 bA:Option Nat
 bc:Nat
 bcs:List Value
 bs:List Int
 key:Int
 m:MeO
 tA:Option Nat
 tc:Nat
 tcs:List Value
 ts:List ThO
abbrev MO.cl(x:MO)(t:List Value):List Value:=slv x.bA x.bs.length x.bc:: .int .u16 x.key::slv x.m.cA x.m.xs.length x.m.cc::slv x.m.lA x.m.ls.length x.m.lc::t
def MO.vs(x:MO):List Value:=[slv x.bA x.bs.length x.bc,.int .u16 x.key,slv x.m.cA x.m.xs.length x.m.cc,slv x.m.lA x.m.ls.length x.m.lc,slv x.tA x.ts.length x.tc]
def MO.v(x:MO):Value:= .agg #[slv x.bA x.bs.length x.bc,.int .u16 x.key,slv x.m.cA x.m.xs.length x.m.cc,slv x.m.lA x.m.ls.length x.m.lc,slv x.tA x.ts.length x.tc]
def MO.hps(x:MO):List Hp:=⟨x.tA,52,x.tcs⟩::⟨x.bA,3,x.bcs⟩::(x.m.hps++x.ts.map ThO.hp)
structure MO.ok(x:MO):Prop where
 b:Row x.bA x.bs.length x.bc 1 (ints x.bs) x.bcs
 m:x.m.ok
 t:Row x.tA x.ts.length x.tc 8 (x.ts.flatMap ThO.v) x.tcs
 tt:∀y∈x.ts,y.ok
def MeO.d(x:MeO):List CV × List LnD:=(x.xs,x.ls.map LnO.d)
def MO.d(x:MO):MD:=⟨x.bs,x.key,x.m.xs,x.m.ls.map LnO.d,x.ts.map ThO.d⟩
def ad(A:Option Nat):Option Addr:=A.map fun g=>⟨g,0,none⟩
def LnO.lv(x:LnO):LnV:=⟨ad x.A,x.c,x.d⟩
def ThO.tv(x:ThO):ThV:=⟨ad x.A,x.c,x.d⟩
def MO.mv(x:MO):MV:=⟨ad x.bA,x.bc,x.bs,x.key,ad x.m.cA,x.m.cc,x.m.xs,ad x.m.lA,x.m.lc,x.m.ls.map LnO.lv,ad x.tA,x.tc,x.ts.map ThO.tv⟩
theorem MO.mv_v(x:MO):x.mv.v=x.v:=by
 unfold MO.mv MV.v MO.v
 dsimp only
 rw[List.length_map,List.length_map]
 rfl
theorem flat_lv(l:List LnO):(l.map LnO.lv).flatMap LnV.v=l.flatMap LnO.v:=by
 rw[List.flatMap_map]
 rfl
theorem flat_tv(l:List ThO):(l.map ThO.tv).flatMap ThV.v=l.flatMap ThO.v:=by
 rw[List.flatMap_map]
 rfl
theorem MO.mv_d(x:MO):x.mv.d=x.d:=by
 unfold MO.mv MV.d MO.d
 dsimp only
 rw[List.map_map,List.map_map]
 rfl
theorem MO.mv_ok{S:Nat→Prop}{w0 w:World}{M:List Hp}{x:MO}(hm:Mm S w0 M w)(hM:∀h∈x.hps,h∈M)(h:x.ok):x.mv.ok w:=by
 have hh:∀z,z∈x.m.hps∨z∈x.ts.map ThO.hp→z∈M:=fun z hz=>hM z (List.mem_cons_of_mem _ (List.mem_cons_of_mem _ (List.mem_append.2 hz)))
 refine⟨hm.rd_row (hM _ (List.mem_cons_of_mem _ (List.mem_cons_self ..))) h.b,hm.rd_row (hh _ (.inl (List.mem_cons_self ..))) h.m.c,?_,?_,fun y hy=>?_,fun y hy=>?_⟩
 ·show Rd w w.heap.size (ad x.m.lA) ((x.m.ls.map LnO.lv).flatMap LnV.v)
  rw[flat_lv]
  exact hm.rd_row (hh _ (.inl (List.mem_cons_of_mem _ (List.mem_cons_self ..)))) h.m.l
 ·show Rd w w.heap.size (ad x.tA) ((x.ts.map ThO.tv).flatMap ThV.v)
  rw[flat_tv]
  exact hm.rd_row (hM _ (List.mem_cons_self ..)) h.t
 ·obtain⟨z,hz,rfl⟩:=List.mem_map.1 hy
  exact hm.rd_row (hh _ (.inl (List.mem_cons_of_mem _ (List.mem_cons_of_mem _ (List.mem_map.2 ⟨z,hz,rfl⟩))))) (h.m.ll z hz)
 ·obtain⟨z,hz,rfl⟩:=List.mem_map.1 hy
  exact hm.rd_row (hh _ (.inr (List.mem_map.2 ⟨z,hz,rfl⟩))) (h.tt z hz)
section
variable (T:List (Nat × TI))
def stEq:List (Bool × Nat × TypeId)→List Value→List Value→Option Bool
 |[],_,_=>some true
 |(true,off,t)::r,xs,ys=>match tlk T t with
  |some ⟨_,_,_,.int _⟩=>match xs[off]? with
   |some (.int k1 n)=>match ys[off]? with
    |some (.int k2 m)=>bif kEq k1 k2 then match stEq r xs ys with
     |some b=>some ((n==m)&&b)
     |none=>none else none
    |_=>none
   |_=>none
  |_=>none
 |_,_,_=>none
end
section
variable {P:Program} {T:List (Nat × TI)} {N:Nat} {L:List (Nat × Value)} {a:Act} {w w0:World} {S:Nat→Prop} {M:List Hp} {o:Oper} {x y z:Operand} {v u:Value}
theorem run_partF{t:TypeId}{i:TI}{cs:Array Value}{off:Nat}(h:TOk P t i)(hf:i.d.flat=true)(hv:cs.toList[off]?=some v):Sem.run P (part t cs off) w= .ok v w:=by
 have hv':cs[off]?=some v:=by simpa using hv
 unfold part
 simp[run_isAgg h,hf,hv']
theorem run_eqFields_T(hT:TabOk P T)(d:Nat)(xs ys:Array Value):∀(fs:List Field)(b:Bool),stEq T (fs.map fun f=>(f.name != "_",f.offset,f.type)) xs.toList ys.toList=some b→Sem.run P (Op.eqFields (d+1) xs ys fs) w= .ok b w
 |[],b,h=>by
  simp only[List.map_nil,stEq,Option.some.injEq]at h
  subst h
  simp[Op.eqFields]
 |f::r,b,h=>by
  rw[List.map_cons]at h
  cases hn:(f.name != "_")with
  |false=>rw[hn]at h;simp[stEq]at h
  |true=>
   rw[hn]at h
   simp only[stEq]at h
   have hn':f.name≠ "_" :=by simpa using hn
   split at h
   ·rename_i s1 b1 z1 k ht
    split at h
    ·rename_i k1 n hx
     split at h
     ·rename_i k2 m hy
      cases hk:kEq k1 k2 with
      |false=>rw[hk]at h;cases h
      |true=>
       have e:=kEq_ok hk
       subst e
       rw[hk,cond_true]at h
       split at h
       ·rename_i b' hb
        obtain rfl:=Option.some.inj h
        have ih:=run_eqFields_T hT d xs ys r b' hb
        have hi:=(hT _ _ ht).int rfl
        simp only[Op.eqFields,hn',ne_eq,not_false_eq_true,if_true,Sem.run_bind,run_partF (hT _ _ ht) rfl hx,run_partF (hT _ _ ht) rfl hy,Result.andThen_ok,run_equalIn_int w d f.type k2 k n m hi]
        cases hnm:(n==m)
        ·simp
        ·simp only[Bool.not_true,Bool.false_eq_true,if_false,Bool.true_and]
         exact ih
       ·cases h
     ·cases h
    ·cases h
   ·cases h
theorem r_neqSt{t yt:TypeId}{xs ys:Array Value}{fl:List (Bool × Nat × TypeId)}{b:Bool}(hs:Sl N L a)(ho:o.op= .binOp .neq t x y yt)(hx:ev L x=some (.agg xs))(hy:ev L y=some (.agg ys))(hT:TabOk P T)(hg:P.eqGuardType P.depth t=false)(hp:P.stoodInHeld t=false)(hu:P.underlying t=some (.struct (P.fieldsOf t)))(hf:((P.fieldsOf t).toList.map fun f=>(f.name != "_",f.offset,f.type))=fl)(he:stEq T fl xs.toList ys.toList=some b):RunV P a o w (.bool (!b)):=by
 replace hx:=hs.ev hx;replace hy:=hs.ev hy
 have h1:=run_equalIn_struct w 9999 t xs ys hu hp
 rw[run_eqFields_T hT 9998 xs ys _ b (by rw[hf];exact he)]at h1
 unfold RunV execOp
 simp[ho,hx,hy,run_eqGuard_agg w .neq t x y xs ys hg,run_neq_struct,h1]
theorem r_eqlSt{t yt:TypeId}{xs ys:Array Value}{fl:List (Bool × Nat × TypeId)}{b:Bool}(hs:Sl N L a)(ho:o.op= .binOp .eql t x y yt)(hx:ev L x=some (.agg xs))(hy:ev L y=some (.agg ys))(hT:TabOk P T)(hg:P.eqGuardType P.depth t=false)(hp:P.stoodInHeld t=false)(hu:P.underlying t=some (.struct (P.fieldsOf t)))(hf:((P.fieldsOf t).toList.map fun f=>(f.name != "_",f.offset,f.type))=fl)(he:stEq T fl xs.toList ys.toList=some b):RunV P a o w (.bool b):=by
 replace hx:=hs.ev hx;replace hy:=hs.ev hy
 have h1:=run_equalIn_struct w 9999 t xs ys hu hp
 rw[run_eqFields_T hT 9998 xs ys _ b (by rw[hf];exact he)]at h1
 unfold RunV execOp
 simp[ho,hx,hy,run_eqGuard_agg w .eql t x y xs ys hg,run_eql_struct,h1]
end
theorem gpDck0_{G H:Prop}(k:H)(s:Bx H→G:=by intro k_;(repeat(first|(refine ov_ ?_;(try clear hs a);intro a hs)|((with_reducible apply lCons);first|(refine dv hs gw_ rfl rfl da_ ?_;(try clear hs hm a);rintro _ w_ ⟨g_,rfl,-,hm⟩ a hs)|(refine stn hs rfl rfl ds_ ?_;(try clear hs hm a);rintro-w_ hm a hs))|refine sc_ ?_));have m_:=hm;have s_:=hs;clear hs;(try clear hm);revert m_ s_ a;(try revert w_);(repeat revert g_);exact k_.h):G:=s ⟨k⟩
theorem gpDck1_{G H:Prop}(k:H)(s:Bx H→G:=by intro k_;(repeat(first|(refine oq_ ?_;(try clear hs a);intro a hs)|((with_reducible apply lCons);first|(refine dv hs gw_ rfl rfl da_ ?_;(try clear hs hm a);rintro _ w_ ⟨g_,rfl,-,hm⟩ a hs)|(refine stn hs rfl rfl ds_ ?_;(try clear hs hm a);rintro-w_ hm a hs))|((with_reducible apply qNil);(try clear hm);intro w_ hm)|refine cQ_ ?_|refine sc_ ?_));have m_:=hm;have s_:=hs;clear hs;(try clear hm);revert m_ s_ a;(try revert w_);(repeat revert g_);exact k_.h):G:=s ⟨k⟩
def modF(v m:Int):Int:=if v.tmod m<0 then v.tmod m+m else v.tmod m
theorem tmod_bd(v:Int){m:Int}(hm:0<m):-m<v.tmod m∧v.tmod m<m:=by
 by_cases h:0≤v
 ·rw[Int.tmod_eq_emod_of_nonneg h]
  have:=Int.emod_nonneg v (b:=m) (by omega)
  have:=Int.emod_lt_of_pos v hm
  omega
 ·have e:v.tmod m=-((-v).tmod m):=by rw[Int.neg_tmod,Int.neg_neg]
  rw[e,Int.tmod_eq_emod_of_nonneg (by omega)]
  have:=Int.emod_nonneg (-v) (b:=m) (by omega)
  have:=Int.emod_lt_of_pos (-v) hm
  omega
theorem modF_bd(v:Int){m:Int}(hm:0<m):0≤modF v m∧modF v m<m:=by
 have:=tmod_bd v hm
 unfold modF
 split<;>omega
theorem rmod_c(v m:Int)(w:World)(hm:0<m)(hm':m≤2000000):Ret Tryz.prog 22 [.int .i64 v,.int .i64 m] w (fun u w'=>u= .int .i64 (modF v m)∧Pu w w'):=by
 have hb:=tmod_bd v hm
 generalize hR:modF v m=R
 unfold modF at hR
 refine enterR Tryz.func22 rfl rfl rfl fun a hs hm=>?_
 refine gs9cbd_ ?_;clear hs hm a;intros;rename_i a hm hs
 generalize v.tmod m=q at*
 by_cases h:q<0
 ·rw[if_pos h]at hR
  refine gs9cbd_ ?_;clear hs hm a;intros;rename_i a hm hs
  exact gRet1 hs rfl rfl ⟨by rw[←hR],hm.fr⟩
 ·rw[if_neg h]at hR
  refine gs9cbd_ ?_;clear hs hm a;intros;rename_i a hm hs
  exact gRet1 hs rfl rfl ⟨by rw[←hR],hm.fr⟩
theorem mod_c(v m:Int)(w:World)(hm:0<m)(hm':m≤2000000):Ret Tryz.prog 10 [.int .i64 v,.int .i64 m] w (fun u w'=>u= .int .i64 (modF v m)∧Pu w w'):=by
 have hr:=fun w=>rmod_c v m w hm hm'
 refine enterR Tryz.func10 rfl rfl rfl fun a hs hm=>?_
 repeat(first|(refine gpDck0_ ?_;clear hs hm a;intros;rename_i a hm hs)|refine sc_ ?_|((with_reducible apply lCons);first|(refine dvc hs hm gw_ rfl rfl rfl rfl rfl (pl 22 rfl) (hr _) ?_;clear hs hm a;intro w hm a hs)))
 exact gRet1 hs rfl rfl ⟨rfl,hm.fr⟩
def dk(g:Nat)(A:Option Addr)(n c at_:Nat):Hp:=⟨some g,65,[.slice A n c,.int .i64 (at_:Int)]⟩
theorem mk_c(A:Option Addr)(n c:Nat)(w:World):Ret Tryz.prog 9 [.slice A n c] w (fun u w'=>∃g,u=pt g∧New w w' [dk g A n c 0]∧Pu w w'):=by
 refine enterR Tryz.func9 rfl rfl rfl fun a hs hm=>?_
 refine gs87a7_ ?_;clear hs hm a;intros;rename_i g w a hm hs
 exact gRet1 hs rfl rfl ⟨g,rfl,hm.new (List.Sublist.refl _),hm.fr⟩
theorem dk_adopt{w w':World}{M:List Hp}{h:Hp}(hm:Mm (fun _=>False) w M w'){g:Nat}(hg:h.g=some g)(hs:h.sat w):Mm (own [h]) w (h::M) w':=by
 have hlt:g<w.heap.size:=Hp.lt hs hg
 refine⟨fun x hx=>?_,⟨hm.fr.os,hm.fr.tape,hm.fr.output,hm.fr.size,fun k hk _=>hm.fr.block k hk (fun t=>t)⟩,⟨fun x hx k hk e=>?_,hm.dj⟩,fun x hx k hk=>?_⟩
 ·rcases List.mem_cons.1 hx with rfl|hx
  ·exact Hp.sat_fr hm.fr hs fun _ _ t=>t
  ·exact hm.me x hx
 ·rw[hg]at hk
  obtain rfl:=Option.some.inj hk
  rcases hm.ow x hx _ e with h|h
  ·omega
  ·exact h
 ·rcases List.mem_cons.1 hx with rfl|hx
  ·exact .inr ⟨_,List.mem_singleton.2 rfl,hk⟩
  ·rcases hm.ow x hx k hk with h|h
   ·exact .inl h
   ·exact h.elim
theorem own_dk{g k:Nat}{A:Option Addr}{n c at_:Nat}(h:own [dk g A n c at_] k):(some g:Option Nat)=some k:=by
 obtain⟨y,hy,e⟩:=h
 rcases List.mem_singleton.1 hy with rfl
 exact e
def dkAt(n at_:Nat):Nat:=if at_<n then at_+1 else at_
def dkV(xs:List Int)(at_:Nat)(m:Int):Int:=match xs[at_]? with
 |some v=>modF v m
 |none=>0
theorem dkV_bd(xs:List Int)(at_:Nat){m:Int}(hm:0<m):0≤dkV xs at_ m∧dkV xs at_ m<m:=by
 unfold dkV
 split
 ·exact modF_bd _ hm
 ·omega
theorem dnext_c(g:Nat)(A:Option Addr)(n c at_:Nat)(xs:List Int)(m:Int)(w:World)(hs':(dk g A n c at_).sat w)(hl:xs.length=n)(hr:Rd w w.heap.size A (ints xs))(hg:xs≠ []→∀b o,A=some ⟨b,o,none⟩→b≠g)(hm0:0<m)(hm1:m≤2000000)(hn:n≤9223372036854775807):
  Ret Tryz.prog 21 [pt g,.int .i64 m] w (fun u w'=>u= .int .i64 (dkV xs at_ m)∧(dk g A n c (dkAt n at_)).sat w'∧Fr (fun k=>(some g:Option Nat)=some k) w w'):=by
 generalize hR:dkV xs at_ m=R
 unfold dkV at hR
 by_cases h:at_<n
 ·have hat:dkAt n at_=at_+1:=by unfold dkAt;rw[if_pos h]
  rw[hat]
  have hx:xs[at_]?=some (xs[at_]'(by omega)):=List.getElem?_eq_getElem (by omega)
  have e1:=ints_some (xs:=xs) (k:=at_) (by omega)
  rw[hx]at hR
  dsimp only at hR
  obtain⟨b1,o1,rfl,hb1,r1⟩:=hr.ro (by rw[ints_len];omega)
  have hno:¬own [dk g (some ⟨b1,o1,none⟩) n c at_] b1:=fun hw=>hg (List.ne_nil_of_length_pos (by omega)) b1 o1 rfl (Option.some.inj (own_dk hw)).symm
  generalize xs[at_]'(_)=v at*
  have hmd:=fun w=>mod_c v m w hm0 hm1
  rw[hR]at hmd
  have hpr:(at_:Int)+1-1=(at_:Int):=by omega
  refine enterR Tryz.func21 rfl rfl rfl fun a hs hm=>?_
  replace hm:=dk_adopt hm rfl hs'
  unfold dk at hm hno
  repeat(first|(refine gpDck1_ ?_;clear hs hm a;intros;rename_i a hm hs)|refine sc_ ?_|((with_reducible apply lCons);first|(refine dvc hs hm gw_ rfl rfl rfl rfl rfl (pl 10 rfl) (hmd _) ?_;clear hs hm a;intro w hm a hs))|((with_reducible apply qCons);first|(refine qwc hs gw_ rfl rfl rfl rfl rfl (pl 10 rfl) (fun w hm=>hmd _) ?_;clear hs a;intro a hs)))
  exact gRet1 hs rfl rfl ⟨rfl,hm.me _ (List.Mem.head _),hm.fr.mono fun _ _ hw=>own_dk hw⟩
 ·have hat:dkAt n at_=at_:=by unfold dkAt;rw[if_neg h]
  rw[hat]
  rw[List.getElem?_eq_none (by omega)]at hR
  dsimp only at hR
  subst hR
  refine enterR Tryz.func21 rfl rfl rfl fun a hs hm=>?_
  replace hm:=dk_adopt hm rfl hs'
  unfold dk at hm
  refine gq0ba6_ ?_;clear hs hm a;intros;rename_i a hm hs
  exact gRet1 hs rfl rfl ⟨rfl,hm.me _ (List.Mem.head _),hm.fr.mono fun _ _ hw=>own_dk hw⟩
structure Dk(g:Nat)(A:Option Addr)(n c at_:Nat)(xs:List Int)(w:World):Prop where
 sat:(dk g A n c at_).sat w
 len:xs.length=n
 rd:Rd w w.heap.size A (ints xs)
 ne:xs≠ []→∀b o,A=some ⟨b,o,none⟩→b≠g
 n:n≤9223372036854775807
theorem Dk.pu{g:Nat}{A:Option Addr}{n c at_:Nat}{xs:List Int}{w w':World}(h:Dk g A n c at_ xs w)(hf:Pu w w'):Dk g A n c at_ xs w':=
 ⟨Hp.sat_fr hf h.sat fun _ _ t=>t,h.len,hf.rd' h.rd,h.ne,h.n⟩
theorem rdD{S:Nat→Prop}{w w':World}{A:Option Addr}{xs:List Value}(hf:Fr S w w')(h:Rd w w.heap.size A xs)(hn:∀g o,A=some ⟨g,o,none⟩→¬S g):Rd w' w'.heap.size A xs:=fun h0=>by
 obtain⟨b,o,e,hb,hc⟩:=h h0
 exact⟨b,o,e,Nat.lt_of_lt_of_le hb hf.size,fun j u hj=>hf.cl (hc j u hj) (hn b o e)⟩
theorem rdN{S:Nat→Prop}{w w':World}{A:Option Addr}{xs:List Int}(hf:Fr S w w')(h:Rd w w.heap.size A (ints xs))(hn:xs≠ []→∀g o,A=some ⟨g,o,none⟩→¬S g):Rd w' w'.heap.size A (ints xs):=fun h0=>rdD hf h (hn (by rintro rfl;exact absurd h0 (by simp[ints]))) h0
theorem Dk.start{g:Nat}{A:Option Addr}{n c:Nat}{xs:List Int}{w w':World}(hl:xs.length=n)(hr:Rd w w.heap.size A (ints xs))(hn:n≤9223372036854775807)(hN:New w w' [dk g A n c 0])(hf:Pu w w'):Dk g A n c 0 xs w':=by
 refine⟨hN.me _ (List.Mem.head _),hl,hf.rd' hr,fun hne b o e=>?_,hn⟩
 obtain⟨b',o',e',hb,_⟩:=hr (by rw[ints_len];exact List.length_pos_iff.2 hne)
 rw[e]at e'
 cases e'
 have:=hN.fresh _ (List.Mem.head _) g rfl
 omega
theorem Dk.in_{g:Nat}{A:Option Addr}{n c at_:Nat}{xs:List Int}{w:World}(h:Dk g A n c at_ xs w):Mm (own [dk g A n c at_]) w [dk g A n c at_] w:=dk_adopt (Mm.nil _ w) rfl h.sat
theorem Dk.now{g:Nat}{A:Option Addr}{n c a0 at_:Nat}{xs:List Int}{w w':World}{M:List Hp}(h:Dk g A n c a0 xs w)(hm:Mm (own [dk g A n c a0]) w M w')(hM:dk g A n c at_∈M):Dk g A n c at_ xs w':=
 ⟨hm.me _ hM,h.len,rdN hm.fr h.rd fun hn b o e hw=>h.ne hn b o e (Option.some.inj (own_dk hw)).symm,h.ne,h.n⟩
theorem Dk.out{g:Nat}{A:Option Addr}{n c a0:Nat}{w w':World}{M:List Hp}(hm:Mm (own [dk g A n c a0]) w M w'):Fr (fun k=>(some g:Option Nat)=some k) w w':=hm.fr.mono fun _ _ hw=>own_dk hw
def DkR(g:Nat)(A:Option Addr)(n c:Nat)(xs:List Int)(w w':World):Prop:=∃at_,Dk g A n c at_ xs w'∧Fr (fun k=>(some g:Option Nat)=some k) w w'
theorem nxt_c(g:Nat)(A:Option Addr)(n c at_:Nat)(xs:List Int)(m:Int)(w:World)(h:Dk g A n c at_ xs w)(hm0:0<m)(hm1:m≤2000000):
  Ret Tryz.prog 21 [pt g,.int .i64 m] w (fun u w'=>∃r:Nat,u= .int .i64 (r:Int)∧(r:Int)<m∧DkR g A n c xs w w'):=
 (dnext_c g A n c at_ xs m w h.sat h.len h.rd h.ne hm0 hm1 h.n).mono fun u w' ⟨h1,h2,h3⟩=>by
  have hb:=dkV_bd xs at_ hm0
  refine⟨(dkV xs at_ m).toNat,by rw[h1];congr 1;omega,by omega,dkAt n at_,⟨h2,h.len,rdN h3 h.rd fun hn b o e hw=>h.ne hn b o e (Option.some.inj hw).symm,h.ne,h.n⟩,h3⟩
theorem Mm.dkt{S:Nat→Prop}{w0 w w':World}{M M':List Hp}{g:Nat}{A:Option Addr}{n c a0 a1:Nat}{xs:List Int}(hm:Mm S w0 M w)(r:Rep M (dk g A n c a0) (dk g A n c a1) M')(h:Dk g A n c a1 xs w')(hf:Fr (fun k=>(some g:Option Nat)=some k) w w'):Mm S w0 M' w':=hm.turn r hf h.sat (fun _ h=> .inl h)
theorem wrd_c(g:Nat)(A:Option Addr)(n c at_:Nat)(xs:List Int)(w:World)(h:Dk g A n c at_ xs w):
  Ret Tryz.prog 58 [pt g] w (fun u w'=>∃x:Int,u= .int .u16 x∧(0≤x∧x≤65535)∧DkR g A n c xs w w'):=by
 have hwr:∀y:Int,0≤IntKind.u16.wrap y∧IntKind.u16.wrap y≤65535:=fun y=>by simp[IntKind.wrap,IntKind.bits,IntKind.signed];omega
 refine enterR Tryz.func58 rfl rfl rfl fun a hs hm=>?_
 clear hm
 have hm:=h.in_
 refine gs5eea_ ?_;clear hs hm a;intros;rename_i a hm hs
 refine st hs rfl rfl rfl (d_call hs rfl rfl rfl (pl 21 rfl) ((nxt_c g A n c _ xs 5 _ h (by omega) (by omega)))) ?_;clear hs a;rintro _ w1 ⟨r1,rfl,b1,a1,k1,hf⟩ a hs
 replace hm:=hm.dkt (Rep.head _ _ _) k1 hf
 clear hf
 by_cases h3:(r1:Int)=3
 ·refine gs5eea_ ?_;clear hs hm a;intros;rename_i a hm hs
  refine st hs rfl rfl rfl (d_call hs rfl rfl rfl (pl 21 rfl) ((nxt_c g A n c _ xs 3 _ k1 (by omega) (by omega)))) ?_;clear hs a;rintro _ w1 ⟨r2,rfl,b2,a1,k2,hf⟩ a hs
  replace hm:=hm.dkt (Rep.head _ _ _) k2 hf
  clear hf
  refine gs5eea_ ?_;clear hs hm a;intros;rename_i a hm hs
  exact gRet1 hs rfl rfl ⟨_,rfl,hwr _,_,k2.pu (Fr.refl _ _),Dk.out hm⟩
 ·by_cases h4:(r1:Int)=4
  ·refine gs5eea_ ?_;clear hs hm a;intros;rename_i a hm hs
   refine st hs rfl rfl rfl (d_call hs rfl rfl rfl (pl 21 rfl) ((nxt_c g A n c _ xs 65536 _ k1 (by omega) (by omega)))) ?_;clear hs a;rintro _ w1 ⟨r2,rfl,b2,a1,k2,hf⟩ a hs
   replace hm:=hm.dkt (Rep.head _ _ _) k2 hf
   clear hf
   refine gs5eea_ ?_;clear hs hm a;intros;rename_i a hm hs
   exact gRet1 hs rfl rfl ⟨_,rfl,hwr _,_,k2.pu (Fr.refl _ _),Dk.out hm⟩
  ·rcases(by omega:(r1:Int)=0∨(r1:Int)=1∨(r1:Int)=2)with h5|h5|h5<;>
   ·refine gs5eea_ ?_;clear hs hm a;intros;rename_i a hm hs
    refine st hs rfl rfl rfl (d_call hs rfl rfl rfl (pl 21 rfl) ((nxt_c g A n c _ xs 8 _ k1 (by omega) (by omega)))) ?_;clear hs a;rintro _ w1 ⟨r2,rfl,b2,a1,k2,hf⟩ a hs
    replace hm:=hm.dkt (Rep.head _ _ _) k2 hf
    clear hf
    refine gs5eea_ ?_;clear hs hm a;intros;rename_i a hm hs
    exact gRet1 hs rfl rfl ⟨_,rfl,hwr _,_,k2.pu (Fr.refl _ _),Dk.out hm⟩
theorem getI{l:List Int}{k:Nat}(h:k<l.length):l.getD k 0=l[k]:=by rw[List.getD_eq_getElem?_getD,List.getElem?_eq_getElem h];rfl
def insF(ss:List Int)(r o:Int):Bool:=decide (0≤r)&&(decide (r<(ss.length:Int))&&(decide (0≤o)&&decide (o<ss.getD r.toNat 0)))
theorem insF_t{ss:List Int}{r o:Int}:insF ss r o=true↔0≤r∧r<(ss.length:Int)∧0≤o∧o<ss.getD r.toNat 0:=by
 unfold insF
 simp only[Bool.and_eq_true,decide_eq_true_eq]
theorem insF_f{ss:List Int}{r o:Int}(h:¬(0≤r∧r<(ss.length:Int)∧0≤o∧o<ss.getD r.toNat 0)):insF ss r o=false:=by
 rw[Bool.eq_false_iff]
 exact fun h'=>h (insF_t.1 h')
theorem rins_c(A:Option Addr)(n c:Nat)(ss:List Int)(r o:Int)(w:World)(hl:ss.length=n)(hr:Rd w w.heap.size A (ints ss)):
  Ret Tryz.prog 72 [.slice A n c,.agg #[.int .i64 r,.int .i64 o]] w (fun v w'=>v= .bool (insF ss r o)∧Pu w w'):=by
 by_cases h1:0≤r
 ·by_cases h2:r<(n:Int)
  ·by_cases h3:0≤o
   ·obtain⟨k,rfl⟩:∃k:Nat,r=(k:Int):=⟨r.toNat,by omega⟩
    obtain⟨b1,o1,rfl,hb1,r1⟩:=hr.ro (by rw[ints_len];omega)
    have e1:=ints_some (xs:=ss) (k:=k) (by omega)
    have hg:=getI (l:=ss) (k:=k) (by omega)
    generalize ss[k]'(_)=s at*
    by_cases h4:o<s
    ·rw[show insF ss (k:Int) o=true from insF_t.2 ⟨h1,by omega,h3,by rw[Int.toNat_natCast,hg];exact h4⟩]
     refine enterR Tryz.func72 rfl rfl rfl fun a hs hm=>?_
     repeat(first|(refine oqR_ ?_;clear hs a;intro a hs)|((with_reducible apply lCons);first|(refine dv hs gw_ rfl rfl da_ ?_;clear hs hm a;rintro _ w ⟨g,rfl,-,hm⟩ a hs)|(refine stn hs rfl rfl ds_ ?_;clear hs hm a;rintro-w hm a hs))|((with_reducible apply qNil);clear hm;intro w hm)|refine cQ_ ?_|refine sc_ ?_)
     exact gRet1 hs rfl rfl ⟨rfl,hm.fr⟩
    ·rw[insF_f (fun h=>h4 (by have:=h.2.2.2;rwa[Int.toNat_natCast,hg]at this))]
     refine enterR Tryz.func72 rfl rfl rfl fun a hs hm=>?_
     repeat(first|(refine oqR_ ?_;clear hs a;intro a hs)|((with_reducible apply lCons);first|(refine dv hs gw_ rfl rfl da_ ?_;clear hs hm a;rintro _ w ⟨g,rfl,-,hm⟩ a hs)|(refine stn hs rfl rfl ds_ ?_;clear hs hm a;rintro-w hm a hs))|((with_reducible apply qNil);clear hm;intro w hm)|refine cQ_ ?_|refine sc_ ?_)
     exact gRet1 hs rfl rfl ⟨rfl,hm.fr⟩
   ·rw[insF_f (by omega)]
    refine enterR Tryz.func72 rfl rfl rfl fun a hs hm=>?_
    repeat(first|(refine oqR_ ?_;clear hs a;intro a hs)|((with_reducible apply lCons);first|(refine dv hs gw_ rfl rfl da_ ?_;clear hs hm a;rintro _ w ⟨g,rfl,-,hm⟩ a hs)|(refine stn hs rfl rfl ds_ ?_;clear hs hm a;rintro-w hm a hs))|((with_reducible apply qNil);clear hm;intro w hm)|refine cQ_ ?_|refine sc_ ?_)
    exact gRet1 hs rfl rfl ⟨rfl,hm.fr⟩
  ·rw[insF_f (by omega)]
   refine enterR Tryz.func72 rfl rfl rfl fun a hs hm=>?_
   repeat(first|(refine oqR_ ?_;clear hs a;intro a hs)|((with_reducible apply lCons);first|(refine dv hs gw_ rfl rfl da_ ?_;clear hs hm a;rintro _ w ⟨g,rfl,-,hm⟩ a hs)|(refine stn hs rfl rfl ds_ ?_;clear hs hm a;rintro-w hm a hs))|((with_reducible apply qNil);clear hm;intro w hm)|refine cQ_ ?_|refine sc_ ?_)
   exact gRet1 hs rfl rfl ⟨rfl,hm.fr⟩
 ·rw[insF_f (by omega)]
  refine enterR Tryz.func72 rfl rfl rfl fun a hs hm=>?_
  repeat(first|(refine oqR_ ?_;clear hs a;intro a hs)|((with_reducible apply lCons);first|(refine dv hs gw_ rfl rfl da_ ?_;clear hs hm a;rintro _ w ⟨g,rfl,-,hm⟩ a hs)|(refine stn hs rfl rfl ds_ ?_;clear hs hm a;rintro-w hm a hs))|((with_reducible apply qNil);clear hm;intro w hm)|refine cQ_ ?_|refine sc_ ?_)
  exact gRet1 hs rfl rfl ⟨rfl,hm.fr⟩
def resF(bs ss:List Int)(a:Int):Nat→Option (Nat × Int)
 |0=>none
 |k+1=>match resF bs ss a k with
  |some p=>some p
  |none=>if bs.getD k 0≤a∧a-bs.getD k 0<ss.getD k 0 then some (k,a-bs.getD k 0)else none
theorem resF_stay{bs ss:List Int}{a:Int}{k:Nat}{p:Nat × Int}(h:resF bs ss a k=some p):∀d,resF bs ss a (k+d)=some p
 |0=>h
 |d+1=>by
  show(match resF bs ss a (k+d)with
   |some p=>some p
   |none=>if _ then some _ else none)=some p
  rw[resF_stay h d]
theorem resF_hit{bs ss:List Int}{a:Int}{k m:Nat}(h:resF bs ss a k=none)(hk:k<m)(h1:bs.getD k 0≤a)(h2:a-bs.getD k 0<ss.getD k 0):resF bs ss a m=some (k,a-bs.getD k 0):=by
 have h3:resF bs ss a (k+1)=some (k,a-bs.getD k 0):=by
  show(match resF bs ss a k with
   |some p=>some p
   |none=>if _ then some _ else none)=_
  rw[h]
  exact if_pos ⟨h1,h2⟩
 have:=resF_stay h3 (m-(k+1))
 rwa[show k+1+(m-(k+1))=m by omega]at this
theorem resF_miss{bs ss:List Int}{a:Int}{k:Nat}(h:resF bs ss a k=none)(h1:¬(bs.getD k 0≤a∧a-bs.getD k 0<ss.getD k 0)):resF bs ss a (k+1)=none:=by
 show(match resF bs ss a k with
  |some p=>some p
  |none=>if _ then some _ else none)=_
 rw[h]
 exact if_neg h1
def rsvV:Option (Nat × Int)→Value
 |none=> .tuple #[.agg #[.int .i64 0,.int .i64 0],.bool false]
 |some (r,o)=> .tuple #[.agg #[.int .i64 (r:Int),.int .i64 o],.bool true]
theorem rrsv_c(A:Option Addr)(n c:Nat)(bs:List Int)(key:Int)(B:Option Addr)(d:Nat)(ss:List Int)(a0:Int)(w:World)(hbl:bs.length=n)(hsl:ss.length=n)(hbr:Rd w w.heap.size A (ints bs))(hsr:Rd w w.heap.size B (ints ss))(hb:∀x∈bs,0≤x∧x≤1000000)(hs':∀x∈ss,1≤x∧x≤32)(ha:0≤a0∧a0≤65535)(hn:n≤1000):
  Ret Tryz.prog 71 [.agg #[.slice A n c,.int .u16 key],.slice B n d,.int .i64 a0] w (fun v w'=>v=rsvV (resF bs ss a0 n)∧Pu w w'):=by
 refine enterR Tryz.func71 rfl rfl rfl fun a hs hm=>?_
 repeat(first|(refine ovR_ ?_;clear hs a;intro a hs)|((with_reducible apply lCons);first|(refine dv hs gw_ rfl rfl da_ ?_;clear hs hm a;rintro _ w ⟨g,rfl,-,hm⟩ a hs)|(refine stn hs rfl rfl ds_ ?_;clear hs hm a;rintro-w hm a hs))|refine sc_ ?_)
 rename_i w0 _ g3
 rename Nat=>g6
 refine cLoop (X:=Nat) (fun k a w'=>Sl Tryz.f71.ntmps [(1,.slice B n d),(2,.int .i64 a0),(6,pt g6),(11,.slice A n c),(12,.int .i64 (n:Int)),(13,.int .i64 (k:Int))] a∧Mm (fun _=>False) w0 [⟨some g6,129,[.int .i64 0,.int .i64 0]⟩] w'∧k≤n∧resF bs ss a0 k=none) (fun k=>n-k) 0 ⟨hs.sub (Has.all ⟨rfl,rfl,rfl,rfl,rfl,rfl,trivial⟩),hm.sub sub_,Nat.zero_le _,rfl⟩ ?_
 clear hs hm a
 rintro k a w' ⟨hs,hm,hk,hR⟩
 by_cases hlt:k<n
 ·obtain⟨b1,o1,rfl,hb1,r1⟩:=hbr.ro (by rw[ints_len];omega)
  obtain⟨b2,o2,rfl,hb2,r2⟩:=hsr.ro (by rw[ints_len];omega)
  have e1:=ints_some (xs:=bs) (k:=k) (by omega)
  have e2:=ints_some (xs:=ss) (k:=k) (by omega)
  have hg1:=getI (l:=bs) (k:=k) (by omega)
  have hg2:=getI (l:=ss) (k:=k) (by omega)
  have hbk:=hb bs[k] (List.getElem_mem (by omega))
  have hsk:=hs' ss[k] (List.getElem_mem (by omega))
  generalize bs[k]'(_)=bk at*
  generalize ss[k]'(_)=sk at*
  by_cases h1:bk≤a0
  ·by_cases h2:a0-bk<sk
   ·rw[resF_hit hR hlt (by rw[hg1];exact h1) (by rw[hg1,hg2];exact h2),hg1]
    repeat(first|(refine ovR_ ?_;clear hs a;intro a hs)|((with_reducible apply lCons);first|(refine dv hs gw_ rfl rfl da_ ?_;clear hs hm a;rintro _ w ⟨g,rfl,-,hm⟩ a hs)|(refine stn hs rfl rfl ds_ ?_;clear hs hm a;rintro-w hm a hs))|refine sc_ ?_)
    exact gRetN tab hs rfl (.cons (.cells rfl rfl rfl rfl (hm.ro (k:=0) (n:=2) mem_ (cutF_ok rfl))) (.cons (.tmp rfl) .nil)) ⟨rfl,hm.fr⟩
   ·have hR':=resF_miss hR (by rw[hg1,hg2];exact fun h=>h2 h.2)
    repeat(first|(refine ovR_ ?_;clear hs a;intro a hs)|((with_reducible apply lCons);first|(refine dv hs gw_ rfl rfl da_ ?_;clear hs hm a;rintro _ w ⟨g,rfl,-,hm⟩ a hs)|(refine stn hs rfl rfl ds_ ?_;clear hs hm a;rintro-w hm a hs))|refine sc_ ?_)
    exact⟨k+1,by omega,hs.sub (Has.all ⟨rfl,rfl,rfl,rfl,rfl,rfl,trivial⟩),hm,by omega,hR'⟩
  ·have hR':=resF_miss hR (by rw[hg1];exact fun h=>h1 h.1)
   repeat(first|(refine ovR_ ?_;clear hs a;intro a hs)|((with_reducible apply lCons);first|(refine dv hs gw_ rfl rfl da_ ?_;clear hs hm a;rintro _ w ⟨g,rfl,-,hm⟩ a hs)|(refine stn hs rfl rfl ds_ ?_;clear hs hm a;rintro-w hm a hs))|refine sc_ ?_)
   exact⟨k+1,by omega,hs.sub (Has.all ⟨rfl,rfl,rfl,rfl,rfl,rfl,trivial⟩),hm,by omega,hR'⟩
 ·obtain rfl:k=n:=by omega
  rw[hR]
  repeat(first|(refine ovR_ ?_;clear hs a;intro a hs)|((with_reducible apply lCons);first|(refine dv hs gw_ rfl rfl da_ ?_;clear hs hm a;rintro _ w ⟨g,rfl,-,hm⟩ a hs)|(refine stn hs rfl rfl ds_ ?_;clear hs hm a;rintro-w hm a hs))|refine sc_ ?_)
  exact gRetN tab hs rfl (.cons (.cells rfl rfl rfl rfl (hm.ro (k:=0) (n:=2) mem_ (cutF_ok rfl))) (.cons (.tmp rfl) .nil)) ⟨rfl,hm.fr⟩
def clV(t v:Int):Value:= .agg #[.int .u8 t,.int .u16 v]
theorem flg_c(b:Bool)(w:World):Ret Tryz.prog 74 [.bool b] w (fun u w'=>u=clV 0 (if b then 1 else 0)∧Pu w w'):=by
 unfold clV at*
 cases b
 ·refine enterR Tryz.func74 rfl rfl rfl fun a hs hm=>?_
  repeat(first|(refine ovR_ ?_;clear hs a;intro a hs)|((with_reducible apply lCons);first|(refine dv hs gw_ rfl rfl da_ ?_;clear hs hm a;rintro _ w ⟨g,rfl,-,hm⟩ a hs)|(refine stn hs rfl rfl ds_ ?_;clear hs hm a;rintro-w hm a hs))|refine sc_ ?_)
  exact gRetN tab hs rfl (.cons (.cells rfl rfl rfl rfl (hm.ro (k:=0) (n:=2) mem_ (cutF_ok rfl))) .nil) ⟨rfl,hm.fr⟩
 ·refine enterR Tryz.func74 rfl rfl rfl fun a hs hm=>?_
  repeat(first|(refine ovR_ ?_;clear hs a;intro a hs)|((with_reducible apply lCons);first|(refine dv hs gw_ rfl rfl da_ ?_;clear hs hm a;rintro _ w ⟨g,rfl,-,hm⟩ a hs)|(refine stn hs rfl rfl ds_ ?_;clear hs hm a;rintro-w hm a hs))|refine sc_ ?_)
  exact gRetN tab hs rfl (.cons (.cells rfl rfl rfl rfl (hm.ro (k:=0) (n:=2) mem_ (cutF_ok rfl))) .nil) ⟨rfl,hm.fr⟩
structure LS where
 A:Option Addr
 n:Nat
 c:Nat
 bs:List Int
 key:Int
 B:Option Addr
 d:Nat
 ss:List Int
def LS.l(x:LS):Value:= .agg #[.slice x.A x.n x.c,.int .u16 x.key]
def LS.s(x:LS):Value:= .slice x.B x.n x.d
structure LS.ok(x:LS)(w:World):Prop where
 bl:x.bs.length=x.n
 sl:x.ss.length=x.n
 br:Rd w w.heap.size x.A (ints x.bs)
 sr:Rd w w.heap.size x.B (ints x.ss)
 b:∀y∈x.bs,0≤y∧y≤1000000
 s:∀y∈x.ss,1≤y∧y≤32
 n:x.n≤4
theorem LS.ok.pu{x:LS}{w w':World}(h:x.ok w)(hf:Pu w w'):x.ok w':=⟨h.bl,h.sl,hf.rd' h.br,hf.rd' h.sr,h.b,h.s,h.n⟩
def adrF(x:LS)(r o:Int):Int × Int:=if insF x.ss r o=true then(x.bs.getD r.toNat 0+o,0)else(0,6)
theorem resF_at{bs ss:List Int}{a:Int}{r:Nat}{o:Int}:∀{k:Nat},resF bs ss a k=some (r,o)→r<k∧o=a-bs.getD r 0∧0≤o∧o<ss.getD r 0
 |0,h=>by cases h
 |k+1,h=>by
  have h':(match resF bs ss a k with
   |some p=>some p
   |none=>if bs.getD k 0≤a∧a-bs.getD k 0<ss.getD k 0 then some (k,a-bs.getD k 0)else none)=some (r,o):=h
  cases hk:resF bs ss a k with
  |some p=>
   rw[hk]at h'
   obtain rfl:=Option.some.inj h'
   have:=resF_at hk
   exact⟨by omega,this.2⟩
  |none=>
   rw[hk]at h'
   dsimp only at h'
   split at h'
   ·rename_i hc
    obtain⟨rfl,rfl⟩:=Prod.mk.inj (Option.some.inj h')
    exact⟨by omega,rfl,by omega,hc.2⟩
   ·cases h'
def movF(x:LS)(t v k:Int)(back:Bool):(Int × Int) × Int:=
 if t=1 then match resF x.bs x.ss v x.n with
  |none=>((0,0),4)
  |some (r,o)=>if insF x.ss (r:Int) (if back then o+-k else o+k)=true then((1,IntKind.u16.wrap (x.bs.getD r 0+(if back then o+-k else o+k))),0)else((0,0),4)
 else((0,0),3)
theorem wrapS{v:Int}(h:0≤v∧v≤65535):IntKind.i64.wrap v=v:=by simp[IntKind.wrap,IntKind.bits,IntKind.signed];omega
theorem LS.ok.rrsv{x:LS}{w:World}(hx:x.ok w){v:Int}(hv:0≤v∧v≤65535)(w'':World)(hf:Pu w w''):Ret Tryz.prog 71 [x.l,x.s,.int .i64 (IntKind.i64.wrap v)] w'' (fun u w'=>u=rsvV (resF x.bs x.ss v x.n)∧Pu w'' w'):=by
 rw[wrapS hv]
 exact rrsv_c x.A x.n x.c x.bs x.key x.B x.d x.ss v w'' hx.bl hx.sl (hf.rd' hx.br) (hf.rd' hx.sr) hx.b hx.s hv (by have:=hx.n;omega)
theorem LS.ok.off{x:LS}{w:World}(hx:x.ok w){v:Int}{r:Nat}{o:Int}(h:resF x.bs x.ss v x.n=some (r,o)):r<x.n∧0≤o∧o≤32∧o=v-x.bs.getD r 0:=by
 obtain⟨h1,h2,h3,h4⟩:=resF_at h
 have hl:=hx.sl
 have hs:=hx.s (x.ss[r]'(by omega)) (List.getElem_mem _)
 rw[getI (by omega)]at h4
 exact⟨h1,h3,by omega,h2⟩
def aptF(x:LS)(v u:Int):Option ((Nat × Int) × (Nat × Int)):=match resF x.bs x.ss v x.n with
 |none=>none
 |some p=>match resF x.bs x.ss u x.n with
  |none=>none
  |some q=>if p.1=q.1 then some (p,q)else none
theorem aptF_bd{x:LS}{w:World}{v u:Int}{p q:Nat × Int}(hx:x.ok w)(h:aptF x v u=some (p,q)):p.1=q.1∧p.2=v-x.bs.getD p.1 0∧q.2=u-x.bs.getD q.1 0∧0≤p.2∧p.2≤32∧0≤q.2∧q.2≤32:=by
 unfold aptF at h
 cases h1:resF x.bs x.ss v x.n with
 |none=>rw[h1]at h;cases h
 |some p'=>
  cases h2:resF x.bs x.ss u x.n with
  |none=>rw[h1,h2]at h;cases h
  |some q'=>
   rw[h1,h2]at h
   dsimp only at h
   split at h
   ·rename_i he
    obtain⟨rfl,rfl⟩:=Prod.mk.inj (Option.some.inj h)
    have a:=hx.off h1
    have b:=hx.off h2
    exact⟨he,a.2.2.2,b.2.2.2,a.2.1,a.2.2.1,b.2.1,b.2.2.1⟩
   ·cases h
theorem ovXLay50_{G H:Prop}(k:H)(s:H→G:=by intro k;(with_reducible refine toL hm ?_);first|exact oneV hs gw_ rfl rfl (by intro w hm;(first|exact kvR_|exact kb2_)) k|exact oneN hs rfl rfl rfl rfl rfl rfl rfl k|exact oneU hs rfl rfl rfl rfl rfl rfl k):G:=s k
def cnV(t v r o:Int):Value:= .agg #[.int .u8 t,.int .u16 v,.int .i64 r,.int .i64 o]
def prpF(ss:List Int)(t v r o:Int):Bool:=if t=1 then decide (v=0)&&insF ss r o else decide (r=0)&&decide (o=0)
theorem rprp_c(x:LS)(t v r o:Int)(w:World)(hx:x.ok w)(ht:t=0∨t=1∨t=2):
  Ret Tryz.prog 61 [x.s,cnV t v r o] w (fun u w'=>u= .bool (prpF x.ss t v r o)∧Pu w w'):=by
 have hin:=fun w'' (hf:Pu w w'')=>rins_c x.B x.n x.d x.ss r o w'' hx.sl (hf.rd' hx.sr)
 unfold LS.s cnV prpF
 rcases ht with rfl|rfl|rfl
 ·rw[if_neg (by omega)]
  by_cases h1:r=0
  ·by_cases h2:o=0
   ·rw[decide_eq_true h1,decide_eq_true h2]
    refine enterR Tryz.func61 rfl rfl rfl fun a hs hm=>?_
    repeat(first|(refine ovR_ ?_;clear hs a;intro a hs)|((with_reducible apply lCons);first|(refine dv hs gw_ rfl rfl da_ ?_;clear hs hm a;rintro _ w ⟨g,rfl,-,hm⟩ a hs)|(refine stn hs rfl rfl ds_ ?_;clear hs hm a;rintro-w hm a hs))|refine sc_ ?_)
    exact gRet1 hs rfl rfl ⟨rfl,hm.fr⟩
   ·rw[decide_eq_true h1,decide_eq_false h2]
    refine enterR Tryz.func61 rfl rfl rfl fun a hs hm=>?_
    repeat(first|(refine ovR_ ?_;clear hs a;intro a hs)|((with_reducible apply lCons);first|(refine dv hs gw_ rfl rfl da_ ?_;clear hs hm a;rintro _ w ⟨g,rfl,-,hm⟩ a hs)|(refine stn hs rfl rfl ds_ ?_;clear hs hm a;rintro-w hm a hs))|refine sc_ ?_)
    exact gRet1 hs rfl rfl ⟨rfl,hm.fr⟩
  ·rw[decide_eq_false h1]
   refine enterR Tryz.func61 rfl rfl rfl fun a hs hm=>?_
   repeat(first|(refine ovR_ ?_;clear hs a;intro a hs)|((with_reducible apply lCons);first|(refine dv hs gw_ rfl rfl da_ ?_;clear hs hm a;rintro _ w ⟨g,rfl,-,hm⟩ a hs)|(refine stn hs rfl rfl ds_ ?_;clear hs hm a;rintro-w hm a hs))|refine sc_ ?_)
   exact gRet1 hs rfl rfl ⟨rfl,hm.fr⟩
 ·rw[if_pos rfl]
  by_cases h1:v=0
  ·rw[decide_eq_true h1]
   refine enterR Tryz.func61 rfl rfl rfl fun a hs hm=>?_
   repeat(first|(refine ovR_ ?_;clear hs a;intro a hs)|((with_reducible apply lCons);first|(refine dv hs gw_ rfl rfl da_ ?_;clear hs hm a;rintro _ w ⟨g,rfl,-,hm⟩ a hs)|(refine stn hs rfl rfl ds_ ?_;clear hs hm a;rintro-w hm a hs)|(refine dvc hs hm gw_ rfl rfl rfl rfl rfl (pl 72 rfl) (hin _ hm.fr) ?_;clear hs hm a;intro w hm a hs))|refine sc_ ?_)
   exact gRet1 hs rfl rfl ⟨rfl,hm.fr⟩
  ·rw[decide_eq_false h1]
   refine enterR Tryz.func61 rfl rfl rfl fun a hs hm=>?_
   repeat(first|(refine ovR_ ?_;clear hs a;intro a hs)|((with_reducible apply lCons);first|(refine dv hs gw_ rfl rfl da_ ?_;clear hs hm a;rintro _ w ⟨g,rfl,-,hm⟩ a hs)|(refine stn hs rfl rfl ds_ ?_;clear hs hm a;rintro-w hm a hs))|refine sc_ ?_)
   exact gRet1 hs rfl rfl ⟨rfl,hm.fr⟩
 ·rw[if_neg (by omega)]
  by_cases h1:r=0
  ·by_cases h2:o=0
   ·rw[decide_eq_true h1,decide_eq_true h2]
    refine enterR Tryz.func61 rfl rfl rfl fun a hs hm=>?_
    repeat(first|(refine ovR_ ?_;clear hs a;intro a hs)|((with_reducible apply lCons);first|(refine dv hs gw_ rfl rfl da_ ?_;clear hs hm a;rintro _ w ⟨g,rfl,-,hm⟩ a hs)|(refine stn hs rfl rfl ds_ ?_;clear hs hm a;rintro-w hm a hs))|refine sc_ ?_)
    exact gRet1 hs rfl rfl ⟨rfl,hm.fr⟩
   ·rw[decide_eq_true h1,decide_eq_false h2]
    refine enterR Tryz.func61 rfl rfl rfl fun a hs hm=>?_
    repeat(first|(refine ovR_ ?_;clear hs a;intro a hs)|((with_reducible apply lCons);first|(refine dv hs gw_ rfl rfl da_ ?_;clear hs hm a;rintro _ w ⟨g,rfl,-,hm⟩ a hs)|(refine stn hs rfl rfl ds_ ?_;clear hs hm a;rintro-w hm a hs))|refine sc_ ?_)
    exact gRet1 hs rfl rfl ⟨rfl,hm.fr⟩
  ·rw[decide_eq_false h1]
   refine enterR Tryz.func61 rfl rfl rfl fun a hs hm=>?_
   repeat(first|(refine ovR_ ?_;clear hs a;intro a hs)|((with_reducible apply lCons);first|(refine dv hs gw_ rfl rfl da_ ?_;clear hs hm a;rintro _ w ⟨g,rfl,-,hm⟩ a hs)|(refine stn hs rfl rfl ds_ ?_;clear hs hm a;rintro-w hm a hs))|refine sc_ ?_)
   exact gRet1 hs rfl rfl ⟨rfl,hm.fr⟩
def rawF(x:LS)(t v r o:Int):(Int × Int) × Int:=
 if prpF x.ss t v r o=true then
  if t=0 then((0,v),0)else if t=2 then((2,IntKind.u16.wrap (v+x.key)),0)else((1,IntKind.u16.wrap (x.bs.getD r.toNat 0+o)),0)
 else((0,0),1)
theorem raw_c(x:LS)(t v r o:Int)(w:World)(hx:x.ok w)(ht:t=0∨t=1∨t=2):
  Ret Tryz.prog 63 [x.l,x.s,cnV t v r o] w (fun u w'=>u= .tuple #[clV (rawF x t v r o).1.1 (rawF x t v r o).1.2,.int .i64 (rawF x t v r o).2]∧Pu w w'):=by
 have hpr:=fun w'' (hf:Pu w w'')=>rprp_c x t v r o w'' (hx.pu hf) ht
 generalize hR:rawF x t v r o=R
 unfold rawF at hR
 unfold LS.l LS.s cnV clV at*
 cases hp:prpF x.ss t v r o
 ·rw[hp]at hpr hR
  rw[if_neg (show¬false=true by simp)]at hR
  subst hR
  refine enterR Tryz.func63 rfl rfl rfl fun a hs hm=>?_
  repeat(first|(refine ovXLay50_ ?_;clear hs a;intro a hs)|((with_reducible apply lCons);first|(refine dv hs gw_ rfl rfl da_ ?_;clear hs hm a;rintro _ w ⟨g,rfl,-,hm⟩ a hs)|(refine stn hs rfl rfl ds_ ?_;clear hs hm a;rintro-w hm a hs)|(refine dvc hs hm gw_ rfl rfl rfl rfl rfl (pl 61 rfl) (hpr _ hm.fr) ?_;clear hs hm a;intro w hm a hs))|refine sc_ ?_)
  exact gRetN tab hs rfl (.cons (.cells rfl rfl rfl rfl (hm.ro (k:=0) (n:=2) mem_ (cutF_ok rfl))) (.cons (.tmp rfl) .nil)) ⟨rfl,hm.fr⟩
 ·rw[hp]at hpr hR
  rw[if_pos (show true=true from rfl)]at hR
  rcases ht with rfl|rfl|rfl
  ·rw[if_pos rfl]at hR
   subst hR
   refine enterR Tryz.func63 rfl rfl rfl fun a hs hm=>?_
   repeat(first|(refine ovXLay50_ ?_;clear hs a;intro a hs)|((with_reducible apply lCons);first|(refine dv hs gw_ rfl rfl da_ ?_;clear hs hm a;rintro _ w ⟨g,rfl,-,hm⟩ a hs)|(refine stn hs rfl rfl ds_ ?_;clear hs hm a;rintro-w hm a hs)|(refine dvc hs hm gw_ rfl rfl rfl rfl rfl (pl 61 rfl) (hpr _ hm.fr) ?_;clear hs hm a;intro w hm a hs))|refine sc_ ?_)
   exact gRetN tab hs rfl (.cons (.cells rfl rfl rfl rfl (hm.ro (k:=0) (n:=2) mem_ (cutF_ok rfl))) (.cons (.tmp rfl) .nil)) ⟨rfl,hm.fr⟩
  ·rw[if_neg (by omega),if_neg (by omega)]at hR
   subst hR
   unfold prpF at hp
   rw[if_pos rfl,Bool.and_eq_true]at hp
   obtain⟨i1,i2,i3,i4⟩:=insF_t.1 hp.2
   have hbl:=hx.bl
   have hsl:=hx.sl
   obtain⟨k,rfl⟩:∃k:Nat,r=(k:Int):=⟨r.toNat,by omega⟩
   rw[Int.toNat_natCast]at i4 ⊢
   obtain⟨b1,o1,hA,hb1,r1⟩:=hx.br.ro (by rw[ints_len];omega)
   have e1:=ints_some (xs:=x.bs) (k:=k) (by omega)
   have hg1:=getI (l:=x.bs) (k:=k) (by omega)
   have hg2:=getI (l:=x.ss) (k:=k) (by omega)
   have hbk:=hx.b x.bs[k] (List.getElem_mem (by omega))
   have hsk:=hx.s x.ss[k] (List.getElem_mem (by omega))
   rw[hg2]at i4
   rw[hg1]
   rw[hA]
   generalize x.bs[k]'(_)=bk at*
   generalize x.ss[k]'(_)=sk at*
   refine enterR Tryz.func63 rfl rfl rfl fun a hs hm=>?_
   repeat(first|(refine ovXLay50_ ?_;clear hs a;intro a hs)|((with_reducible apply lCons);first|(refine dv hs gw_ rfl rfl da_ ?_;clear hs hm a;rintro _ w ⟨g,rfl,-,hm⟩ a hs)|(refine stn hs rfl rfl ds_ ?_;clear hs hm a;rintro-w hm a hs)|(refine dvc hs hm gw_ rfl rfl rfl rfl rfl (pl 61 rfl) (hpr _ hm.fr) ?_;clear hs hm a;intro w hm a hs))|refine sc_ ?_)
   rename_i g3 _ g5 _
   refine cDraw (n:=13) [⟨some g5,95,[.int .u8 1,.int .u16 v,.int .i64 (k:Int),.int .i64 o]⟩,⟨some g3,25,[.slice (some ⟨b1,o1,none⟩) x.n x.c,.int .u16 x.key]⟩] hm rfl rfl ?_
   clear hm
   intro w2 hm
   refine hTake 0 hs rfl (by kernel_rfl) gw_ rfl rfl (by intro w hm;replace hm:Mm _ _ _ w:=hm;(first|exact kvR_|exact kb2_)) (hm.sub sub_) ?_;clear hs a;intro a hs
   refine hTake 1 hs rfl (by kernel_rfl) gw_ rfl rfl (by intro w hm;replace hm:Mm _ _ _ w:=hm;(first|exact kvR_|exact kb2_)) (hm.sub sub_) ?_;clear hs a;intro a hs
   refine hTake 2 hs rfl (by kernel_rfl) gw_ rfl rfl (by intro w hm;replace hm:Mm _ _ _ w:=hm;(first|exact kvR_|exact kb2_)) (hm.sub sub_) ?_;clear hs a;intro a hs
   refine hTake 3 hs rfl (by kernel_rfl) gw_ rfl rfl (by intro w hm;replace hm:Mm _ _ _ w:=hm;(first|exact kvR_|exact kb2_)) (hm.sub sub_) ?_;clear hs a;intro a hs
   refine hTake 4 hs rfl (by kernel_rfl) gw_ rfl rfl (by intro w hm;replace hm:Mm _ _ _ w:=hm;(first|exact kvR_|exact kb2_)) (hm.sub sub_) ?_;clear hs a;intro a hs
   refine hTake 5 hs rfl (by kernel_rfl) gw_ rfl rfl (by intro w hm;replace hm:Mm _ _ _ w:=hm;(first|exact kvR_|exact kb2_)) (hm.sub sub_) ?_;clear hs a;intro a hs
   refine hTake 6 hs rfl (by kernel_rfl) gw_ rfl rfl (by intro w hm;replace hm:Mm _ _ _ w:=hm;(first|exact kvR_|exact kb2_)) (hm.sub sub_) ?_;clear hs a;intro a hs
   refine hTake 7 hs rfl (by kernel_rfl) gw_ rfl rfl (by intro w hm;replace hm:Mm _ _ _ w:=hm;(first|exact kvR_|exact kb2_)) (hm.sub sub_) ?_;clear hs a;intro a hs
   refine hTake 8 hs rfl (by kernel_rfl) gw_ rfl rfl (by intro w hm;replace hm:Mm _ _ _ w:=hm;(first|exact kvR_|exact kb2_)) (hm.sub sub_) ?_;clear hs a;intro a hs
   refine hTake 9 hs rfl (by kernel_rfl) gw_ rfl rfl (by intro w hm;replace hm:Mm _ _ _ w:=hm;(first|exact kvR_|exact kb2_)) (hm.sub sub_) ?_;clear hs a;intro a hs
   refine hTake 10 hs rfl (by kernel_rfl) gw_ rfl rfl (by intro w hm;replace hm:Mm _ _ _ w:=hm;(first|exact kvR_|exact kb2_)) (hm.sub sub_) ?_;clear hs a;intro a hs
   refine hEach [11] (by kernel_rfl) (eDoN hs rfl (Wnt.none rfl) rfl (by exact d_store hs rfl rfl rfl tab rfl rfl rfl rfl hm rep_ rfl) ?_ eNil)
   clear hs hm
   rintro-w5 hm a hs
   refine⟨hm.sub (List.Sublist.cons _ (List.Sublist.refl _)),?_⟩
   refine hTake 12 hs rfl (by kernel_rfl) gw_ rfl rfl (by intro w hm;replace hm:Mm _ _ _ w:=hm;(first|exact kvR_|exact kb2_)) (hm.sub sub_) ?_;clear hs a;intro a hs
   refine hDone (by kernel_rfl) ?_
   repeat(first|(refine ovXLay50_ ?_;clear hs a;intro a hs)|((with_reducible apply lCons);first|(refine dv hs gw_ rfl rfl da_ ?_;clear hs hm a;rintro _ w ⟨g,rfl,-,hm⟩ a hs)|(refine stn hs rfl rfl ds_ ?_;clear hs hm a;rintro-w hm a hs))|refine sc_ ?_)
   exact gRetN tab hs rfl (.cons (.cells rfl rfl rfl rfl (hm.ro (k:=0) (n:=2) mem_ (cutF_ok rfl))) (.cons (.tmp rfl) .nil)) ⟨rfl,hm.fr⟩
  ·rw[if_neg (by omega),if_pos rfl]at hR
   subst hR
   refine enterR Tryz.func63 rfl rfl rfl fun a hs hm=>?_
   repeat(first|(refine ovXLay50_ ?_;clear hs a;intro a hs)|((with_reducible apply lCons);first|(refine dv hs gw_ rfl rfl da_ ?_;clear hs hm a;rintro _ w ⟨g,rfl,-,hm⟩ a hs)|(refine stn hs rfl rfl ds_ ?_;clear hs hm a;rintro-w hm a hs)|(refine dvc hs hm gw_ rfl rfl rfl rfl rfl (pl 61 rfl) (hpr _ hm.fr) ?_;clear hs hm a;intro w hm a hs))|refine sc_ ?_)
   exact gRetN tab hs rfl (.cons (.cells rfl rfl rfl rfl (hm.ro (k:=0) (n:=2) mem_ (cutF_ok rfl))) (.cons (.tmp rfl) .nil)) ⟨rfl,hm.fr⟩
theorem tot_c(A:Option Addr)(n c:Nat)(ss:List Int)(w:World)(hl:ss.length=n)(hr:Rd w w.heap.size A (ints ss))(hs':∀y∈ss,1≤y∧y≤32)(hn:n≤4):
  Ret Tryz.prog 57 [.slice A n c] w (fun v w'=>∃s:Int,v= .int .i64 s∧(n:Int)≤s∧s≤32*n∧Pu w w'):=by
 refine enterR Tryz.func57 rfl rfl rfl fun a hs hm=>?_
 repeat(first|(refine ovR_ ?_;clear hs a;intro a hs)|((with_reducible apply lCons);first|(refine dv hs gw_ rfl rfl da_ ?_;clear hs hm a;rintro _ w ⟨g,rfl,-,hm⟩ a hs)|(refine stn hs rfl rfl ds_ ?_;clear hs hm a;rintro-w hm a hs))|refine sc_ ?_)
 refine cLoop (X:=Nat × Int) (fun x a w'=>Sl Tryz.f57.ntmps [(3,.int .i64 x.2),(6,.slice A n c),(7,.int .i64 (n:Int)),(8,.int .i64 (x.1:Int))] a∧Mm (fun _=>False) w [] w'∧x.1≤n∧(x.1:Int)≤x.2∧x.2≤32*x.1) (fun x=>n-x.1) (0,0) ⟨hs.sub (Has.all ⟨rfl,rfl,rfl,rfl,trivial⟩),hm,Nat.zero_le _,by simp,by simp⟩ ?_
 clear hs hm a
 rintro⟨k,s⟩ a w' ⟨hs,hm,hk,h1,h2⟩
 dsimp only at*
 by_cases hlt:k<n
 ·obtain⟨b1,o1,rfl,hb1,r1⟩:=hr.ro (by rw[ints_len];omega)
  have e1:=ints_some (xs:=ss) (k:=k) (by omega)
  have hsk:=hs' ss[k] (List.getElem_mem (by omega))
  generalize ss[k]'(_)=sk at*
  repeat(first|(refine ovR_ ?_;clear hs a;intro a hs)|((with_reducible apply lCons);first|(refine dv hs gw_ rfl rfl da_ ?_;clear hs hm a;rintro _ w ⟨g,rfl,-,hm⟩ a hs)|(refine stn hs rfl rfl ds_ ?_;clear hs hm a;rintro-w hm a hs))|refine sc_ ?_)
  exact⟨(k+1,s+sk),by dsimp only;omega,hs.sub (Has.all ⟨rfl,rfl,rfl,rfl,trivial⟩),hm,by dsimp only;omega,by dsimp only;omega,by dsimp only;omega⟩
 ·obtain rfl:k=n:=by omega
  repeat(first|(refine ovR_ ?_;clear hs a;intro a hs)|((with_reducible apply lCons);first|(refine dv hs gw_ rfl rfl da_ ?_;clear hs hm a;rintro _ w ⟨g,rfl,-,hm⟩ a hs)|(refine stn hs rfl rfl ds_ ?_;clear hs hm a;rintro-w hm a hs))|refine sc_ ?_)
  exact gRet1 hs rfl rfl ⟨s,rfl,h1,h2,hm.fr⟩
theorem LS.ok.keep{S:Nat→Prop}{x:LS}{w w':World}(hx:x.ok w)(hf:Fr S w w')(hA:∀b o,x.A=some ⟨b,o,none⟩→¬S b)(hB:∀b o,x.B=some ⟨b,o,none⟩→¬S b):x.ok w':=
 ⟨hx.bl,hx.sl,rdD hf hx.br hA,rdD hf hx.sr hB,hx.b,hx.s,hx.n⟩
structure LS.ne(x:LS)(g:Nat):Prop where
 a:∀b o,x.A=some ⟨b,o,none⟩→b≠g
 b:∀b o,x.B=some ⟨b,o,none⟩→b≠g
theorem LS.ok.dk{x:LS}{w w':World}{g:Nat}{A:Option Addr}{n c a0:Nat}{M:List Hp}(hx:x.ok w)(hn:x.ne g)(hm:Mm (own [dk g A n c a0]) w M w'):x.ok w':=
 hx.keep hm.fr (fun b o e hw=>hn.a b o e (Option.some.inj (own_dk hw)).symm) (fun b o e hw=>hn.b b o e (Option.some.inj (own_dk hw)).symm)
theorem u16_bd(y:Int):0≤IntKind.u16.wrap y∧IntKind.u16.wrap y≤65535:=by simp[IntKind.wrap,IntKind.bits,IntKind.signed];omega
theorem rawF_t(x:LS)(t v r o:Int):(rawF x t v r o).1.1=0∨(rawF x t v r o).1.1=1∨(rawF x t v r o).1.1=2:=by
 unfold rawF
 split
 ·split
  ·exact .inl rfl
  ·split
   ·exact .inr (.inr rfl)
   ·exact .inr (.inl rfl)
 ·exact .inl rfl
theorem rawF_v(x:LS)(t v r o:Int)(hv:0≤v∧v≤65535):0≤(rawF x t v r o).1.2∧(rawF x t v r o).1.2≤65535:=by
 unfold rawF
 split
 ·split
  ·exact hv
  ·split
   ·exact u16_bd _
   ·exact u16_bd _
 ·exact⟨by show(0:Int)≤0;omega,by show(0:Int)≤65535;omega⟩
structure SzX where
 m:Nat
 at_:Nat
 ss:List Int
 g:Nat
 c:Nat
 cs:List Value
theorem ints_snoc'(xs:List Int)(x:Int):ints xs++[.int .i64 x]=ints (xs++[x]):=by simp[ints]
theorem szcell(r:Nat)(h:r<3):∃m:Int,6≤m∧m≤32∧([.int .i64 6,.int .i64 12,.int .i64 32]:List Value)[r]?=some (.int .i64 m):=by
 rcases(by omega:r=0∨r=1∨r=2)with rfl|rfl|rfl
 ·exact⟨6,by omega,by omega,rfl⟩
 ·exact⟨12,by omega,by omega,rfl⟩
 ·exact⟨32,by omega,by omega,rfl⟩
structure SzOk(ss:List Int):Prop where
 one:1≤ss.length
 four:ss.length≤4
 bd:∀y∈ss,1≤y∧y≤32
theorem siz_c(gd:Nat)(A:Option Addr)(n c at_:Nat)(xs:List Int)(wB:World)(h:Dk gd A n c at_ xs wB):
  Ret Tryz.prog 77 [pt gd] wB (fun u w'=>∃(g m cc:Nat)(ss:List Int),u= .slice (some ⟨g,0,none⟩) m cc∧ss.length=m∧SzOk ss∧Rd w' w'.heap.size (some ⟨g,0,none⟩) (ints ss)∧wB.heap.size≤g∧DkR gd A n c xs wB w'):=by
 refine enterR Tryz.func77 rfl rfl rfl fun a hs hm=>?_
 clear hm
 have hm:=h.in_
 have hlt:=Hp.lt h.sat (g:=gd) rfl
 repeat(first|(refine ov_ ?_;clear hs a;intro a hs)|((with_reducible apply lCons);first|(refine dv hs gw_ rfl rfl da_ ?_;clear hs hm a;rintro _ w ⟨g,rfl,-,hm⟩ a hs)|(refine stn hs rfl rfl ds_ ?_;clear hs hm a;rintro-w hm a hs))|refine sc_ ?_)
 refine st hs rfl rfl rfl (d_call hs rfl rfl rfl (pl 21 rfl) ((nxt_c gd A n c _ xs 9 _ (h.now hm mem_) (by omega) (by omega)))) ?_;clear hs a;rintro _ w1 ⟨r1,rfl,b1,a1,k1,hf⟩ a hs
 replace hm:=hm.dkt rep_ k1 hf
 clear hf
 repeat(first|(refine ov_ ?_;clear hs a;intro a hs)|((with_reducible apply lCons);first|(refine dv hs gw_ rfl rfl da_ ?_;clear hs hm a;rintro _ w ⟨g,rfl,-,hm⟩ a hs)|(refine stn hs rfl rfl ds_ ?_;clear hs hm a;rintro-w hm a hs))|refine sc_ ?_)
 rename Nat=>g0
 refine st hs rfl rfl rfl (d_call hs rfl rfl rfl (pl 21 rfl) ((nxt_c gd A n c _ xs 4 _ (h.now hm mem_) (by omega) (by omega)))) ?_;clear hs a;rintro _ w1 ⟨r2,rfl,b2,a2,k2,hf⟩ a hs
 replace hm:=hm.dkt rep_ k2 hf
 clear hf
 repeat(first|(refine ov_ ?_;clear hs a;intro a hs)|((with_reducible apply lCons);first|(refine dv hs gw_ rfl rfl da_ ?_;clear hs hm a;rintro _ w ⟨g,rfl,-,hm⟩ a hs)|(refine stn hs rfl rfl ds_ ?_;clear hs hm a;rintro-w hm a hs))|refine sc_ ?_)
 refine cLoop (X:=SzX) (fun x a w'=>Sl Tryz.f77.ntmps [(0,pt gd),(3,slv (some x.g) x.ss.length x.c),(4,.int .i64 (x.m:Int))] a∧Mm (own [dk gd A n c at_]) wB [⟨some x.g,3,x.cs⟩,dk gd A n c x.at_] w'∧Row (some x.g) x.ss.length x.c 1 (ints x.ss) x.cs∧1≤x.ss.length∧x.ss.length+x.m≤4∧∀y∈x.ss,1≤y∧y≤32) (fun x=>x.m) ⟨r2,a2,[4+(r1:Int)],g0,1,[.int .i64 (4+(r1:Int))]⟩ ⟨hs.sub (Has.all ⟨rfl,rfl,rfl,trivial⟩),hm,⟨(fun e=>by cases e),Nat.le_refl _,by dsimp only;unfold maxLen;omega,rfl,rfl,rfl⟩,Nat.le_refl _,by show 1+r2≤4;omega,fun y hy=>by rcases List.mem_singleton.1 hy with rfl;omega⟩ ?_
 clear hs hm a
 rintro⟨m,at1,ss,g1,c1,cs⟩ a w' ⟨hs,hm,hr,h1,h4,hbd⟩
 dsimp only at*
 unfold slv at*
 by_cases hm0:0<m
 ·obtain⟨m,rfl⟩:∃k,m=k+1:=⟨m-1,by omega⟩
  repeat(first|(refine ov_ ?_;clear hs a;intro a hs)|((with_reducible apply lCons);first|(refine dv hs gw_ rfl rfl da_ ?_;clear hs hm a;rintro _ w ⟨g,rfl,-,hm⟩ a hs)|(refine stn hs rfl rfl ds_ ?_;clear hs hm a;rintro-w hm a hs))|refine sc_ ?_)
  rename Nat=>g17
  refine st hs rfl rfl rfl (d_call hs rfl rfl rfl (pl 21 rfl) ((nxt_c gd A n c _ xs 3 _ (h.now hm mem_) (by omega) (by omega)))) ?_;clear hs a;rintro _ w1 ⟨r3,rfl,b3,a3,k3,hf⟩ a hs
  replace hm:=hm.dkt rep_ k3 hf
  clear hf
  obtain⟨z,hz1,hz2,hcell⟩:=szcell r3 (by omega)
  repeat(first|(refine ov_ ?_;clear hs a;intro a hs)|((with_reducible apply lCons);first|(refine dv hs gw_ rfl rfl da_ ?_;clear hs hm a;rintro _ w ⟨g,rfl,-,hm⟩ a hs)|(refine stn hs rfl rfl ds_ ?_;clear hs hm a;rintro-w hm a hs))|refine sc_ ?_)
  refine st hs rfl rfl rfl (d_call hs rfl rfl rfl (pl 21 rfl) ((nxt_c gd A n c _ xs z _ (h.now hm mem_) (by omega) (by omega)))) ?_;clear hs a;rintro _ w1 ⟨r4,rfl,b4,a4,k4,hf⟩ a hs
  replace hm:=hm.dkt rep_ k4 hf
  clear hf
  repeat(first|(refine ov_ ?_;clear hs a;intro a hs)|((with_reducible apply lCons);first|(refine dv hs gw_ rfl rfl da_ ?_;clear hs hm a;rintro _ w ⟨g,rfl,-,hm⟩ a hs)|(refine stn hs rfl rfl ds_ ?_;clear hs hm a;rintro-w hm a hs))|refine sc_ ?_)
  refine dv hs (Wnt.none rfl) rfl rfl (d_append (A:=some g1) (n:=ss.length) (c:=c1) (news:=[.int .i64 (1+(r4:Int))]) hs rfl rfl rfl rfl rfl tab rfl rfl rfl rfl rfl hm mem_ hr rfl (hm.ro (n:=1) (List.Mem.head _) (cutF_ok rfl)) rfl (by show(ss.length+1)*8≤_;omega) (by omega)) ?_
  clear hs
  rintro _ w2 ⟨A',c',cs',rfl,hr2,hM⟩ a hs
  replace hm:=hM _ rep_
  clear hM
  obtain⟨g2,rfl⟩:=hr2.some_ (by omega)
  rw[ints_snoc']at hr2
  repeat(first|(refine ov_ ?_;clear hs a;intro a hs)|((with_reducible apply lCons);first|(refine dv hs gw_ rfl rfl da_ ?_;clear hs hm a;rintro _ w ⟨g,rfl,-,hm⟩ a hs)|(refine stn hs rfl rfl ds_ ?_;clear hs hm a;rintro-w hm a hs))|refine sc_ ?_)
  refine⟨⟨m,a4,ss++[1+(r4:Int)],g2,c',cs'⟩,by dsimp only;omega,?_⟩
  dsimp only
  rw[List.length_append,List.length_singleton]
  refine⟨hs.sub (Has.all ⟨rfl,rfl,rfl,trivial⟩),hm.sub sub_,hr2,by omega,by omega,fun y hy=>?_⟩
  rcases List.mem_append.1 hy with hy|hy
  ·exact hbd y hy
  ·rcases List.mem_singleton.1 hy with rfl;omega
 ·repeat(first|(refine ov_ ?_;clear hs a;intro a hs)|((with_reducible apply lCons);first|(refine dv hs gw_ rfl rfl da_ ?_;clear hs hm a;rintro _ w ⟨g,rfl,-,hm⟩ a hs)|(refine stn hs rfl rfl ds_ ?_;clear hs hm a;rintro-w hm a hs))|refine sc_ ?_)
  refine gRet1 hs rfl rfl ⟨g1,ss.length,c1,ss,rfl,rfl,⟨h1,by omega,hbd⟩,?_,?_,at1,h.now hm mem_,Dk.out hm⟩
  ·exact hm.rd (List.Mem.head _) hr.pfx
  ·rcases hm.ow _ (List.Mem.head _) g1 rfl with h5|h5
   ·exact h5
   ·exact absurd (Option.some.inj (own_dk h5)).symm (fun e=>hm.dj.1 _ (List.Mem.head _) g1 rfl (by rw[e];rfl))
theorem ovXDck90_{G H:Prop}(k:H)(s:H→G:=by intro k;(with_reducible refine toL hm ?_);first|exact oneV hs gw_ rfl rfl (by intro w hm;(first|exact kv_|exact r_quo64 hs rfl rfl rfl (by omega) (by omega)|exact r_quo hs rfl rfl rfl (by omega)|exact r_remH hs rfl rfl rfl (by assumption) (by omega) (by omega)|exact r_rem64 hs rfl rfl rfl (by omega) (by omega)|exact r_rem hs rfl rfl rfl (by omega)|exact kb2_)) k|exact oneN hs rfl rfl rfl rfl rfl rfl rfl k|exact oneU hs rfl rfl rfl rfl rfl rfl k):G:=s k
theorem oqXDck91_{G H:Prop}(k:H)(s:H→G:=by intro k;(with_reducible first|refine toL hm ?_|refine toQ ?_);first|exact oneV hs gw_ rfl rfl (by intro w hm;(first|exact kv_|exact r_quo64 hs rfl rfl rfl (by omega) (by omega)|exact r_quo hs rfl rfl rfl (by omega)|exact r_remH hs rfl rfl rfl (by assumption) (by omega) (by omega)|exact r_rem64 hs rfl rfl rfl (by omega) (by omega)|exact r_rem hs rfl rfl rfl (by omega)|exact kb2_)) k|exact oneN hs rfl rfl rfl rfl rfl rfl rfl k|exact oneU hs rfl rfl rfl rfl rfl rfl k):G:=s k
theorem vld_c(A:Option Addr)(n c:Nat)(ss:List Int)(wB:World)(hl:ss.length=n)(hr:Rd wB wB.heap.size A (ints ss))(ho:SzOk ss):
  Ret Tryz.prog 66 [.slice A n c] wB (fun v w'=>v= .bool true∧Pu wB w'):=by
 obtain⟨o1,o4,obd⟩:=ho
 refine enterR Tryz.func66 rfl rfl rfl fun a hs hm=>?_
 repeat(first|(refine ov_ ?_;clear hs a;intro a hs)|((with_reducible apply lCons);first|(refine dv hs gw_ rfl rfl da_ ?_;clear hs hm a;rintro _ w ⟨g,rfl,-,hm⟩ a hs)|(refine stn hs rfl rfl ds_ ?_;clear hs hm a;rintro-w hm a hs))|refine sc_ ?_)
 refine cLoop (X:=Nat) (fun k a w'=>Sl Tryz.f66.ntmps [(0,.slice A n c),(5,.slice A n c),(6,.int .i64 (n:Int)),(7,.int .i64 (k:Int))] a∧Mm (fun _=>False) wB [] w'∧k≤n) (fun k=>n-k) 0 ⟨hs.sub (Has.all ⟨rfl,rfl,rfl,rfl,trivial⟩),hm,Nat.zero_le _⟩ ?_
 clear hs hm a
 rintro k a w' ⟨hs,hm,hk⟩
 by_cases hlt:k<n
 ·obtain⟨b1,o1',rfl,hb1,r1⟩:=hr.ro (by rw[ints_len];omega)
  have e1:=ints_some (xs:=ss) (k:=k) (by omega)
  have hsk:=obd ss[k] (List.getElem_mem (by omega))
  generalize ss[k]'(_)=sk at*
  repeat(first|(refine oq_ ?_;clear hs a;intro a hs)|((with_reducible apply lCons);first|(refine dv hs gw_ rfl rfl da_ ?_;clear hs hm a;rintro _ w ⟨g,rfl,-,hm⟩ a hs)|(refine stn hs rfl rfl ds_ ?_;clear hs hm a;rintro-w hm a hs))|((with_reducible apply qNil);clear hm;intro w hm)|refine cQ_ ?_|refine sc_ ?_)
  exact⟨k+1,by omega,hs.sub (Has.all ⟨rfl,rfl,rfl,rfl,trivial⟩),hm,by omega⟩
 ·repeat(first|(refine oq_ ?_;clear hs a;intro a hs)|((with_reducible apply lCons);first|(refine dv hs gw_ rfl rfl da_ ?_;clear hs hm a;rintro _ w ⟨g,rfl,-,hm⟩ a hs)|(refine stn hs rfl rfl ds_ ?_;clear hs hm a;rintro-w hm a hs))|((with_reducible apply qNil);clear hm;intro w hm)|refine cQ_ ?_|refine sc_ ?_)
  exact gRet1 hs rfl rfl ⟨rfl,hm.fr⟩
structure MkI(n s k:Nat)(x:Int)(ys ss:List Int):Prop where
 len:ys.length=n
 xb:1≤x∧x≤50+72*(k:Int)
 b:∀y∈ys,0≤y∧y≤480
 below:∀i,i<k→1≤ys.getD ((i+s)%n) 0∧ys.getD ((i+s)%n) 0+ss.getD ((i+s)%n) 0<x
 apart:∀i j,i<k→j<k→i≠j→ys.getD ((i+s)%n) 0+ss.getD ((i+s)%n) 0<ys.getD ((j+s)%n) 0∨ys.getD ((j+s)%n) 0+ss.getD ((j+s)%n) 0<ys.getD ((i+s)%n) 0
theorem MkI.zero(n s:Nat)(x:Int)(ss:List Int)(hx:1≤x∧x≤50):MkI n s 0 x (List.replicate n 0) ss:=
 ⟨by simp,by omega,fun y hy=>by rw[(List.mem_replicate.1 hy).2];omega,fun i hi=>by omega,fun i j hi=>by omega⟩
theorem rot_inj{n s i j:Nat}(hn:n≤4)(hi:i<n)(hj:j<n)(h:(i+s)%n=(j+s)%n):i=j:=by
 rcases(by omega:n=1∨n=2∨n=3∨n=4)with rfl|rfl|rfl|rfl<;>omega
theorem rot_hit{n s r:Nat}(hn:n≤4)(hr:r<n):∃i,i<n∧(i+s)%n=r:=by
 rcases(by omega:n=1∨n=2∨n=3∨n=4)with rfl|rfl|rfl|rfl
 ·exact⟨0,by omega,by omega⟩
 ·exact⟨(r+s)%2,by omega,by omega⟩
 ·exact⟨(r+3-s%3)%3,by omega,by omega⟩
 ·exact⟨(r+4-s%4)%4,by omega,by omega⟩
theorem getD_set{l:List Int}{i j:Nat}{v:Int}(hi:i<l.length):(l.set i v).getD j 0=if i=j then v else l.getD j 0:=by
 simp only[List.getD_eq_getElem?_getD,List.getElem?_set]
 by_cases h:i=j
 ·subst h;simp[hi]
 ·simp[h]
theorem MkI.step{n s k:Nat}{x:Int}{ys ss:List Int}(h:MkI n s k x ys ss)(hn:n≤4)(hk:k<n){v:Int}(hv:x+ss.getD ((k+s)%n) 0<v)(h1:1≤ss.getD ((k+s)%n) 0)(hv2:v≤122+72*(k:Int)):MkI n s (k+1) v (ys.set ((k+s)%n) x) ss:=by
 obtain⟨l1,l2,l3,l4,l5⟩:=h
 have hr:(k+s)%n<ys.length:=by rw[l1];exact Nat.mod_lt _ (by omega)
 have hne:∀i,i<k→(k+s)%n≠(i+s)%n:=fun i hi e=>by have:=rot_inj hn hk (by omega) e;omega
 have hold:∀i,i<k→(ys.set ((k+s)%n) x).getD ((i+s)%n) 0=ys.getD ((i+s)%n) 0:=fun i hi=>by rw[getD_set hr,if_neg (hne i hi)]
 have hnew:(ys.set ((k+s)%n) x).getD ((k+s)%n) 0=x:=by rw[getD_set hr,if_pos rfl]
 refine⟨by rw[List.length_set];exact l1,by omega,fun y hy=>?_,fun i hi=>?_,fun i j hi hj hij=>?_⟩
 ·rcases List.mem_or_eq_of_mem_set hy with h|h
  ·exact l3 y h
  ·omega
 ·by_cases e:i=k
  ·subst e;rw[hnew];omega
  ·rw[hold i (by omega)];have:=l4 i (by omega);omega
 ·by_cases e:i=k
  ·subst e
   rw[hnew,hold j (by omega)]
   have:=l4 j (by omega)
   omega
  ·rw[hold i (by omega)]
   by_cases e2:j=k
   ·subst e2
    rw[hnew]
    have:=l4 i (by omega)
    omega
   ·rw[hold j (by omega)]
    exact l5 i j (by omega) (by omega) hij
structure LS.apt(x:LS):Prop where
 key:0≤x.key∧x.key≤65535
 b:∀r,r<x.n→1≤x.bs.getD r 0∧x.bs.getD r 0≤600
 ap:∀r q,r<x.n→q<x.n→r≠q→x.bs.getD r 0+x.ss.getD r 0≤x.bs.getD q 0∨x.bs.getD q 0+x.ss.getD q 0≤x.bs.getD r 0
theorem MkI.apt{n s:Nat}{v:Int}{ys:List Int}{x:LS}(h:MkI n s n v ys x.ss)(hn:n≤4)(hx:x.n=n)(hb:x.bs=ys)(hk:0≤x.key∧x.key≤65535):x.apt:=by
 subst hb;subst hx
 refine⟨hk,fun r hr=>?_,fun r q hr hq hrq=>?_⟩
 ·obtain⟨i,hi,e⟩:=rot_hit (s:=s) hn hr
  have h1:=h.below i hi
  rw[e]at h1
  have hlt:r<x.bs.length:=by rw[h.len];exact hr
  have h2:=h.b (x.bs[r]) (List.getElem_mem hlt)
  rw[getI hlt]at h1 ⊢
  exact⟨h1.1,by have:=h2.2;omega⟩
 ·obtain⟨i,hi,e⟩:=rot_hit (s:=s) hn hr
  obtain⟨j,hj,e2⟩:=rot_hit (s:=s) hn hq
  have:=h.apart i j hi hj (fun hh=>by subst hh;exact hrq (by rw[←e,←e2]))
  rw[e,e2]at this
  omega
structure LGap(bs ss:List Int):Prop where
 len:bs.length=ss.length
 b:∀r,r<bs.length→0≤bs.getD r 0∧bs.getD r 0+ss.getD r 0≤512
 ap:∀r q,r<bs.length→q<bs.length→r≠q→bs.getD r 0+ss.getD r 0<bs.getD q 0∨bs.getD q 0+ss.getD q 0<bs.getD r 0
theorem MkI.gap{n s:Nat}{v:Int}{ys ss:List Int}(h:MkI n s n v ys ss)(hn:n≤4)(hl:ss.length=n):LGap ys ss:=by
 refine⟨by rw[h.len,hl],fun r hr=>?_,fun r q hr hq hrq=>?_⟩
 ·rw[h.len]at hr
  obtain⟨i,hi,e⟩:=rot_hit (s:=s) hn hr
  have h1:=h.below i hi
  rw[e]at h1
  have:=h.xb
  omega
 ·rw[h.len]at hr hq
  obtain⟨i,hi,e⟩:=rot_hit (s:=s) hn hr
  obtain⟨j,hj,e2⟩:=rot_hit (s:=s) hn hq
  have:=h.apart i j hi hj (fun hh=>by subst hh;exact hrq (by rw[←e,←e2]))
  rwa[e,e2]at this
theorem zrep_ints(n:Nat):zrep n [.int .i64 0]=ints (List.replicate n 0):=by
 induction n with
 |zero=>rfl
 |succ n ih=>rw[zrep,ih];rfl
theorem mke_c(A:Option Addr)(n c:Nat)(ss:List Int)(s:Nat)(wB:World)(hl:ss.length=n)(hr:Rd wB wB.heap.size A (ints ss))(ho:SzOk ss)(hsd:s≤1048576):
  Ret Tryz.prog 87 [.slice A n c,.int .i64 (s:Int)] wB (fun u w'=>∃(gb:Nat)(key:Int)(bs:List Int),u= .tuple #[.agg #[.slice (some ⟨gb,0,none⟩) n n,.int .u16 key],.int .i64 0]∧wB.heap.size≤gb∧Rd w' w'.heap.size (some ⟨gb,0,none⟩) (ints bs)∧(0≤key∧key≤65535)∧(∃v,MkI n s n v bs ss)∧Pu wB w'):=by
 have hvl:=fun w'' (hf:Pu wB w'')=>vld_c A n c ss w'' hl (hf.rd' hr) ho
 obtain⟨o1,o4,obd⟩:=ho
 obtain⟨q1,hq1⟩:∃q:Nat,(s:Int)/(n:Int)=(q:Int):=⟨s/n,by simp⟩
 obtain⟨q2,hq2⟩:∃q:Nat,(s:Int)/(50*(n:Int))=(q:Int):=⟨s/(50*n),by simp⟩
 obtain⟨key,hkey⟩:∃z,IntKind.u16.wrap (40503*(s:Int))=z:=⟨_,rfl⟩
 have hkb:=u16_bd (40503*(s:Int))
 rw[hkey]at hkb
 refine enterR Tryz.func87 rfl rfl rfl fun a hs hm=>?_
 repeat(first|(refine ovXDck90_ ?_;clear hs a;intro a hs)|((with_reducible apply lCons);first|(refine dv hs gw_ rfl rfl (by first|exact da_|exact d_makeSlice hs rfl rfl rfl tab rfl rfl rfl rfl rfl (by omega) rfl hm) ?_;clear hs hm a;rintro _ w ⟨g,rfl,-,hm⟩ a hs)|(refine stn hs rfl rfl ds_ ?_;clear hs hm a;rintro-w hm a hs)|(refine dvc hs hm gw_ rfl rfl rfl rfl rfl (pl 66 rfl) (hvl _ hm.fr) ?_;clear hs hm a;intro w hm a hs))|refine sc_ ?_)
 rw[hkey]at hs hm
 rename_i g4 _ _ _ _
 rename Nat=>g7
 obtain⟨gb,hgb⟩:∃k,k=g:=⟨_,rfl⟩
 subst hgb
 have hz:=zrep_ints n
 rw[hz]at hm
 rw[hq1]at hs
 refine cLoop (X:=Nat × Int × List Int) (fun x a w'=>Sl Tryz.f87.ntmps [(0,.slice A n c),(1,.int .i64 (s:Int)),(4,pt g4),(5,.int .i64 0),(6,.int .i64 (n:Int)),(7,pt g7),(8,.int .i64 x.2.1),(36,.int .i64 (n:Int)),(37,.int .i64 (x.1:Int))] a∧Mm (fun _=>False) wB [⟨some g7,25,[.slice (some ⟨gb,0,none⟩) n n,.int .u16 key]⟩,⟨some gb,3,ints x.2.2⟩,⟨some g4,25,[nS,.int .u16 0]⟩] w'∧x.1≤n∧MkI n s x.1 x.2.1 x.2.2 ss) (fun x=>n-x.1) (0,1+(q1:Int)%50,List.replicate n 0) ⟨hs.sub (Has.all ⟨rfl,rfl,rfl,rfl,rfl,rfl,rfl,rfl,rfl,trivial⟩),hm,Nat.zero_le _,MkI.zero n s _ ss (by dsimp only;omega)⟩ ?_
 clear hs hm a hz
 rintro⟨k,x,ys⟩ a w' ⟨hs,hm,hk,hI⟩
 dsimp only at*
 have hxb:=hI.xb
 by_cases hlt:k<n
 ·obtain⟨r,hrr⟩:∃r,r=(k+s)%n:=⟨_,rfl⟩
  have hr1:((k:Int)+(s:Int))=((k+s:Nat):Int):=by omega
  have hr2:((k+s:Nat):Int)%(n:Int)=(r:Int):=by rw[hrr];simp
  have hrn:r<n:=by rw[hrr];exact Nat.mod_lt _ (by omega)
  obtain⟨b1,o1',rfl,hb1,r1⟩:=hr.ro (by rw[ints_len];omega)
  have e1:=ints_some (xs:=ss) (k:=r) (by omega)
  have hg1:=getI (l:=ss) (k:=r) (by omega)
  have hsk:=obd ss[r] (List.getElem_mem (by omega))
  have hyl:=hI.len
  have hst:∀v,x+ss[r]<v→v≤122+72*(k:Int)→MkI n s (k+1) v (ys.set r x) ss:=fun v h1 h2=>by
   rw[hrr]
   exact hI.step (by omega) hlt (by rw[←hrr,hg1];exact h1) (by rw[←hrr,hg1];exact hsk.1) h2
  generalize ss[r]'(_)=sk at*
  have hyi:r<(ints ys).length:=by rw[ints_len];omega
  repeat(first|(refine oqXDck91_ ?_;clear hs a;intro a hs)|((with_reducible apply lCons);first|(refine dv hs gw_ rfl rfl (by first|exact da_|exact d_makeSlice hs rfl rfl rfl tab rfl rfl rfl rfl rfl (by omega) rfl hm) ?_;clear hs hm a;rintro _ w ⟨g,rfl,-,hm⟩ a hs)|(refine stn hs rfl rfl ds_ ?_;clear hs hm a;rintro-w hm a hs))|((with_reducible apply qNil);clear hm;intro w hm)|refine cQ_ ?_|refine sc_ ?_)
  exact⟨(k+1,x+(sk+1+(q2:Int)%40),ys.set r x),by dsimp only;omega,by rw[hq2]at hs;exact hs.sub (Has.all ⟨rfl,rfl,rfl,rfl,rfl,rfl,rfl,rfl,rfl,trivial⟩),by dsimp only;rw[show ints (ys.set r x)=(ints ys).set r (.int .i64 x) by simp[ints,List.map_set]];exact hm,by dsimp only;omega,hst _ (by dsimp only;omega) (by dsimp only;omega)⟩
 ·obtain rfl:k=n:=by omega
  repeat(first|(refine oqXDck91_ ?_;clear hs a;intro a hs)|((with_reducible apply lCons);first|(refine dv hs gw_ rfl rfl (by first|exact da_|exact d_makeSlice hs rfl rfl rfl tab rfl rfl rfl rfl rfl (by omega) rfl hm) ?_;clear hs hm a;rintro _ w ⟨g,rfl,-,hm⟩ a hs)|(refine stn hs rfl rfl ds_ ?_;clear hs hm a;rintro-w hm a hs))|((with_reducible apply qNil);clear hm;intro w hm)|refine cQ_ ?_|refine sc_ ?_)
  have hgb':=hm.new (R:=[⟨some gb,3,ints ys⟩]) sub_
  exact gRetN tab hs rfl (.cons (.cells rfl rfl rfl rfl (hm.ro (k:=0) (n:=2) mem_ (cutF_ok rfl))) (.cons (.tmp rfl) .nil)) ⟨gb,key,ys,rfl,hgb'.fresh _ (List.Mem.head _) gb rfl,hm.rd (List.Mem.tail _ (List.Mem.head _)) (List.prefix_refl _),hkb,⟨x,hI⟩,hm.fr⟩
theorem rdDk{w w':World}{g:Nat}{A B:Option Addr}{n c a0:Nat}{M:List Hp}{xs:List Value}(hm:Mm (own [dk g A n c a0]) w M w')(h:Rd w w.heap.size B xs)(hne:∀b o,B=some ⟨b,o,none⟩→b≠g):Rd w' w'.heap.size B xs:=
 rdD hm.fr h fun b o e hw=>hne b o e (Option.some.inj (own_dk hw)).symm
structure LyR(x:LS)(B:Option Addr)(m d:Nat)(ss:List Int)(w w':World):Prop where
 n:x.n=m
 d:x.d=d
 B:x.B=B
 ss:x.ss=ss
 ok:x.ok w'
 apt:x.apt
 gap:LGap x.bs x.ss
 new:∀b o,x.A=some ⟨b,o,none⟩→w.heap.size≤b
 cap:x.n≤x.c
theorem mkLS{gb m d:Nat}{key v:Int}{B:Option Addr}{bs ss:List Int}{s:Nat}{w w':World}(hl:ss.length=m)(ho:SzOk ss)(hb:Rd w' w'.heap.size (some ⟨gb,0,none⟩) (ints bs))(hr:Rd w' w'.heap.size B (ints ss))(hk:0≤key∧key≤65535)(hI:MkI m s m v bs ss)(hg:w.heap.size≤gb):
  LyR ⟨some ⟨gb,0,none⟩,m,m,bs,key,B,d,ss⟩ B m d ss w w':=by
 refine⟨rfl,rfl,rfl,rfl,⟨hI.len,hl,hb,hr,fun y hy=>?_,ho.bd,?_⟩,MkI.apt hI (by rw[←hl];exact ho.four) rfl rfl hk,MkI.gap hI (by rw[←hl];exact ho.four) hl,fun b o e=>by cases e;exact hg,Nat.le_refl _⟩
 ·have:=hI.b y hy;omega
 ·show m≤4
  rw[←hl];exact ho.four
theorem Mm.notown{S:Nat→Prop}{w0 w:World}{M:List Hp}{g:Nat}(hm:Mm S w0 M w)(h:w.heap.size≤g):¬own M g:=fun⟨x,hx,e⟩=>by
 have:=Hp.lt (hm.me x hx) e
 omega
theorem lay_c(gd:Nat)(A:Option Addr)(n c at_:Nat)(xs:List Int)(B:Option Addr)(m d:Nat)(ss:List Int)(wB:World)(h:Dk gd A n c at_ xs wB)(hl:ss.length=m)(ho:SzOk ss)(hr:Rd wB wB.heap.size B (ints ss))(hne:∀b o,B=some ⟨b,o,none⟩→b≠gd):
  Ret Tryz.prog 50 [pt gd,.slice B m d] wB (fun u w'=>∃x:LS,u=x.l∧LyR x B m d ss wB w'∧DkR gd A n c xs wB w'):=by
 refine enterR Tryz.func50 rfl rfl rfl fun a hs hm=>?_
 clear hm
 have hm:=h.in_
 repeat(first|(refine ov_ ?_;clear hs a;intro a hs)|((with_reducible apply lCons);first|(refine dv hs gw_ rfl rfl da_ ?_;clear hs hm a;rintro _ w ⟨g,rfl,-,hm⟩ a hs)|(refine stn hs rfl rfl ds_ ?_;clear hs hm a;rintro-w hm a hs))|refine sc_ ?_)
 refine st hs rfl rfl rfl (d_call hs rfl rfl rfl (pl 21 rfl) ((nxt_c gd A n c _ xs 1048576 _ (h.now hm mem_) (by omega) (by omega)))) ?_;clear hs a;rintro _ w1 ⟨s,rfl,hs1,a1,k1,hf⟩ a hs
 replace hm:=hm.dkt rep_ k1 hf
 clear hf
 repeat(first|(refine ov_ ?_;clear hs a;intro a hs)|((with_reducible apply lCons);first|(refine dv hs gw_ rfl rfl da_ ?_;clear hs hm a;rintro _ w ⟨g,rfl,-,hm⟩ a hs)|(refine stn hs rfl rfl ds_ ?_;clear hs hm a;rintro-w hm a hs))|refine sc_ ?_)
 refine st hs rfl rfl rfl (d_call hs rfl rfl rfl (pl 87 rfl) ((mke_c B m d ss s _ hl (rdDk hm hr hne) ho (by omega)))) ?_;clear hs a;rintro _ w2 ⟨gb,key,bs,rfl,hgb,hrb,hkb,⟨v,hI⟩,hf⟩ a hs
 have hle:=hm.fr.size
 have hno:=hm.notown hgb
 replace hm:=hm.pu hf
 clear hf
 have hmB:=hm
 clear hm
 have hm:=hmB.rebase
 rename World=>w3
 repeat(first|(refine ov_ ?_;clear hs a;intro a hs)|((with_reducible apply lCons);first|(refine dv hs gw_ rfl rfl da_ ?_;clear hs hm a;rintro _ w ⟨g,rfl,-,hm⟩ a hs)|(refine stn hs rfl rfl ds_ ?_;clear hs hm a;rintro-w hm a hs))|refine sc_ ?_)
 have hm2:=hmB.trans hm
 have hrb':=rdD hm.fr hrb (fun b o e=>by cases e;exact hno)
 exact gRetN tab hs rfl (.cons (.cells rfl rfl rfl rfl (hm.ro (k:=0) (n:=2) mem_ (cutF_ok rfl))) .nil) ⟨_,rfl,mkLS hl ho hrb' (rdDk hm2 hr hne) hkb hI (Nat.le_trans hle hgb),_,h.now hm2 mem_,Dk.out hm2⟩
end Go.Proofs.YtbjffoojenpmfaaGreat
namespace Go.Proofs.YtbjffoojenpmfaaGreat
end Go.Proofs.YtbjffoojenpmfaaGreat
namespace Go.Proofs.YtbjffoojenpmfaaGreat
open Go.RowKit
structure In where
 op:Int
 a:Int
 b:Int
 c:Int
 m:Int
def inV(i:In):List Value:=[.int .i64 i.op,.int .i64 i.a,.int .i64 i.b,.int .i64 i.c,.int .i64 i.m]
def inA(i:In):Value:= .agg #[.int .i64 i.op,.int .i64 i.a,.int .i64 i.b,.int .i64 i.c,.int .i64 i.m]
theorem inV_len(i:In):(inV i).length=5:=rfl
def jumpB(op:Int):Bool:=decide (18≤op∧op≤21)
def usesF(op:Int):Bool × Bool × Bool × Bool:=
 if op=1∨op=15∨op=19∨op=20∨op=21 then(true,false,false,true)
 else if op=2 then(true,true,false,false)
 else if op=16∨op=17 then(true,true,false,true)
 else if op=18∨op=23 then(false,false,false,true)
 else if op=22 then(true,false,false,false)
 else if op=0∨op=24 then(false,false,false,false)
 else(true,true,true,false)
def u4V(u:Bool × Bool × Bool × Bool):Value:= .agg #[.bool u.1,.bool u.2.1,.bool u.2.2.1,.bool u.2.2.2]
structure InV(i:In)(ns:Int):Prop where
 op:0≤i.op∧i.op≤24
 a:0≤i.a∧i.a<8∧((usesF i.op).1=false→i.a=0)
 b:0≤i.b∧i.b<8∧((usesF i.op).2.1=false→i.b=0)
 c:0≤i.c∧i.c<8∧((usesF i.op).2.2.1=false→i.c=0)
 m:0≤i.m∧i.m≤65535∧((usesF i.op).2.2.2=false→i.m=0)
 lea:i.op=15→i.m<ns
 sys:i.op=23→i.m≤15
theorem uses_c(op:Int)(wB:World):Ret Tryz.prog 97 [.int .i64 op] wB (fun u w'=>u=u4V (usesF op)∧Pu wB w'):=by
 by_cases h1:op=1
 ·subst h1
  refine enterR Tryz.func97 rfl rfl rfl fun a hs hm=>?_
  refine gsce98_ ?_;clear hs hm a;intros;rename_i a hm hs
  exact zb443_
 by_cases h15:op=15
 ·subst h15
  refine enterR Tryz.func97 rfl rfl rfl fun a hs hm=>?_
  refine gsce98_ ?_;clear hs hm a;intros;rename_i a hm hs
  exact zb443_
 by_cases h19:op=19
 ·subst h19
  refine enterR Tryz.func97 rfl rfl rfl fun a hs hm=>?_
  refine gsce98_ ?_;clear hs hm a;intros;rename_i a hm hs
  exact zb443_
 by_cases h20:op=20
 ·subst h20
  refine enterR Tryz.func97 rfl rfl rfl fun a hs hm=>?_
  refine gsce98_ ?_;clear hs hm a;intros;rename_i a hm hs
  exact zb443_
 by_cases h21:op=21
 ·subst h21
  refine enterR Tryz.func97 rfl rfl rfl fun a hs hm=>?_
  refine gsce98_ ?_;clear hs hm a;intros;rename_i a hm hs
  exact zb443_
 by_cases h2:op=2
 ·subst h2
  refine enterR Tryz.func97 rfl rfl rfl fun a hs hm=>?_
  refine gsce98_ ?_;clear hs hm a;intros;rename_i a hm hs
  exact zb443_
 by_cases h16:op=16
 ·subst h16
  refine enterR Tryz.func97 rfl rfl rfl fun a hs hm=>?_
  refine gsce98_ ?_;clear hs hm a;intros;rename_i a hm hs
  exact zb443_
 by_cases h17:op=17
 ·subst h17
  refine enterR Tryz.func97 rfl rfl rfl fun a hs hm=>?_
  refine gsce98_ ?_;clear hs hm a;intros;rename_i a hm hs
  exact zb443_
 by_cases h18:op=18
 ·subst h18
  refine enterR Tryz.func97 rfl rfl rfl fun a hs hm=>?_
  refine gsce98_ ?_;clear hs hm a;intros;rename_i a hm hs
  exact zb443_
 by_cases h23:op=23
 ·subst h23
  refine enterR Tryz.func97 rfl rfl rfl fun a hs hm=>?_
  refine gsce98_ ?_;clear hs hm a;intros;rename_i a hm hs
  exact zb443_
 by_cases h22:op=22
 ·subst h22
  refine enterR Tryz.func97 rfl rfl rfl fun a hs hm=>?_
  refine gsce98_ ?_;clear hs hm a;intros;rename_i a hm hs
  exact zb443_
 by_cases h0:op=0
 ·subst h0
  refine enterR Tryz.func97 rfl rfl rfl fun a hs hm=>?_
  refine gsce98_ ?_;clear hs hm a;intros;rename_i a hm hs
  exact zb443_
 by_cases h24:op=24
 ·subst h24
  refine enterR Tryz.func97 rfl rfl rfl fun a hs hm=>?_
  refine gsce98_ ?_;clear hs hm a;intros;rename_i a hm hs
  exact zb443_
 ·have hu:usesF op=(true,true,true,false):=by unfold usesF;rw[if_neg (by omega),if_neg (by omega),if_neg (by omega),if_neg (by omega),if_neg (by omega),if_neg (by omega)]
  rw[hu]
  refine enterR Tryz.func97 rfl rfl rfl fun a hs hm=>?_
  refine gsce98_ ?_;clear hs hm a;intros;rename_i a hm hs
  exact zb443_
theorem jump_c(op:Int)(wB:World):Ret Tryz.prog 68 [.int .i64 op] wB (fun u w'=>u= .bool (jumpB op)∧Pu wB w'):=by
 by_cases h18:op=18
 ·rw[show jumpB op=true from decide_eq_true (by omega)]
  refine enterR Tryz.func68 rfl rfl rfl fun a hs hm=>?_
  refine gsce98_ ?_;clear hs hm a;intros;rename_i a hm hs
  exact gRet1 hs rfl rfl ⟨rfl,hm.fr⟩
 by_cases h19:op=19
 ·rw[show jumpB op=true from decide_eq_true (by omega)]
  refine enterR Tryz.func68 rfl rfl rfl fun a hs hm=>?_
  refine gsce98_ ?_;clear hs hm a;intros;rename_i a hm hs
  exact gRet1 hs rfl rfl ⟨rfl,hm.fr⟩
 by_cases h20:op=20
 ·rw[show jumpB op=true from decide_eq_true (by omega)]
  refine enterR Tryz.func68 rfl rfl rfl fun a hs hm=>?_
  refine gsce98_ ?_;clear hs hm a;intros;rename_i a hm hs
  exact gRet1 hs rfl rfl ⟨rfl,hm.fr⟩
 by_cases h21:op=21
 ·rw[show jumpB op=true from decide_eq_true (by omega)]
  refine enterR Tryz.func68 rfl rfl rfl fun a hs hm=>?_
  refine gsce98_ ?_;clear hs hm a;intros;rename_i a hm hs
  exact gRet1 hs rfl rfl ⟨rfl,hm.fr⟩
 ·rw[show jumpB op=false from decide_eq_false (by omega)]
  refine enterR Tryz.func68 rfl rfl rfl fun a hs hm=>?_
  refine gsce98_ ?_;clear hs hm a;intros;rename_i a hm hs
  exact gRet1 hs rfl rfl ⟨rfl,hm.fr⟩
theorem li_c(r k:Int)(wB:World):Ret Tryz.prog 80 [.int .i64 r,.int .i64 k] wB (fun u w'=>u=(inA ⟨1,r,0,0,k⟩)∧Pu wB w'):=by
 refine enterR Tryz.func80 rfl rfl rfl fun a hs hm=>?_
 refine gsce98_ ?_;clear hs hm a;intros;rename_i a hm hs
 exact gRetN tab hs rfl (.cons (.cells rfl rfl rfl rfl (hm.ro (k:=0) (n:=5) mem_ (cutF_ok rfl))) .nil) ⟨rfl,hm.fr⟩
theorem mov_c(r k:Int)(wB:World):Ret Tryz.prog 98 [.int .i64 r,.int .i64 k] wB (fun u w'=>u=(inA ⟨2,r,k,0,0⟩)∧Pu wB w'):=by
 refine enterR Tryz.func98 rfl rfl rfl fun a hs hm=>?_
 refine gsce98_ ?_;clear hs hm a;intros;rename_i a hm hs
 exact gRetN tab hs rfl (.cons (.cells rfl rfl rfl rfl (hm.ro (k:=0) (n:=5) mem_ (cutF_ok rfl))) .nil) ⟨rfl,hm.fr⟩
theorem sys_c(k:Int)(wB:World):Ret Tryz.prog 81 [.int .i64 k] wB (fun u w'=>u=inA ⟨23,0,0,0,k⟩∧Pu wB w'):=by
 refine enterR Tryz.func81 rfl rfl rfl fun a hs hm=>?_
 refine gsce98_ ?_;clear hs hm a;intros;rename_i a hm hs
 exact gRetN tab hs rfl (.cons (.cells rfl rfl rfl rfl (hm.ro (k:=0) (n:=5) mem_ (cutF_ok rfl))) .nil) ⟨rfl,hm.fr⟩
end Go.Proofs.YtbjffoojenpmfaaGreat
