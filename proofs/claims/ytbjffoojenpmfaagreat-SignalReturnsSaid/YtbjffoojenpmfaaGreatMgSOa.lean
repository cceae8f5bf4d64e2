/- Texts put together: Lib, Eng, Eng2, Eng3, Eng4, Eng5, Eng6, Eng7, Eng8, Eng9, Eng10, Eng11. -/
import Derived.WalkKit
import Derived.WalkSpells
import Derived.WalkLawsBesides
import Derived.Deep.QuietTactic
import Derived.BigQuiet
import Derived.Lib.Hide
import Derived.Laws.OwnMore
import Derived.Deep.Draws
import Derived.Maps.AppendAt
import Derived.Deep.DeepFit
import Derived.OrdersHeld
import Derived.Deep.LoopGhost
import Derived.Laws.CopyRow
import Derived.Laws.BytesString
import Derived.Deep.Quiet
set_option maxRecDepth 20000
set_option maxHeartbeats 64000000
namespace Go.Proofs.YtbjffoojenpmfaaGreat
open Go.RowKit
def Rd(w:World)(B:Nat)(A:Option Addr)(xs:List Value):Prop:=
 0<xs.length→∃b off,A=some ⟨b,off,none⟩∧b<B∧∀j u,xs[j]?=some u→w.cell? ⟨b,off+j,none⟩=some u
section
variable {w w':World} {B B':Nat} {A:Option Addr} {xs:List Value}
theorem Rd.nil:Rd w B A []:=fun h=>absurd h (by simp)
theorem Rd.keep(h:Rd w B A xs)(hk:∀p:Addr,p.block<B→w'.cell? p=w.cell? p):Rd w' B A xs:=fun hn=>by
 obtain⟨b,off,e,hb,hc⟩:=h hn
 exact⟨b,off,e,hb,fun j u hu=>(hk _ hb).trans (hc j u hu)⟩
theorem Rd.more(h:Rd w B A xs)(hB:B≤B'):Rd w B' A xs:=fun hn=>by
 obtain⟨b,off,e,hb,hc⟩:=h hn
 exact⟨b,off,e,by omega,hc⟩
theorem add_lit(b off k:Nat):(⟨b,off,none⟩:Addr).add k=⟨b,off+k,none⟩:=by unfold Addr.add;split<;>simp_all
theorem Rd.of_add{ad:Addr}(hb:ad.block<B)(hc:∀j u,xs[j]?=some u→w.cell? (ad.add j)=some u):Rd w B (some ad) xs:=fun hn=>by
 have h0:=hc 0 _ (List.getElem?_eq_getElem hn)
 obtain⟨b,off,spot⟩:=ad
 cases spot with
 |none=>exact⟨b,off,rfl,hb,fun j u hu=>by rw[←add_lit];exact hc j u hu⟩
 |some q=>
  exfalso
  simp[Addr.add,World.cell?]at h0
  split at h0<;>simp_all
end
def Blk(w:World)(g:Nat)(t:TypeId)(cs:Array Value):Prop:=w.heap[g]?=some (.cells cs t (0,0))
section
variable {w w':World} {g:Nat} {t:TypeId} {cs:Array Value}
theorem Blk.lt(h:Blk w g t cs):g<w.heap.size:=by
 rcases Nat.lt_or_ge g w.heap.size with hlt|hge
 ·exact hlt
 ·unfold Blk at h;rw[Array.getElem?_eq_none hge]at h;cases h
theorem Blk.cell(h:Blk w g t cs)(i:Nat):w.cell? ⟨g,i,none⟩=cs[i]?:=cell_of_row w g i cs t (0,0) h
theorem Blk.new(w:World)(t:TypeId)(cs:Array Value):Blk (w.alloc (.cells cs t)) w.heap.size t cs:=heap_alloc_new w _
end
def ints(xs:List Int):List Value:=xs.map (Value.int .i64)
theorem ints_len(xs:List Int):(ints xs).length=xs.length:=by simp[ints]
section
variable {P:Program} {f:FuncId} {args:Array Value} {w:World} {n a:Nat} {v:Value}
end
theorem flat_len{α:Type}(f:α→List Value)(s:Nat)(hs:∀a,(f a).length=s)(l:List α):(l.flatMap f).length=l.length*s:=by
 induction l with
 |nil=>simp
 |cons a t ih=>simp[ih,hs,Nat.succ_mul,Nat.add_comm]
theorem flat_get{α:Type}(f:α→List Value)(s:Nat)(hs:∀a,(f a).length=s)(l:List α)(k j:Nat)(hk:k<l.length)(hj:j<s):(l.flatMap f)[k*s+j]?=(f l[k])[j]?:=by
 induction l generalizing k with
 |nil=>simp at hk
 |cons a t ih=>
  cases k with
  |zero=>rw[List.flatMap_cons,List.getElem?_append_left (by rw[hs];omega)];simp
  |succ k=>
   rw[List.flatMap_cons,List.getElem?_append_right (by rw[hs,Nat.succ_mul];omega),hs]
   have e:(k+1)*s+j-s=k*s+j:=by rw[Nat.succ_mul];omega
   rw[e,ih k (by simpa using hk)]
   simp
structure Fr(S:Nat→Prop)(w w':World):Prop where
 os:w'.os=w.os
 tape:w'.tape=w.tape
 output:w'.output=w.output
 size:w.heap.size≤w'.heap.size
 block:∀k,k<w.heap.size→¬S k→w'.heap[k]?=w.heap[k]?
abbrev Pu(w w':World):Prop:=Fr (fun _=>False) w w'
section
variable {S T:Nat→Prop} {w w' w'':World}
theorem Fr.refl(S:Nat→Prop)(w:World):Fr S w w:=⟨rfl,rfl,rfl,Nat.le_refl _,fun _ _ _=>rfl⟩
theorem Fr.then(h:Fr S w w')(k:Fr T w' w'')(hT:∀i,i<w.heap.size→T i→S i):Fr S w w'':=
 ⟨k.os.trans h.os,k.tape.trans h.tape,k.output.trans h.output,Nat.le_trans h.size k.size,fun i hi hn=>(k.block i (Nat.lt_of_lt_of_le hi h.size) (fun t=>hn (hT i hi t))).trans (h.block i hi hn)⟩
theorem Fr.pu(h:Fr S w w')(k:Pu w' w''):Fr S w w'':=h.then k fun _ _ t=>t.elim
theorem Fr.mono(h:Fr T w w')(hT:∀i,i<w.heap.size→T i→S i):Fr S w w':=(Fr.refl S w).then h hT
theorem Fr.alloc(h:Fr S w w')(o:Obj):Fr S w (w'.alloc o):=
 ⟨h.os,h.tape,h.output,Nat.le_trans h.size (by simp),fun i hi hn=>(Below.heap_alloc w' o i (Nat.lt_of_lt_of_le hi h.size)).trans (h.block i hi hn)⟩
theorem Fr.drew(h:Fr S w w'):Fr S w w'.drew:=⟨h.os,h.tape,h.output,h.size,h.block⟩
theorem Fr.below(h:Pu w w'):Below w.heap.size w w':=⟨h.os,h.tape,h.output,h.size,fun k hk=>h.block k hk (fun t=>t.elim)⟩
theorem Fr.cell(h:Fr S w w'){a:Addr}{v:Value}(hc:w.cell? a=some v)(hn:¬S a.block):w'.cell? a=some v:=by
 have hl:a.block<w.heap.size:=by
  rcases Nat.lt_or_ge a.block w.heap.size with hlt|hge
  ·exact hlt
  ·unfold World.cell? at hc;rw[Array.getElem?_eq_none hge]at hc;cases hc
 exact(World.cell?_of_block (h.block _ hl hn)).trans hc
theorem Fr.cl(h:Fr S w w'){b o:Nat}{v:Value}(hc:w.cell? ⟨b,o,none⟩=some v)(hn:¬S b):w'.cell? ⟨b,o,none⟩=some v:=h.cell hc hn
theorem Fr.blk(h:Fr S w w'){g:Nat}{t:TypeId}{cs:Array Value}(hb:Blk w g t cs)(hn:¬S g):Blk w' g t cs:=(h.block g hb.lt hn).trans hb
theorem Fr.rd(h:Fr S w w'){B:Nat}{A:Option Addr}{xs:List Value}(hr:Rd w B A xs)(hB:B≤w.heap.size)(hn:∀i,i<B→¬S i):Rd w' B A xs:=
 hr.keep fun p hp=>World.cell?_of_block (h.block _ (by omega) (hn _ hp))
theorem Fr.rd'(h:Pu w w'){A:Option Addr}{xs:List Value}(hr:Rd w w.heap.size A xs):Rd w' w'.heap.size A xs:=(h.rd hr (Nat.le_refl _) (fun _ _ t=>t)).more h.size
end
section
variable {bs:List (Nat × TypeId × Array Value)} {w w':World}
end
def lk:List (Nat × Value)→Nat→Option Value
 |[],_=>none
 |(k,v)::r,n=>bif Nat.beq k n then some v else lk r n
structure Sl(N:Nat)(L:List (Nat × Value))(a:Act):Prop where
 nd:a.defers=[]
 sz:a.tmps.size=N
 sl:∀k v,lk L k=some v→a.tmps.getD k undef=v
theorem Sl.put{N:Nat}{L:List (Nat × Value)}{a:Act}(h:Sl N L a){d:Nat}(v:Value)(hd:Nat.blt d N=true):Sl N ((d,v)::L) (a.put (some d) v):=by
 have hd':d<N:=by simpa using hd
 refine⟨h.nd,by simp[Act.put,h.sz],fun k u hk=>?_⟩
 simp only[lk]at hk
 by_cases hdk:d=k
 ·subst hdk
  simp only[Nat.beq_refl,cond_true,Option.some.injEq]at hk
  subst hk
  simp[Act.put,Array.getD_eq_getD_getElem?,h.sz,hd']
 ·have hb:Nat.beq d k=false:=by cases e:Nat.beq d k with|true=>exact absurd (Nat.eq_of_beq_eq_true e) hdk|false=>rfl
  rw[hb]at hk
  have:=h.sl k u hk
  simp only[Act.put,Array.getD_eq_getD_getElem?]at this ⊢
  rwa[Array.getElem?_setIfInBounds_ne hdk]
theorem Sl.sub{N:Nat}{L L':List (Nat × Value)}{a:Act}(h:Sl N L a)(hl:∀p∈L',lk L p.1=some p.2):Sl N L' a:=by
 refine⟨h.nd,h.sz,fun k v hk=>h.sl k v ?_⟩
 induction L' with
 |nil=>simp[lk]at hk
 |cons p r ih=>
  obtain⟨k',v'⟩:=p
  simp only[lk]at hk
  cases hb:Nat.beq k' k with
  |true=>
   rw[hb]at hk
   simp only[cond_true,Option.some.injEq]at hk
   have:k'=k:=by simpa using hb
   subst this;subst hk
   exact hl _ (List.mem_cons_self ..)
  |false=>rw[hb]at hk;exact ih (fun p hp=>hl p (List.mem_cons_of_mem _ hp)) hk
def Has(L:List (Nat × Value)):List (Nat × Value)→Prop
 |[]=>True
 |p::r=>lk L p.1=some p.2∧Has L r
theorem Has.all{L L':List (Nat × Value)}(h:Has L L'):∀p∈L',lk L p.1=some p.2:=by
 induction L' with
 |nil=>intro p hp;cases hp
 |cons q r ih=>
  intro p hp
  rcases List.mem_cons.1 hp with rfl|hp
  ·exact h.1
  ·exact ih h.2 p hp
def ev(L:List (Nat × Value)):Operand→Option Value
 | .tmp t=>lk L t
 | .const v=>some v
 | .global g=>some (.pointer (some ⟨g,0,none⟩))
 | .func f=>some (.func (.func f) #[] #[])
theorem Sl.ev{N:Nat}{L:List (Nat × Value)}{a:Act}(h:Sl N L a){x:Operand}{v:Value}(he:ev L x=some v):a.eval x=v:=by
 cases x with
 |tmp t=>exact h.sl t v he
 |const u=>exact Option.some.inj he
 |global g=>exact Option.some.inj he
 |func f=>exact Option.some.inj he
def evs(L:List (Nat × Value)):List Operand→Option (List Value)
 |[]=>some []
 |x::r=>match ev L x with
  |some v=>match evs L r with
   |some vs=>some (v::vs)
   |none=>none
  |none=>none
theorem Sl.evs{N:Nat}{L:List (Nat × Value)}{a:Act}(h:Sl N L a):∀{xs:List Operand}{vs:List Value},evs L xs=some vs→xs.map a.eval=vs
 |[],vs,he=>by simpa[Go.Proofs.YtbjffoojenpmfaaGreat.evs]using he
 |x::r,vs,he=>by
  simp only[Go.Proofs.YtbjffoojenpmfaaGreat.evs]at he
  cases hx:Go.Proofs.YtbjffoojenpmfaaGreat.ev L x with
  |none=>rw[hx]at he;cases he
  |some v=>
   rw[hx]at he
   cases hr:Go.Proofs.YtbjffoojenpmfaaGreat.evs L r with
   |none=>rw[hr]at he;cases he
   |some us=>
    rw[hr]at he
    simp only[Option.some.injEq]at he
    subst he
    simp[h.ev hx,Sl.evs h hr]
structure Hp where
 g:Option Nat
 t:TypeId
 cs:List Value
def Hp.sat(h:Hp)(w:World):Prop:=
 match h.g with
 |none=>h.cs=[]
 |some g=>Blk w g h.t h.cs.toArray
def Apart:List Hp→Prop
 |[]=>True
 |h::r=>(∀x∈r,∀g,h.g=some g→x.g≠some g)∧Apart r
structure Mm(S:Nat→Prop)(w0:World)(M:List Hp)(w:World):Prop where
 me:∀h∈M,h.sat w
 fr:Fr S w0 w
 dj:Apart M
 ow:∀h∈M,∀g,h.g=some g→w0.heap.size≤g∨S g
theorem Hp.lt{h:Hp}{w:World}(hs:h.sat w){g:Nat}(hg:h.g=some g):g<w.heap.size:=by
 unfold Hp.sat at hs
 rw[hg]at hs
 exact hs.lt
theorem Hp.sat_fr{S:Nat→Prop}{w w':World}{h:Hp}(hf:Fr S w w')(hs:h.sat w)(hn:∀g,h.g=some g→¬S g):h.sat w':=by
 unfold Hp.sat at*
 cases hg:h.g with
 |none=>rw[hg]at hs;exact hs
 |some g=>rw[hg]at hs;exact hf.blk hs (hn g hg)
section
variable {S:Nat→Prop} {w0 w w':World} {M:List Hp}
theorem Mm.nil(S:Nat→Prop)(w:World):Mm S w [] w:=⟨fun h hh=>(by cases hh),Fr.refl S w,trivial,fun h hh=>(by cases hh)⟩
theorem Mm.pu(h:Mm S w0 M w)(hf:Pu w w'):Mm S w0 M w':=
 ⟨fun x hx=>Hp.sat_fr hf (h.me x hx) (fun _ _ t=>t),h.fr.pu hf,h.dj,h.ow⟩
theorem Mm.drew(h:Mm S w0 M w):Mm S w0 M w.drew:=h.pu ((Fr.refl _ w).drew)
structure New(w w':World)(R:List Hp):Prop where
 me:∀h∈R,h.sat w'
 dj:Apart R
 fresh:∀h∈R,∀g,h.g=some g→w.heap.size≤g
theorem Apart.append{A B:List Hp}(ha:Apart A)(hb:Apart B)(hab:∀x∈A,∀y∈B,∀g,x.g=some g→y.g≠some g):Apart (A++B):=by
 induction A with
 |nil=>exact hb
 |cons x r ih=>
  refine⟨fun y hy g hg=>?_,ih ha.2 fun z hz=>hab z (List.mem_cons_of_mem _ hz)⟩
  rcases List.mem_append.1 hy with hy|hy
  ·exact ha.1 y hy g hg
  ·exact hab x (List.mem_cons_self ..) y hy g hg
theorem Apart.sub{A B:List Hp}(h:A.Sublist B)(hb:Apart B):Apart A:=by
 induction h with
 |slnil=>trivial
 |cons x _ ih=>exact ih hb.2
 |cons_cons x hs ih=>exact⟨fun y hy=>hb.1 y (hs.subset hy),ih hb.2⟩
theorem Mm.gain(h:Mm S w0 M w)(hf:Pu w w'){R:List Hp}(hn:New w w' R):Mm S w0 (R++M) w':=by
 have h1:=h.pu hf
 refine⟨fun x hx=>?_,h1.fr,hn.dj.append h.dj ?_,fun x hx g hg=>?_⟩
 ·rcases List.mem_append.1 hx with hx|hx
  ·exact hn.me x hx
  ·exact h1.me x hx
 ·intro x hx y hy g hg hg'
  have a1:=hn.fresh x hx g hg
  have a2:=Hp.lt (h.me y hy) hg'
  omega
 ·rcases List.mem_append.1 hx with hx|hx
  ·exact .inl (Nat.le_trans h.fr.size (hn.fresh x hx g hg))
  ·exact h.ow x hx g hg
theorem New.nil(w w':World):New w w' []:=⟨fun h hh=>(by cases hh),trivial,fun h hh=>(by cases hh)⟩
theorem New.alloc(w:World)(t:TypeId)(cs:List Value):New w (w.alloc (.cells cs.toArray t)) [⟨some w.heap.size,t,cs⟩]:=by
 refine⟨fun h hh=>?_,⟨fun x hx=>(by cases hx),trivial⟩,fun h hh g hg=>?_⟩
 ·rcases List.mem_singleton.1 hh with rfl;exact Blk.new w t cs.toArray
 ·rcases List.mem_singleton.1 hh with rfl;cases hg;exact Nat.le_refl _
theorem Mm.alloc(h:Mm S w0 M w)(t:TypeId)(cs:List Value):Mm S w0 (⟨some w.heap.size,t,cs⟩::M) (w.alloc (.cells cs.toArray t)):=
 h.gain ((Fr.refl _ w).alloc _) (New.alloc w t cs)
inductive Rep:List Hp→Hp→Hp→List Hp→Prop
 |head (M:List Hp) (x h:Hp):Rep (x::M) x h (h::M)
 |tail {M M':List Hp} {x h:Hp} (y:Hp) (r:Rep M x h M'):Rep (y::M) x h (y::M')
theorem Rep.mem{M M':List Hp}{x h:Hp}(r:Rep M x h M'):x∈M:=by
 induction r with
 |head=>exact List.mem_cons_self ..
 |tail y r ih=>exact List.mem_cons_of_mem _ ih
theorem Rep.mem'{M M':List Hp}{x h:Hp}(r:Rep M x h M'):∀y∈M',y=h∨y∈M:=by
 induction r with
 |head M x h=>
  intro y hy
  rcases List.mem_cons.1 hy with rfl|hy
  ·exact .inl rfl
  ·exact .inr (List.mem_cons_of_mem _ hy)
 |tail z r ih=>
  intro y hy
  rcases List.mem_cons.1 hy with rfl|hy
  ·exact .inr (List.mem_cons_self ..)
  ·exact(ih y hy).imp id (List.mem_cons_of_mem _)
theorem Rep.others{M M':List Hp}{x h:Hp}(r:Rep M x h M')(hd:Apart M):∃O:List Hp,(∀y∈M',y=h∨y∈O)∧(∀y∈O,y∈M)∧∀y∈O,∀g,x.g=some g→y.g≠some g:=by
 induction r with
 |head M x h=>exact⟨M,fun y hy=>List.mem_cons.1 hy,fun y hy=>List.mem_cons_of_mem _ hy,fun y hy g hg=>hd.1 y hy g hg⟩
 |tail z r ih=>
  obtain⟨O,h1,h2,h3⟩:=ih hd.2
  refine⟨z::O,fun y hy=>?_,fun y hy=>?_,fun y hy g hg=>?_⟩
  ·rcases List.mem_cons.1 hy with rfl|hy
   ·exact .inr (List.mem_cons_self ..)
   ·exact(h1 y hy).imp id (List.mem_cons_of_mem _)
  ·rcases List.mem_cons.1 hy with rfl|hy
   ·exact List.mem_cons_self ..
   ·exact List.mem_cons_of_mem _ (h2 y hy)
  ·rcases List.mem_cons.1 hy with rfl|hy
   ·intro e;exact hd.1 _ r.mem g e hg
   ·exact h3 y hy g hg
theorem Rep.apart{M M':List Hp}{x h:Hp}(r:Rep M x h M')(hd:Apart M)(hx:∀g,h.g=some g→x.g=some g∨∀y∈M,y.g≠some g):Apart M':=by
 induction r with
 |head M x h=>
  refine⟨fun y hy g hg=>?_,hd.2⟩
  rcases hx g hg with h1|h1
  ·exact hd.1 y hy g h1
  ·exact h1 y (List.mem_cons_of_mem _ hy)
 |tail z r ih=>
  refine⟨fun y hy g hg=>?_,ih hd.2 fun g hg=>(hx g hg).imp id fun h1 y hy=>h1 y (List.mem_cons_of_mem _ hy)⟩
  rcases r.mem' y hy with rfl|hy
  ·intro e
   rcases hx g e with h1|h1
   ·exact hd.1 _ r.mem g hg h1
   ·exact h1 z (List.mem_cons_self ..) hg
  ·exact hd.1 y hy g hg
theorem Mm.turn(h:Mm S w0 M w){x y:Hp}{M':List Hp}(r:Rep M x y M')(hf:Fr (fun k=>x.g=some k) w w')(hy:y.sat w')(hg:∀g,y.g=some g→x.g=some g∨w.heap.size≤g):Mm S w0 M' w':=by
 obtain⟨O,h1,h2,h3⟩:=r.others h.dj
 refine⟨fun z hz=>?_,h.fr.then hf fun i hi e=>?_,r.apart h.dj fun g e=>?_,fun z hz g e=>?_⟩
 ·rcases h1 z hz with rfl|hz
  ·exact hy
  ·exact Hp.sat_fr hf (h.me z (h2 z hz)) fun g hg e=>h3 z hz g e hg
 ·rcases h.ow x r.mem i e with h4|h4
  ·omega
  ·exact h4
 ·rcases hg g e with h4|h4
  ·exact .inl h4
  ·refine .inr fun z hz e'=>?_
   have:=Hp.lt (h.me z hz) e'
   omega
 ·rcases r.mem' z hz with rfl|hz
  ·rcases hg g e with h4|h4
   ·exact h.ow x r.mem g h4
   ·exact .inl (Nat.le_trans h.fr.size h4)
  ·exact h.ow z hz g e
theorem Mm.sub(h:Mm S w0 M w){M':List Hp}(hs:M'.Sublist M):Mm S w0 M' w:=
 ⟨fun x hx=>h.me x (hs.subset hx),h.fr,h.dj.sub hs,fun x hx=>h.ow x (hs.subset hx)⟩
theorem apart_iff{M:List Hp}:Apart M↔M.Pairwise (fun x y=>∀g,x.g=some g→y.g≠some g):=by
 induction M with
 |nil=>simp[Apart]
 |cons h r ih=>simp only[Apart,List.pairwise_cons,ih]
theorem Mm.perm(h:Mm S w0 M w){M':List Hp}(hp:M'.Perm M):Mm S w0 M' w:=by
 refine⟨fun x hx=>h.me x (hp.subset hx),h.fr,?_,fun x hx=>h.ow x (hp.subset hx)⟩
 rw[apart_iff]
 refine(hp.pairwise_iff ?_).2 (apart_iff.1 h.dj)
 intro x y hxy g hg hx
 exact hxy g hx hg
theorem Mm.zero(h:Mm S w0 M w)(t:TypeId):Mm S w0 (⟨Option.none,t,[]⟩::M) w:=
 ⟨fun x hx=>by
  rcases List.mem_cons.1 hx with rfl|hx
  ·rfl
  ·exact h.me x hx,h.fr,⟨fun _ _ _ hg=>(by cases hg),h.dj⟩,fun x hx g hg=>by
  rcases List.mem_cons.1 hx with rfl|hx
  ·cases hg
  ·exact h.ow x hx g hg⟩
theorem Mm.at_(h:Mm S w0 M w){g:Nat}{t:TypeId}{cs:List Value}(hm:(⟨some g,t,cs⟩:Hp)∈M)(i:Nat):w.cell? ⟨g,i,none⟩=cs[i]?:=by
 have:=Blk.cell (h.me _ hm) i
 simpa using this
theorem Mm.new{M:List Hp}(h:Mm (fun _=>False) w0 M w){R:List Hp}(hs:R.Sublist M):New w0 w R:=
 ⟨fun x hx=>h.me x (hs.subset hx),h.dj.sub hs,fun x hx g hg=>(h.ow x (hs.subset hx) g hg).resolve_right id⟩
theorem Mm.rd(h:Mm S w0 M w){g:Nat}{t:TypeId}{cs xs:List Value}(hm:(⟨some g,t,cs⟩:Hp)∈M)(hx:xs<+:cs):Rd w w.heap.size (some ⟨g,0,none⟩) xs:=fun hn=>by
 refine⟨g,0,rfl,Hp.lt (h.me _ hm) rfl,fun j u hu=>?_⟩
 rw[Nat.zero_add,h.at_ hm]
 obtain⟨t,rfl⟩:=hx
 rw[List.getElem?_append_left (by rcases Nat.lt_or_ge j xs.length with hlt|hge;exact hlt;rw[List.getElem?_eq_none hge]at hu;cases hu),hu]
end
inductive TD where
 |int (k:IntKind)|bool|str|ptr (e:TypeId)|sl (e:TypeId)|st (fs:List (Nat × TypeId))|arr (n:Nat) (e:TypeId)|fn|oth
def tdOf:TypeDesc→TD
 | .int k=> .int k
 | .bool=> .bool
 | .string=> .str
 | .pointer e=> .ptr e
 | .slice e=> .sl e
 | .struct fs=> .st (fs.toList.map fun f=>(f.offset,f.type))
 | .array n e=> .arr n e
 | .func _ _ _=> .fn
 |_=> .oth
structure TI where
 sz:Nat
 by_:Nat
 z:Value
 d:TD
def TOk(P:Program)(t:TypeId)(x:TI):Prop:=
 (P.info? t).map (fun i=>(i.zero,i.size,i.bytes))=some (some x.z,x.sz,x.by_)∧(P.underlying t).map tdOf=some x.d
def tlk:List (Nat × TI)→Nat→Option TI
 |[],_=>none
 |(k,v)::r,n=>bif Nat.beq k n then some v else tlk r n
def TabOk(P:Program)(T:List (Nat × TI)):Prop:=∀t x,tlk T t=some x→TOk P t x
theorem tabOk{P:Program}:∀{T:List (Nat × TI)},(∀p∈T,TOk P p.1 p.2)→TabOk P T
 |[],_=>fun t x h=>by cases h
 |(k,v)::r,hT=>fun t x h=>by
  simp only[tlk]at h
  cases hb:Nat.beq k t with
  |true=>
   rw[hb]at h
   simp only[cond_true,Option.some.injEq]at h
   have:k=t:=by simpa using hb
   subst this;subst h
   exact hT (k,v) (List.mem_cons_self ..)
  |false=>rw[hb]at h;exact tabOk (fun p hp=>hT p (List.mem_cons_of_mem _ hp)) t x h
def RunV(P:Program)(a:Act)(o:Oper)(w:World)(v:Value):Prop:=(execOp a.eval o).run P w= .ok (.value v) w
theorem beq_dec(n m:Int):(n==m)=decide (n=m):=by
 by_cases h:n=m<;>simp[h]
theorem run_und{P:Program}{t:TypeId}{d:TypeDesc}{w:World}(h:P.underlying t=some d):Sem.run P (underlying t) w= .ok d w:=by
 unfold underlying;simp[go_sem,h]
theorem TOk.und{P:Program}{t:TypeId}{x:TI}(h:TOk P t x):∃d,P.underlying t=some d∧tdOf d=x.d:=by
 have:=h.2;rwa[Option.map_eq_some_iff]at this
theorem TOk.int{P:Program}{t:TypeId}{x:TI}{k:IntKind}(h:TOk P t x)(hd:x.d= .int k):P.underlying t=some (.int k):=by
 obtain⟨d,h1,h2⟩:=h.und
 rw[hd]at h2
 cases d<;>simp[tdOf]at h2
 rw[h1,h2]
theorem TOk.bool{P:Program}{t:TypeId}{x:TI}(h:TOk P t x)(hd:x.d= .bool):P.underlying t=some .bool:=by
 obtain⟨d,h1,h2⟩:=h.und
 rw[hd]at h2
 cases d<;>simp[tdOf]at h2
 exact h1
theorem TOk.sl{P:Program}{t e:TypeId}{x:TI}(h:TOk P t x)(hd:x.d= .sl e):P.underlying t=some (.slice e):=by
 obtain⟨d,h1,h2⟩:=h.und
 rw[hd]at h2
 cases d<;>simp[tdOf]at h2
 rw[h1,h2]
theorem TOk.arr{P:Program}{t e:TypeId}{n:Nat}{x:TI}(h:TOk P t x)(hd:x.d= .arr n e):P.underlying t=some (.array n e):=by
 obtain⟨d,h1,h2⟩:=h.und
 rw[hd]at h2
 cases d<;>simp[tdOf]at h2
 rw[h1,h2.1,h2.2]
theorem TOk.st{P:Program}{t:TypeId}{fs:List (Nat × TypeId)}{x:TI}(h:TOk P t x)(hd:x.d= .st fs):∃gs,P.underlying t=some (.struct gs)∧gs.toList.map (fun f=>(f.offset,f.type))=fs:=by
 obtain⟨d,h1,h2⟩:=h.und
 rw[hd]at h2
 cases d<;>simp[tdOf]at h2
 exact⟨_,h1,h2⟩
def TD.flat:TD→Bool
 | .st _=>false
 | .arr _ _=>false
 |_=>true
theorem run_isAgg{P:Program}{t:TypeId}{x:TI}{w:World}(h:TOk P t x):Sem.run P (isAgg t) w= .ok (!x.d.flat) w:=by
 obtain⟨d,h1,h2⟩:=h.und
 unfold isAgg
 simp only[Sem.run_bind,run_und h1,Result.andThen_ok]
 rw[←h2]
 cases d<;>rfl
theorem TOk.info{P:Program}{t:TypeId}{x:TI}(h:TOk P t x):∃i,P.info? t=some i∧i.zero=some x.z∧i.size=x.sz∧i.bytes=x.by_:=by
 have:=h.1
 rw[Option.map_eq_some_iff]at this
 obtain⟨i,h1,h2⟩:=this
 simp only[Prod.mk.injEq]at h2
 exact⟨i,h1,h2.1,h2.2.1,h2.2.2⟩
theorem run_sizeOf{P:Program}{t:TypeId}{x:TI}{w:World}(h:TOk P t x):Sem.run P (sizeOf t) w= .ok x.sz w:=by
 obtain⟨i,h1,h2,h3,h4⟩:=h.info
 unfold sizeOf typeInfo;simp[go_sem,h1,h3]
theorem run_zero{P:Program}{t:TypeId}{x:TI}{w:World}(h:TOk P t x):Sem.run P (zeroValue t) w= .ok x.z w:=by
 obtain⟨i,h1,h2,h3,h4⟩:=h.info
 unfold zeroValue typeInfo;simp[go_sem,h1,h2]
theorem ediv_wrap64{n m:Int}(h0:0≤n)(h1:n≤9223372036854775807)(h2:0<m):IntKind.i64.wrap (n.tdiv m)=n/m:=by
 rw[Int.tdiv_eq_ediv_of_nonneg h0]
 have h3:0≤n/m:=Int.ediv_nonneg h0 (by omega)
 have h4:n/m≤n:=Int.ediv_le_self _ h0
 simp[IntKind.wrap,IntKind.bits,IntKind.signed];omega
section
variable {P:Program} {T:List (Nat × TI)} {N:Nat} {L:List (Nat × Value)} {a:Act} {w w0:World} {S:Nat→Prop} {M:List Hp} {o:Oper} {x y z:Operand} {v u:Value}
theorem r_move(hs:Sl N L a)(ho:o.op= .move x)(hx:ev L x=some (v)):RunV P a o w (v):=by
 replace hx:=hs.ev hx
 unfold RunV
 generalize a.eval=ρ at*
 unfold execOp
 simp[ho,go_sem,hx]
theorem r_assign(hs:Sl N L a)(ho:o.op= .assign x)(hx:ev L x=some (v)):RunV P a o w (v):=by
 replace hx:=hs.ev hx
 unfold RunV
 generalize a.eval=ρ at*
 unfold execOp
 simp[ho,go_sem,hx]
theorem r_not{t:TypeId}{b:Bool}(hs:Sl N L a)(ho:o.op= .unOp .not t x)(hx:ev L x=some (.bool b)):RunV P a o w (.bool (!b)):=by
 replace hx:=hs.ev hx
 unfold RunV
 generalize a.eval=ρ at*
 unfold execOp
 simp[ho,go_sem,hx]
theorem r_add{t yt:TypeId}{k:IntKind}{n m:Int}(hs:Sl N L a)(ho:o.op= .binOp .add t x y yt)(hx:ev L x=some (.int k n))(hy:ev L y=some (.int k m)):RunV P a o w (.int k (k.wrap (n+m))):=by
 replace hx:=hs.ev hx
 replace hy:=hs.ev hy
 unfold RunV
 generalize a.eval=ρ at*
 unfold execOp
 simp[ho,go_sem,hx,hy]
theorem r_sub{t yt:TypeId}{k:IntKind}{n m:Int}(hs:Sl N L a)(ho:o.op= .binOp .sub t x y yt)(hx:ev L x=some (.int k n))(hy:ev L y=some (.int k m)):RunV P a o w (.int k (k.wrap (n-m))):=by
 replace hx:=hs.ev hx
 replace hy:=hs.ev hy
 unfold RunV
 generalize a.eval=ρ at*
 unfold execOp
 simp[ho,go_sem,hx,hy]
theorem r_mul{t yt:TypeId}{k:IntKind}{n m:Int}(hs:Sl N L a)(ho:o.op= .binOp .mul t x y yt)(hx:ev L x=some (.int k n))(hy:ev L y=some (.int k m)):RunV P a o w (.int k (k.wrap (n*m))):=by
 replace hx:=hs.ev hx
 replace hy:=hs.ev hy
 unfold RunV
 generalize a.eval=ρ at*
 unfold execOp
 simp[ho,go_sem,hx,hy]
theorem r_add64{t yt:TypeId}{n m:Int}(hs:Sl N L a)(ho:o.op= .binOp .add t x y yt)(hx:ev L x=some (.int .i64 n))(hy:ev L y=some (.int .i64 m))(hb:-9223372036854775808≤n+m∧n+m≤9223372036854775807):RunV P a o w (.int .i64 (n+m)):=by
 replace hx:=hs.ev hx
 replace hy:=hs.ev hy
 unfold RunV
 generalize a.eval=ρ at*
 unfold execOp
 have hw:IntKind.i64.wrap (n+m)=n+m:=by simp[IntKind.wrap,IntKind.bits,IntKind.signed];omega
 simp[ho,go_sem,hx,hy,hw]
theorem r_sub64{t yt:TypeId}{n m:Int}(hs:Sl N L a)(ho:o.op= .binOp .sub t x y yt)(hx:ev L x=some (.int .i64 n))(hy:ev L y=some (.int .i64 m))(hb:-9223372036854775808≤n-m∧n-m≤9223372036854775807):RunV P a o w (.int .i64 (n-m)):=by
 replace hx:=hs.ev hx
 replace hy:=hs.ev hy
 unfold RunV
 generalize a.eval=ρ at*
 unfold execOp
 have hw:IntKind.i64.wrap (n-m)=n-m:=by simp[IntKind.wrap,IntKind.bits,IntKind.signed];omega
 simp[ho,go_sem,hx,hy,hw]
theorem r_mul64{t yt:TypeId}{n m:Int}(hs:Sl N L a)(ho:o.op= .binOp .mul t x y yt)(hx:ev L x=some (.int .i64 n))(hy:ev L y=some (.int .i64 m))(hb:-9223372036854775808≤n*m∧n*m≤9223372036854775807):RunV P a o w (.int .i64 (n*m)):=by
 replace hx:=hs.ev hx
 replace hy:=hs.ev hy
 unfold RunV
 generalize a.eval=ρ at*
 unfold execOp
 have hw:IntKind.i64.wrap (n*m)=n*m:=by simp[IntKind.wrap,IntKind.bits,IntKind.signed];omega
 simp[ho,go_sem,hx,hy,hw]
theorem r_quo{t yt:TypeId}{k:IntKind}{n m:Int}(hs:Sl N L a)(ho:o.op= .binOp .quo t x y yt)(hx:ev L x=some (.int k n))(hy:ev L y=some (.int k m))(hm:m≠0):RunV P a o w (.int k (k.wrap (n.tdiv m))):=by
 replace hx:=hs.ev hx
 replace hy:=hs.ev hy
 unfold RunV
 generalize a.eval=ρ at*
 unfold execOp
 simp[ho,go_sem,hx,hy,binOp,Op.intDiv,hm]
theorem r_rem{t yt:TypeId}{k:IntKind}{n m:Int}(hs:Sl N L a)(ho:o.op= .binOp .rem t x y yt)(hx:ev L x=some (.int k n))(hy:ev L y=some (.int k m))(hm:m≠0):RunV P a o w (.int k (n.tmod m)):=by
 replace hx:=hs.ev hx
 replace hy:=hs.ev hy
 unfold RunV
 generalize a.eval=ρ at*
 unfold execOp
 simp[ho,go_sem,hx,hy,binOp,Op.intDiv,hm]
theorem r_lss{t yt:TypeId}{k:IntKind}{n m:Int}(hs:Sl N L a)(ho:o.op= .binOp .lss t x y yt)(hx:ev L x=some (.int k n))(hy:ev L y=some (.int k m)):RunV P a o w (.bool (decide (n<m))):=by
 replace hx:=hs.ev hx
 replace hy:=hs.ev hy
 unfold RunV
 generalize a.eval=ρ at*
 unfold execOp
 simp[ho,go_sem,hx,hy,binOp,Op.intCmp]
theorem r_leq{t yt:TypeId}{k:IntKind}{n m:Int}(hs:Sl N L a)(ho:o.op= .binOp .leq t x y yt)(hx:ev L x=some (.int k n))(hy:ev L y=some (.int k m)):RunV P a o w (.bool (decide (n≤m))):=by
 replace hx:=hs.ev hx
 replace hy:=hs.ev hy
 unfold RunV
 generalize a.eval=ρ at*
 unfold execOp
 simp[ho,go_sem,hx,hy,binOp,Op.intCmp]
theorem r_gtr{t yt:TypeId}{k:IntKind}{n m:Int}(hs:Sl N L a)(ho:o.op= .binOp .gtr t x y yt)(hx:ev L x=some (.int k n))(hy:ev L y=some (.int k m)):RunV P a o w (.bool (decide (m<n))):=by
 replace hx:=hs.ev hx
 replace hy:=hs.ev hy
 unfold RunV
 generalize a.eval=ρ at*
 unfold execOp
 simp[ho,go_sem,hx,hy,binOp,Op.intCmp]
theorem r_geq{t yt:TypeId}{k:IntKind}{n m:Int}(hs:Sl N L a)(ho:o.op= .binOp .geq t x y yt)(hx:ev L x=some (.int k n))(hy:ev L y=some (.int k m)):RunV P a o w (.bool (decide (m≤n))):=by
 replace hx:=hs.ev hx
 replace hy:=hs.ev hy
 unfold RunV
 generalize a.eval=ρ at*
 unfold execOp
 simp[ho,go_sem,hx,hy,binOp,Op.intCmp]
theorem r_eql{t yt:TypeId}{k:IntKind}{n m:Int}(hs:Sl N L a)(ho:o.op= .binOp .eql t x y yt)(hx:ev L x=some (.int k n))(hy:ev L y=some (.int k m)):RunV P a o w (.bool (decide (n=m))):=by
 replace hx:=hs.ev hx
 replace hy:=hs.ev hy
 unfold RunV
 generalize a.eval=ρ at*
 unfold execOp
 simp[ho,go_sem,hx,hy,binOp,Op.intCmp]
 exact beq_dec n m
theorem r_neq{t yt:TypeId}{k:IntKind}{n m:Int}(hs:Sl N L a)(ho:o.op= .binOp .neq t x y yt)(hx:ev L x=some (.int k n))(hy:ev L y=some (.int k m)):RunV P a o w (.bool (!decide (n=m))):=by
 replace hx:=hs.ev hx
 replace hy:=hs.ev hy
 unfold RunV
 generalize a.eval=ρ at*
 unfold execOp
 simp[ho,go_sem,hx,hy,binOp,Op.intCmp,bne,beq_dec]
theorem r_and{t yt:TypeId}{k:IntKind}{n m:Int}(hs:Sl N L a)(ho:o.op= .binOp .and t x y yt)(hx:ev L x=some (.int k n))(hy:ev L y=some (.int k m)):RunV P a o w (.int k (bits .and k n m)):=by
 replace hx:=hs.ev hx
 replace hy:=hs.ev hy
 unfold RunV
 generalize a.eval=ρ at*
 unfold execOp
 simp[ho,go_sem,hx,hy]
theorem r_or{t yt:TypeId}{k:IntKind}{n m:Int}(hs:Sl N L a)(ho:o.op= .binOp .or t x y yt)(hx:ev L x=some (.int k n))(hy:ev L y=some (.int k m)):RunV P a o w (.int k (bits .or k n m)):=by
 replace hx:=hs.ev hx
 replace hy:=hs.ev hy
 unfold RunV
 generalize a.eval=ρ at*
 unfold execOp
 simp[ho,go_sem,hx,hy]
theorem r_xor{t yt:TypeId}{k:IntKind}{n m:Int}(hs:Sl N L a)(ho:o.op= .binOp .xor t x y yt)(hx:ev L x=some (.int k n))(hy:ev L y=some (.int k m)):RunV P a o w (.int k (bits .xor k n m)):=by
 replace hx:=hs.ev hx
 replace hy:=hs.ev hy
 unfold RunV
 generalize a.eval=ρ at*
 unfold execOp
 simp[ho,go_sem,hx,hy]
theorem r_conv{s t:TypeId}{k k':IntKind}{n:Int}(hs:Sl N L a)(ho:o.op= .convert s t x)(hx:ev L x=some (.int k n))(hT:TabOk P T){i i':TI}(hc:tlk T s=some i)(hc':tlk T t=some i')(hd':i'.d= .int k'):RunV P a o w (.int k' (k'.wrap n)):=by
 replace hx:=hs.ev hx
 unfold RunV
 generalize a.eval=ρ at*
 unfold execOp
 obtain⟨d1,e1,g1⟩:=(hT _ _ hc).und
 simp[ho,go_sem,hx,convert,run_und e1,run_und ((hT _ _ hc').int hd'),Conv.intToInt]
end
inductive Cut:List Value→Nat→Nat→List Value→Prop
 |nil (cs:List Value):Cut cs 0 0 []
 |cons {cs vs:List Value} {n:Nat} (c:Value) (h:Cut cs 0 n vs):Cut (c::cs) 0 (n+1) (c::vs)
 |skip {cs vs:List Value} {k n:Nat} (c:Value) (h:Cut cs k n vs):Cut (c::cs) (k+1) n vs
theorem Cut.len{cs vs:List Value}{k n:Nat}(h:Cut cs k n vs):vs.length=n:=by
 induction h<;>simp_all
theorem Cut.get{cs vs:List Value}{k n:Nat}(h:Cut cs k n vs):∀j u,vs[j]?=some u→cs[k+j]?=some u:=by
 induction h with
 |nil=>intro j u hu;simp at hu
 |cons c h ih=>
  intro j u hu
  cases j with
  |zero=>simpa using hu
  |succ j=>have:=ih j u (by simpa using hu);simpa[Nat.zero_add]using this
 |skip c h ih=>intro j u hu;have:=ih j u hu;rw[Nat.add_right_comm];simpa using this
inductive Put:List Value→Nat→List Value→List Value→Prop
 |nil (cs:List Value):Put cs 0 [] cs
 |cons {cs vs ds:List Value} (c v:Value) (h:Put cs 0 vs ds):Put (c::cs) 0 (v::vs) (v::ds)
 |skip {cs vs ds:List Value} {k:Nat} (c:Value) (h:Put cs k vs ds):Put (c::cs) (k+1) vs (c::ds)
theorem Put.eq{cs vs ds:List Value}{k:Nat}(h:Put cs k vs ds):k+vs.length≤cs.length∧ds=cs.take k++vs++cs.drop (k+vs.length):=by
 induction h with
 |nil=>simp
 |cons c v h ih=>obtain⟨h1,h2⟩:=ih;subst h2;simp at h1 ⊢;omega
 |skip c h ih=>
  obtain⟨h1,h2⟩:=ih
  refine⟨by simp;omega,?_⟩
  subst h2
  rw[Nat.add_right_comm]
  simp
inductive VC:Value→List Value→Prop
 |agg (l:List Value):VC (.agg l.toArray) l
 |bool (b:Bool):VC (.bool b) [.bool b]
 |int (k:IntKind) (n:Int):VC (.int k n) [.int k n]
 |string (s:ByteArray):VC (.string s) [.string s]
 |pointer (p:Option Addr):VC (.pointer p) [.pointer p]
 |slice (p:Option Addr) (n c:Nat):VC (.slice p n c) [.slice p n c]
 |func (f:Fn) (x y:Array Value):VC (.func f x y) [.func f x y]
 |nilFunc:VC .nilFunc [.nilFunc]
 |map (p:Option Nat):VC (.map p) [.map p]
 |nilIface:VC .nilIface [.nilIface]
theorem VC.eq{v:Value}{l:List Value}(h:VC v l):v.cells=l.toArray:=by
 cases h<;>rfl
theorem fill_put(cs vs:List Value)(k:Nat)(hl:k+vs.length≤cs.length):(vs.toArray.zipIdx.foldl (fun(c:Array Value) (p:Value × Nat)=>c.setIfInBounds (k+p.2) p.1) cs.toArray)=(cs.take k++vs++cs.drop (k+vs.length)).toArray:=by
 suffices H:∀(vs:List Value)(m:Nat)(cs:List Value),k+m+vs.length≤cs.length→(vs.zipIdx m).foldl (fun(c:Array Value) (p:Value × Nat)=>c.setIfInBounds (k+p.2) p.1) cs.toArray=(cs.take (k+m)++vs++cs.drop (k+m+vs.length)).toArray by
  have:=H vs 0 cs (by simpa using hl)
  rw[←Array.foldl_toList]
  simpa using this
 intro vs
 induction vs with
 |nil=>intro m cs h;simp
 |cons v r ih=>
  intro m cs h
  simp only[List.zipIdx_cons,List.foldl_cons,List.setIfInBounds_toArray]
  rw[ih (m+1) (cs.set (k+m) v) (by simp only[List.length_set,List.length_cons]at*;omega)]
  congr 1
  have hk:k+m<cs.length:=by simp at h;omega
  rw[List.take_set,List.drop_set_of_lt (by omega),←Nat.add_assoc,List.take_succ_eq_append_getElem hk,List.set_append_right _ _ (by simp;omega)]
  simp[Nat.min_eq_left (Nat.le_of_lt hk)]
  congr 1
  omega
theorem fill_one{place:Nat→Option (Nat × Nat)}{cs vs ds:List Value}{rest:List (Nat × Value)}{i off:Nat}{v:Value}(hp:place i=some (off,vs.length))(hv:VC v vs)(h:Put cs off vs ds):Instr.fill place cs.toArray ((i,v)::rest)=Instr.fill place ds.toArray rest:=by
 obtain⟨h1,h2⟩:=h.eq
 rw[Instr.fill]
 simp only[hp,hv.eq]
 rw[if_neg (by simp;omega),fill_put cs vs off h1,←h2]
inductive Fill (T:List (Nat × TI)) (fs:List (Nat × TypeId)):List (Nat × Value)→List Value→List Value→Prop
 |nil (cs:List Value):Fill T fs [] cs cs
 |cons {rest:List (Nat × Value)} {i off:Nat} {t:TypeId} {x:TI} {v:Value} {vs cs ds es:List Value} (hf:fs[i]?=some (off,t)) (ht:tlk T t=some x) (hv:VC v vs) (hl:vs.length=x.sz) (hp:Put cs off vs ds) (h:Fill T fs rest ds es):Fill T fs ((i,v)::rest) cs es
inductive FillA (s:Nat):List (Nat × Value)→List Value→List Value→Prop
 |nil (cs:List Value):FillA s [] cs cs
 |cons {rest:List (Nat × Value)} {i:Nat} {v:Value} {vs cs ds es:List Value} (hv:VC v vs) (hl:vs.length=s) (hp:Put cs (i*s) vs ds) (h:FillA s rest ds es):FillA s ((i,v)::rest) cs es
theorem FillA.fill{s:Nat}{ps:List (Nat × Value)}{cs ds:List Value}(h:FillA s ps cs ds):Instr.fill (fun i=>some (i*s,s)) cs.toArray ps=some ds.toArray:=by
 induction h with
 |nil=>rfl
 |cons hv hl hp _ ih=>rw[fill_one (by rw[hl]) hv hp];exact ih
def evp(L:List (Nat × Value)):List (Nat × Operand)→Option (List (Nat × Value))
 |[]=>some []
 |(i,x)::r=>match ev L x with
  |some v=>match evp L r with
   |some vs=>some ((i,v)::vs)
   |none=>none
  |none=>none
theorem Sl.evp{N:Nat}{L:List (Nat × Value)}{a:Act}(h:Sl N L a):∀{xs:List (Nat × Operand)}{vs:List (Nat × Value)},evp L xs=some vs→xs.map (fun(i,x)=>(i,a.eval x))=vs
 |[],vs,he=>by simpa[Go.Proofs.YtbjffoojenpmfaaGreat.evp]using he
 |(i,x)::r,vs,he=>by
  simp only[Go.Proofs.YtbjffoojenpmfaaGreat.evp]at he
  cases hx:Go.Proofs.YtbjffoojenpmfaaGreat.ev L x with
  |none=>rw[hx]at he;cases he
  |some v=>
   rw[hx]at he
   cases hr:Go.Proofs.YtbjffoojenpmfaaGreat.evp L r with
   |none=>rw[hr]at he;cases he
   |some us=>
    rw[hr]at he
    simp only[Option.some.injEq]at he
    subst he
    simp[h.ev hx,Sl.evp h hr]
section
variable {P:Program} {T:List (Nat × TI)} {N:Nat} {L:List (Nat × Value)} {a:Act} {w w0:World} {S:Nat→Prop} {M:List Hp} {o:Oper} {x y z:Operand} {v u:Value}
theorem run_fieldPlace{i:TI}{f:Field}{A:Addr}(hT:TOk P f.type i)(hz:i.sz≠0):Sem.run P (fieldPlace A f) w= .ok (A.add f.offset) w:=by
 unfold fieldPlace
 simp[run_sizeOf hT,hz]
theorem r_fieldAddr{t ft:TypeId}{f g n off:Nat}{i j:TI}{fs:List (Nat × TypeId)}(hs:Sl N L a)(ho:o.op= .fieldAddr t x f)(hx:ev L x=some (.pointer (some ⟨g,n,none⟩)))(hT:TabOk P T)(hc:tlk T t=some i)(hd:i.d= .st fs)(hf:fs[f]?=some (off,ft)) (hft:tlk T ft=some j) (hj:Nat.beq j.sz 0=false):RunV P a o w (.pointer (some ⟨g,n+off,none⟩)):=by
 replace hx:=hs.ev hx
 unfold RunV
 generalize a.eval=ρ at*
 obtain⟨gs,h1,h2⟩:=(hT _ _ hc).st hd
 subst h2
 rw[List.getElem?_map]at hf
 cases hg:gs.toList[f]? with
 |none=>rw[hg]at hf;cases hf
 |some fl=>
  rw[hg]at hf
  simp only[Option.map_some,Option.some.injEq,Prod.mk.injEq]at hf
  obtain⟨rfl,rfl⟩:=hf
  have hg':gs[f]?=some fl:=by simpa using hg
  have hz:j.sz≠0:=fun e=>by rw[e]at hj;cases hj
  unfold execOp
  simp[ho,hx,Instr.fieldAt,run_und h1,hg',Instr.sureAddr,run_fieldPlace (hT _ _ hft) hz,Addr.add_lit]
def tsz:List (Nat × TI)→Nat→Option Nat
 |[],_=>none
 |(k,⟨s,_,_,_⟩)::r,n=>bif Nat.beq k n then some s else tsz r n
theorem tsz_ok:∀{T:List (Nat × TI)}{n s:Nat},tsz T n=some s→∃j,tlk T n=some j∧j.sz=s
 |[],_,_,h=>by cases h
 |(k,⟨s',_,_,_⟩)::r,n,s,h=>by
  simp only[tsz]at h
  simp only[tlk]
  cases hb:Nat.beq k n with
  |true=>rw[hb]at h;simp only[cond_true,Option.some.injEq]at h;exact⟨_,rfl,h⟩
  |false=>rw[hb]at h;exact tsz_ok h
theorem run_indexAt{t e:TypeId}{i j:TI}{g off len cap:Nat}{k:Nat}{kk:IntKind}(hT:TabOk P T)(hc:tlk T t=some i)(hd:i.d= .sl e)(he:tlk T e=some j)(hk:k<len):Sem.run P (Instr.indexAt t (.slice (some ⟨g,off,none⟩) len cap) (.int kk (k:Int))) w= .ok (.pointer (some ⟨g,off+k*j.sz,none⟩)) w:=by
 unfold Instr.indexAt
 simp[run_und ((hT _ _ hc).sl hd),asIntOf,run_sizeOf (hT _ _ he),hk,Addr.add_lit]
theorem run_indexAtA{t e:TypeId}{i j:TI}{g off len:Nat}{k:Nat}{kk:IntKind}(hT:TabOk P T)(hc:tlk T t=some i)(hd:i.d= .arr len e)(he:tlk T e=some j)(hk:k<len):Sem.run P (Instr.indexAt t (.pointer (some ⟨g,off,none⟩)) (.int kk (k:Int))) w= .ok (.pointer (some ⟨g,off+k*j.sz,none⟩)) w:=by
 unfold Instr.indexAt
 simp[run_und ((hT _ _ hc).arr hd),asIntOf,run_sizeOf (hT _ _ he),hk,Addr.add_lit,Instr.sureAddr]
end
def vcF:Value→Option (List Value)
 | .agg cs=>some cs.toList
 | .bool b=>some [.bool b]
 | .int k n=>some [.int k n]
 | .string s=>some [.string s]
 | .pointer p=>some [.pointer p]
 | .slice p n c=>some [.slice p n c]
 | .func f x y=>some [.func f x y]
 | .nilFunc=>some [.nilFunc]
 | .map p=>some [.map p]
 | .nilIface=>some [.nilIface]
 |_=>none
theorem vcF_ok{v:Value}{l:List Value}(h:vcF v=some l):VC v l:=by
 cases v<;>simp only[vcF,Option.some.injEq,reduceCtorEq]at h<;>subst h
 case agg cs=>exact(show VC (.agg cs.toList.toArray) cs.toList from .agg _)
 all_goals constructor
def cutF:List Value→Nat→Nat→Option (List Value)
 |_,0,0=>some []
 |c::cs,0,n+1=>match cutF cs 0 n with
  |some vs=>some (c::vs)
  |none=>none
 |_::cs,k+1,n=>cutF cs k n
 |_,_,_=>none
theorem cutF_ok:∀{cs:List Value}{k n:Nat}{vs:List Value},cutF cs k n=some vs→Cut cs k n vs
 |cs,0,0,vs,h=>by simp[cutF]at h;subst h;exact .nil _
 |[],0,n+1,vs,h=>by simp[cutF]at h
 |c::cs,0,n+1,vs,h=>by
  simp only[cutF]at h
  cases hc:cutF cs 0 n with
  |none=>rw[hc]at h;cases h
  |some us=>rw[hc]at h;simp only[Option.some.injEq]at h;subst h;exact .cons c (cutF_ok hc)
 |[],k+1,n,vs,h=>by simp[cutF]at h
 |c::cs,k+1,n,vs,h=>by simp only[cutF]at h;exact .skip c (cutF_ok h)
def putF:List Value→Nat→List Value→Option (List Value)
 |cs,0,[]=>some cs
 |_::cs,0,v::vs=>match putF cs 0 vs with
  |some ds=>some (v::ds)
  |none=>none
 |c::cs,k+1,vs=>match putF cs k vs with
  |some ds=>some (c::ds)
  |none=>none
 |_,_,_=>none
theorem putF_ok:∀{cs:List Value}{k:Nat}{vs ds:List Value},putF cs k vs=some ds→Put cs k vs ds
 |cs,0,[],ds,h=>by simp[putF]at h;subst h;exact .nil _
 |[],0,v::vs,ds,h=>by simp[putF]at h
 |c::cs,0,v::vs,ds,h=>by
  simp only[putF]at h
  cases hc:putF cs 0 vs with
  |none=>rw[hc]at h;cases h
  |some us=>rw[hc]at h;simp only[Option.some.injEq]at h;subst h;exact .cons c v (putF_ok hc)
 |[],k+1,vs,ds,h=>by cases vs<;>simp[putF]at h
 |c::cs,k+1,vs,ds,h=>by
  simp only[putF]at h
  cases hc:putF cs k vs with
  |none=>rw[hc]at h;cases h
  |some us=>rw[hc]at h;simp only[Option.some.injEq]at h;subst h;exact .skip c (putF_ok hc)
def fillF(T:List (Nat × TI))(fs:List (Nat × TypeId)):List (Nat × Value)→List Value→Option (List Value)
 |[],cs=>some cs
 |(i,v)::r,cs=>match fs[i]? with
  |some (off,t)=>match tlk T t with
   |some x=>match vcF v with
    |some vs=>bif Nat.beq vs.length x.sz then(match putF cs off vs with
     |some ds=>fillF T fs r ds
     |none=>none)else none
    |none=>none
   |none=>none
  |none=>none
theorem fillF_ok{T:List (Nat × TI)}{fs:List (Nat × TypeId)}:∀{ps:List (Nat × Value)}{cs ds:List Value},fillF T fs ps cs=some ds→Fill T fs ps cs ds
 |[],cs,ds,h=>by simp[fillF]at h;subst h;exact .nil _
 |(i,v)::r,cs,ds,h=>by
  simp only[fillF]at h
  cases h1:fs[i]? with
  |none=>rw[h1]at h;cases h
  |some p=>
   obtain⟨off,t⟩:=p
   rw[h1]at h
   cases h2:tlk T t with
   |none=>simp only[h2]at h;cases h
   |some x=>
    simp only[h2]at h
    cases h3:vcF v with
    |none=>simp only[h3]at h;cases h
    |some vs=>
     simp only[h3]at h
     cases h4:Nat.beq vs.length x.sz with
     |false=>rw[h4]at h;cases h
     |true=>
      rw[h4]at h
      simp only[cond_true]at h
      cases h5:putF cs off vs with
      |none=>rw[h5]at h;cases h
      |some es=>rw[h5]at h;exact .cons h1 h2 (vcF_ok h3) (Nat.eq_of_beq_eq_true h4) (putF_ok h5) (fillF_ok h)
def fillAF(s:Nat):List (Nat × Value)→List Value→Option (List Value)
 |[],cs=>some cs
 |(i,v)::r,cs=>match vcF v with
  |some vs=>bif Nat.beq vs.length s then(match putF cs (i*s) vs with
   |some ds=>fillAF s r ds
   |none=>none)else none
  |none=>none
theorem fillAF_ok{s:Nat}:∀{ps:List (Nat × Value)}{cs ds:List Value},fillAF s ps cs=some ds→FillA s ps cs ds
 |[],cs,ds,h=>by simp[fillAF]at h;subst h;exact .nil _
 |(i,v)::r,cs,ds,h=>by
  simp only[fillAF]at h
  cases h3:vcF v with
  |none=>simp only[h3]at h;cases h
  |some vs=>
   simp only[h3]at h
   cases h4:Nat.beq vs.length s with
   |false=>rw[h4]at h;cases h
   |true=>
    rw[h4]at h
    simp only[cond_true]at h
    cases h5:putF cs (i*s) vs with
    |none=>rw[h5]at h;cases h
    |some es=>rw[h5]at h;exact .cons (vcF_ok h3) (Nat.eq_of_beq_eq_true h4) (putF_ok h5) (fillAF_ok h)
def Ro(w:World)(b n:Nat)(vs:List Value):Prop:=∀j u,vs[j]?=some u→w.cell? ⟨b,n+j,none⟩=some u
theorem Rd.ro{w:World}{B:Nat}{A:Option Addr}{xs:List Value}(h:Rd w B A xs)(hn:0<xs.length):∃b off,A=some ⟨b,off,none⟩∧b<B∧Ro w b off xs:=h hn
theorem Ro.rd{w:World}{b n:Nat}{vs:List Value}(h:Ro w b n vs)(hb:b<w.heap.size):Rd w w.heap.size (some ⟨b,n,none⟩) vs:=fun _=>⟨b,n,rfl,hb,h⟩
theorem Ro.flat{α:Type}{w:World}{b off s:Nat}{f:α→List Value}(hs:∀a,(f a).length=s){l:List α}(h:Ro w b off (l.flatMap f)){k:Nat}(hk:k<l.length):Ro w b (off+k*s) (f l[k]):=fun j u hu=>by
 have hj:j<s:=by
  rcases Nat.lt_or_ge j s with h1|h1
  ·exact h1
  ·rw[List.getElem?_eq_none (by rw[hs];exact h1)]at hu;cases hu
 have:=flat_get f s hs l k j hk hj
 rw[Nat.add_assoc]
 exact h _ _ (by rw[this,hu])
theorem Ro.cl{S:Nat→Prop}{w0 w:World}{M:List Hp}{b n j:Nat}{vs:List Value}{v:Value}(h:Ro w0 b n vs)(hm:Mm S w0 M w)(hb:¬S b)(hv:vs[j]?=some v):w.cell? ⟨b,n+j,none⟩=some v:=hm.fr.cl (h j v hv) hb
theorem Ro.ro{S:Nat→Prop}{w0 w:World}{M:List Hp}{b n:Nat}{vs:List Value}(h:Ro w0 b n vs)(hm:Mm S w0 M w)(hb:¬S b):Ro w b n vs:=fun j v hv=>hm.fr.cl (h j v hv) hb
theorem Mm.cl{S:Nat→Prop}{w0 w:World}{M:List Hp}{g n:Nat}{t:TypeId}{cs:List Value}{v:Value}(hm:Mm S w0 M w)(hM:(⟨some g,t,cs⟩:Hp)∈M)(hv:cs[n]?=some v):w.cell? ⟨g,n,none⟩=some v:=(hm.at_ hM n).trans hv
theorem Mm.ro{S:Nat→Prop}{w0 w:World}{M:List Hp}{g k n:Nat}{t:TypeId}{cs vs:List Value}(hm:Mm S w0 M w)(hM:(⟨some g,t,cs⟩:Hp)∈M)(hv:Cut cs k n vs):Ro w g k vs:=fun j v h=>(hm.at_ hM _).trans (hv.get j v h)
def slv(A:Option Nat)(n c:Nat):Value:= .slice (A.map fun g=>⟨g,0,none⟩) n c
structure Row(A:Option Nat)(n c s:Nat)(xs cs:List Value):Prop where
 nil:A=none→n=0∧c=0
 le:n≤c
 cm:c≤maxLen
 len:cs.length=c*s
 xl:xs.length=n*s
 pre:cs.take (n*s)=xs
theorem Row.empty(s:Nat):Row none 0 0 s [] []:=⟨fun _=>⟨rfl,rfl⟩,Nat.le_refl _,Nat.zero_le _,by simp,by simp,by simp⟩
theorem Row.get{A:Option Nat}{n c s:Nat}{xs cs:List Value}(h:Row A n c s xs cs){j:Nat}{u:Value}(hj:xs[j]?=some u):cs[j]?=some u:=by
 rw[←h.pre,List.getElem?_take]at hj
 split at hj
 ·exact hj
 ·cases hj
theorem Row.some_{A:Option Nat}{n c s:Nat}{xs cs:List Value}(h:Row A n c s xs cs)(hn:0<n):∃g,A=some g:=by
 cases A with
 |none=>have:=(h.nil rfl).1;omega
 |some g=>exact⟨g,rfl⟩
theorem Row.pfx{A:Option Nat}{n c s:Nat}{xs cs:List Value}(h:Row A n c s xs cs):xs<+:cs:=h.pre▸List.take_prefix _ _
theorem Row.set{A:Option Nat}{n c s:Nat}{xs cs:List Value}(h:Row A n c s xs cs)(j:Nat)(u:Value):Row A n c s (xs.set j u) (cs.set j u):=
 ⟨h.nil,h.le,h.cm,by rw[List.length_set];exact h.len,by rw[List.length_set];exact h.xl,by rw[←h.pre,List.take_set]⟩
theorem Row.own{w:World}{A:Option Nat}{n c s base:Nat}{e:TypeId}{xs cs:List Value}(h:Row A n c s xs cs)(hs:(⟨A,e,cs⟩:Hp).sat w)(hb:∀g,A=some g→base≤g):w.ownsRow base e s (slv A n c) n xs:=by
 refine⟨h.xl,?_⟩
 cases A with
 |none=>obtain⟨rfl,rfl⟩:=h.nil rfl;exact .inl ⟨rfl,rfl⟩
 |some g=>exact .inr ⟨g,c,cs.toArray,rfl,hb g rfl,hs,h.le,h.cm,by simpa using h.len,by simpa using h.pre⟩
theorem Row.of_own{w:World}{n s base:Nat}{e:TypeId}{xs:List Value}{v:Value}(h:w.ownsRow base e s v n xs):∃A c cs,v=slv A n c∧Row A n c s xs cs∧(⟨A,e,cs⟩:Hp).sat w∧∀g,A=some g→v.ownBlock=some g∧base≤g:=by
 obtain⟨h1,h2⟩:=h
 rcases h2 with⟨rfl,rfl⟩|⟨g,cap,cur,rfl,hb,hh,hc,hm,hz,ht⟩
 ·have:xs=[]:=by simpa using h1
  subst this
  exact⟨none,0,[],rfl,Row.empty s,rfl,fun g hg=>by cases hg⟩
 ·exact⟨some g,cap,cur.toList,rfl,⟨(fun e=>by cases e),hc,hm,by simpa using hz,h1,ht⟩,by simpa[Hp.sat,Blk]using hh,(fun g' hg=>by cases hg;exact⟨rfl,hb⟩)⟩
theorem Mm.rd_row{S:Nat→Prop}{w0 w:World}{M:List Hp}(hm:Mm S w0 M w){A:Option Nat}{n c s:Nat}{t:TypeId}{xs cs:List Value}(hM:(⟨A,t,cs⟩:Hp)∈M)(hr:Row A n c s xs cs):Rd w w.heap.size (A.map fun g=>⟨g,0,none⟩) xs:=by
 cases A with
 |none=>
  have h1:=hr.xl
  rw[(hr.nil rfl).1,Nat.zero_mul]at h1
  intro h;omega
 |some g=>exact hm.rd hM hr.pfx
section
variable {P:Program} {T:List (Nat × TI)} {N:Nat} {L:List (Nat × Value)} {a:Act} {w w0:World} {S:Nat→Prop} {M M':List Hp} {o:Oper} {x y z:Operand} {v u:Value} {K:Value→World→Prop}
def litN:Int→Option Nat
 | .ofNat n=>some n
 |_=>none
theorem litN_ok{i:Int}{k:Nat}(h:litN i=some k):i=(k:Int):=by
 cases i with
 |ofNat n=>simp only[litN,Option.some.injEq]at h;subst h;rfl
 |negSucc n=>simp[litN]at h
theorem r_ix{t e:TypeId}{i:TI}{g off len cap k s:Nat}{kk:IntKind}(hs:Sl N L a)(ho:o.op= .indexAddr t x y)(hx:ev L x=some (.slice (some ⟨g,off,none⟩) len cap))(hy:ev L y=some (.int kk (k:Int)))(hT:TabOk P T)(hc:tlk T t=some i)(hd:i.d= .sl e)(he:tsz T e=some s)(hk:k<len):RunV P a o w (.pointer (some ⟨g,off+k*s,none⟩)):=by
 replace hx:=hs.ev hx;replace hy:=hs.ev hy
 obtain⟨j,hj,hjs⟩:=tsz_ok he
 subst hjs
 unfold RunV execOp
 simp[ho,hx,hy,run_indexAt hT hc hd hj hk]
theorem r_ixa{t e:TypeId}{i:TI}{g off len k s:Nat}{kk:IntKind}(hs:Sl N L a)(ho:o.op= .indexAddr t x y)(hx:ev L x=some (.pointer (some ⟨g,off,none⟩)))(hy:ev L y=some (.int kk (k:Int)))(hT:TabOk P T)(hc:tlk T t=some i)(hd:i.d= .arr len e)(he:tsz T e=some s)(hk:k<len):RunV P a o w (.pointer (some ⟨g,off+k*s,none⟩)):=by
 replace hx:=hs.ev hx;replace hy:=hs.ev hy
 obtain⟨j,hj,hjs⟩:=tsz_ok he
 subst hjs
 unfold RunV execOp
 simp[ho,hx,hy,run_indexAtA hT hc hd hj hk]
theorem r_ixl{t e:TypeId}{i:TI}{g off len cap k s:Nat}{kk:IntKind}(hs:Sl N L a)(ho:o.op= .indexAddr t x y)(hx:ev L x=some (.slice (some ⟨g,off,none⟩) len cap)){ii:Int}(hy:ev L y=some (.int kk ii))(hii:litN ii=some k)(hT:TabOk P T)(hc:tlk T t=some i)(hd:i.d= .sl e)(he:tsz T e=some s)(hk:ii<(len:Int)):RunV P a o w (.pointer (some ⟨g,off+k*s,none⟩)):=r_ix hs ho hx (by rw[←litN_ok hii];exact hy) hT hc hd he (by have e:=litN_ok hii;omega)
theorem r_ixal{t e:TypeId}{i:TI}{g off len k s:Nat}{kk:IntKind}(hs:Sl N L a)(ho:o.op= .indexAddr t x y)(hx:ev L x=some (.pointer (some ⟨g,off,none⟩))){ii:Int}(hy:ev L y=some (.int kk ii))(hii:litN ii=some k)(hT:TabOk P T)(hc:tlk T t=some i)(hd:i.d= .arr len e)(he:tsz T e=some s)(hk:ii<(len:Int)):RunV P a o w (.pointer (some ⟨g,off+k*s,none⟩)):=r_ixa hs ho hx (by rw[←litN_ok hii];exact hy) hT hc hd he (by have e:=litN_ok hii;omega)
theorem r_load{t:TypeId}{i:TI}{p:Addr}(hs:Sl N L a)(ho:o.op= .load t x)(hx:ev L x=some (.pointer (some p)))(hT:TabOk P T)(hc:tlk T t=some i)(hf:i.d.flat=true)(hw:w.cell? p=some v):RunV P a o w v:=by
 replace hx:=hs.ev hx
 unfold RunV execOp
 simp[ho,hx,Instr.loadAt,loadVar,Instr.sureAddr,run_isAgg (hT _ _ hc),hf,hw]
theorem r_loadA{t:TypeId}{i:TI}{b n:Nat}{vs:List Value}(hs:Sl N L a)(ho:o.op= .load t x)(hx:ev L x=some (.pointer (some ⟨b,n,none⟩)))(hT:TabOk P T)(hc:tlk T t=some i)(hf:i.d.flat=false)(hw:Ro w b n vs)(hl:vs.length=i.sz):RunV P a o w (.agg vs.toArray):=by
 replace hx:=hs.ev hx
 have h:=run_loadCells_list (P:=P) w ⟨b,n,none⟩ vs (fun j u hu=>by rw[add_lit];exact hw j u hu)
 rw[hl]at h
 unfold RunV execOp
 simp[ho,hx,Instr.loadAt,loadVar,Instr.sureAddr,run_isAgg (hT _ _ hc),hf,run_sizeOf (hT _ _ hc),h]
theorem r_extract{k:Nat}{vs:List Value}(hs:Sl N L a)(ho:o.op= .extract x k)(hx:ev L x=some (.tuple vs.toArray))(hv:vs[k]?=some v):RunV P a o w v:=by
 replace hx:=hs.ev hx
 have hv':vs.toArray[k]?=some v:=by simpa using hv
 unfold RunV execOp
 simp[ho,hx,Instr.extract,hv]
theorem r_field{t ft:TypeId}{f off:Nat}{i j:TI}{fs:List (Nat × TypeId)}{cs:List Value}(hs:Sl N L a)(ho:o.op= .field t x f)(hx:ev L x=some (.agg cs.toArray))(hT:TabOk P T)(hc:tlk T t=some i)(hd:i.d= .st fs)(hf:fs[f]?=some (off,ft)) (hft:tlk T ft=some j) (hj:j.d.flat=true) (hv:cs[off]?=some v):RunV P a o w v:=by
 replace hx:=hs.ev hx
 obtain⟨gs,h1,h2⟩:=(hT _ _ hc).st hd
 subst h2
 rw[List.getElem?_map]at hf
 cases hg:gs.toList[f]? with
 |none=>rw[hg]at hf;cases hf
 |some fl=>
  rw[hg]at hf
  simp only[Option.map_some,Option.some.injEq,Prod.mk.injEq]at hf
  obtain⟨rfl,rfl⟩:=hf
  have hg':gs[f]?=some fl:=by simpa using hg
  unfold RunV execOp
  simp[ho,hx,Instr.field,run_und h1,hg',asAgg,part,run_isAgg (hT _ _ hft),hj,hv]
theorem r_len{ts:Array TypeId}{t e:TypeId}{i:TI}{A:Option Addr}{n c:Nat}(hs:Sl N L a)(ho:o.op= .call {callee:= .builtin .len,args:=#[x],argTypes:=ts})(hx:ev L x=some (.slice A n c))(hts:ts[0]?=some t) (hT:TabOk P T) (hc:tlk T t=some i) (hd:i.d= .sl e):RunV P a o w (.int .i64 (n:Int)):=by
 replace hx:=hs.ev hx
 unfold RunV execOp resolve invoke builtin
 simp[ho,hx,Builtin.len_,hts,run_und ((hT _ _ hc).sl hd),goInt]
theorem TOk.str{t:TypeId}{i:TI}(h:TOk P t i)(hd:i.d= .str):P.underlying t=some .string:=by
 obtain⟨d,h1,h2⟩:=h.und
 rw[hd]at h2
 cases d<;>simp[tdOf]at h2
 exact h1
theorem r_slen{ts:Array TypeId}{t:TypeId}{i:TI}{s:ByteArray}(hs:Sl N L a)(ho:o.op= .call {callee:= .builtin .len,args:=#[x],argTypes:=ts})(hx:ev L x=some (.string s))(hts:ts[0]?=some t) (hT:TabOk P T) (hc:tlk T t=some i) (hd:i.d= .str):RunV P a o w (.int .i64 (s.size:Int)):=by
 replace hx:=hs.ev hx
 unfold RunV execOp resolve invoke builtin
 simp[ho,hx,Builtin.len_,hts,run_und ((hT _ _ hc).str hd),goInt]
theorem r_makeFunc{fn:Fn}{xs ys:List Operand}{vs us:List Value}(hs:Sl N L a)(ho:o.op= .makeFunc fn xs.toArray ys.toArray)(hx:evs L xs=some vs)(hy:evs L ys=some us):RunV P a o w (.func fn vs.toArray us.toArray):=by
 replace hx:=hs.evs hx;replace hy:=hs.evs hy
 subst hx;subst hy
 unfold RunV execOp
 simp[ho,Instr.makeFunc]
theorem r_nilCheck{p:Addr}(hs:Sl N L a)(ho:o.op= .nilCheck x)(hx:ev L x=some (.pointer (some p))):RunV P a o w (.pointer (some p)):=by
 replace hx:=hs.ev hx
 unfold RunV execOp
 simp[ho,hx]
theorem r_nilCheckF{f:Fn}{p q:Array Value}{n:FuncId}(hs:Sl N L a)(ho:o.op= .nilCheck x)(hx:ev L x=some (.func f p q))(hf:f= .func n):RunV P a o w (.func f p q):=by
 replace hx:=hs.ev hx
 subst hf
 unfold RunV execOp
 simp[ho,hx]
def placesOf(T:List (Nat × TI))(fs:List (Nat × TypeId)):List (Nat × Nat):=fs.map fun p=>(p.1,((tlk T p.2).map (·.sz)).getD 0)
theorem run_places(hT:TabOk P T):∀(l:List Field),(l.map fun f=>(f.offset,f.type)).all (fun p=>(tlk T p.2).isSome)=true→
  Sem.run P (l.mapM fun f=>do pure (f.offset,←sizeOf f.type)) w= .ok (placesOf T (l.map fun f=>(f.offset,f.type))) w
 |[],_=>by simp[placesOf]
 |f::r,h=>by
  simp only[List.map_cons,List.all_cons,Bool.and_eq_true]at h
  obtain⟨h1,h2⟩:=h
  obtain⟨j,hj⟩:=Option.isSome_iff_exists.1 h1
  have ih:=run_places hT r h2
  simp only[List.mapM_cons,Sem.run_bind,run_sizeOf (hT _ _ hj),Result.andThen_ok,Sem.run_pure,ih]
  simp[placesOf,hj]
theorem Fill.fill{fs:List (Nat × TypeId)}{ps:List (Nat × Value)}{cs ds:List Value}(h:Fill T fs ps cs ds):Instr.fill (fun k=>(placesOf T fs)[k]?) cs.toArray ps=some ds.toArray:=by
 induction h with
 |nil=>rfl
 |cons hf ht hv hl hp _ ih=>rw[fill_one (by simp[placesOf,hf,ht,hl]) hv hp];exact ih
theorem r_build{t:TypeId}{i:TI}{fs:List (Nat × TypeId)}{ps:List (Nat × Operand)}{vs:List (Nat × Value)}{zs cs:List Value}(hs:Sl N L a)(ho:o.op= .build t ps.toArray)(hT:TabOk P T)(hc:tlk T t=some i)(hd:i.d= .st fs)(hall:fs.all (fun p=>(tlk T p.2).isSome)=true)(hp:evp L ps=some vs)(hz:vcF i.z=some zs)(hf:fillF T fs vs zs=some cs):RunV P a o w (.agg cs.toArray):=by
 replace hz:=vcF_ok hz
 replace hf:=fillF_ok hf
 replace hp:=hs.evp hp
 obtain⟨gs,h1,h2⟩:=(hT _ _ hc).st hd
 obtain⟨l⟩:=gs
 subst h2
 have hpl:=run_places (w:=w) hT l hall
 have hfl:=hf.fill
 unfold RunV execOp
 simp only[ho,Instr.build,Sem.run_bind,run_zero (hT _ _ hc),run_und h1,Result.andThen_ok,hz.eq,List.mapM_toArray,Sem.run_map,hpl]
 simp only[List.map_toArray,hp,List.getElem?_toArray,hfl]
 simp
theorem r_buildA{t e:TypeId}{n:Nat}{i j:TI}{ps:List (Nat × Operand)}{vs:List (Nat × Value)}{zs cs:List Value}(hs:Sl N L a)(ho:o.op= .build t ps.toArray)(hT:TabOk P T)(hc:tlk T t=some i)(hd:i.d= .arr n e)(he:tlk T e=some j)(hp:evp L ps=some vs)(hz:vcF i.z=some zs)(hf:fillAF j.sz vs zs=some cs):RunV P a o w (.agg cs.toArray):=by
 replace hz:=vcF_ok hz
 replace hf:=fillAF_ok hf
 replace hp:=hs.evp hp
 have hfl:=hf.fill
 unfold RunV execOp
 simp only[ho,Instr.build,Sem.run_bind,run_zero (hT _ _ hc),run_und ((hT _ _ hc).arr hd),run_sizeOf (hT _ _ he),Result.andThen_ok,hz.eq]
 simp only[List.map_toArray,hp,hfl]
 simp
def Does(P:Program)(a:Act)(o:Oper)(w:World)(K:Value→World→Prop):Prop:=
 match(execOp a.eval o).run P w with
 | .ok (.value v) w'=>K v w'
 | .ok .skip w'=>K undef w'
 | .ok (.enter f args) w'=>Calls P f args w' (fun e w''=>∃v,e= .returned v∧K v w'')
 |_=>False
theorem RunV.does(h:RunV P a o w v):Does P a o w (fun v' w'=>v'=v∧w'=w):=by
 unfold Does;rw[show(execOp a.eval o).run P w=_ from h];exact⟨rfl,rfl⟩
theorem Does.wp{next:Act→World→Prop}{Q:Exit→Act→World→Prop}(h:Does P a o w (fun v w'=>next (a.put o.dst v) w')):o.wp P a w next Q:=by
 unfold Does at h
 unfold Oper.wp
 generalize(execOp a.eval o).run P w=r at*
 cases r with
 |ok n w'=>
  cases n<;>simp only[Oper.upon]at h ⊢<;>first|exact h|exact h.elim|skip
  exact h.mono fun e w'' ⟨v,he,hk⟩=>by subst he;exact hk
 |halt x w'=>exact h.elim
theorem Does.mono{K':Value→World→Prop}(h:Does P a o w K)(hk:∀v w',K v w'→K' v w'):Does P a o w K':=by
 unfold Does at*
 generalize(execOp a.eval o).run P w=r at*
 cases r with
 |ok n w'=>
  cases n<;>first|exact hk _ _ h|exact h.elim|skip
  exact Calls.mono h fun e w'' ⟨v,he,h'⟩=>⟨v,he,hk _ _ h'⟩
 |halt x w'=>exact h.elim
end
section
variable {P:Program} {T:List (Nat × TI)} {N:Nat} {L:List (Nat × Value)} {a:Act} {w w0:World} {S:Nat→Prop} {M M':List Hp} {o:Oper} {x y z:Operand} {v u:Value} {K:Value→World→Prop}
theorem d_alloc{e:TypeId}{i:TI}{cs:List Value}(ho:o.op= .alloc e)(hT:TabOk P T)(hc:tlk T e=some i)(hz:vcF i.z=some cs)(hm:Mm S w0 M w):
  Does P a o w (fun v w'=>∃g,v= .pointer (some ⟨g,0,none⟩)∧w.heap.size≤g∧Mm S w0 (⟨some g,e,cs⟩::M) w'):=by
 replace hz:=vcF_ok hz
 unfold Does execOp
 simp[ho,Instr.alloc,run_zero (hT _ _ hc),newVar,newRow,hz.eq]
 exact hm.alloc e cs
theorem d_box{e:TypeId}{cs:List Value}(hs:Sl N L a)(ho:o.op= .box e x)(hx:ev L x=some v)(hz:vcF v=some cs)(hm:Mm S w0 M w):
  Does P a o w (fun v w'=>∃g,v= .pointer (some ⟨g,0,none⟩)∧w.heap.size≤g∧Mm S w0 (⟨some g,e,cs⟩::M) w'):=by
 replace hz:=vcF_ok hz
 replace hx:=hs.ev hx
 unfold Does execOp
 simp[ho,hx,Instr.box,newVar,newRow,hz.eq]
 exact hm.alloc e cs
def zrep:Nat→List Value→List Value
 |0,_=>[]
 |n+1,z=>z++zrep n z
theorem zrep_eq(n:Nat)(z:List Value):(Array.range (n*z.length)).map (fun k=>z.toArray[k%z.toArray.size]!)=(zrep n z).toArray:=by
 induction n with
 |zero=>simp[zrep,Array.range]
 |succ n ih=>
  rcases Nat.eq_zero_or_pos z.length with h0|h0
  ·have:z=[]:=List.eq_nil_of_length_eq_zero h0
   subst this
   have e:∀m,zrep m []=[]:=fun m=>by induction m<;>simp_all [zrep]
   simp[e,Array.range]
  ·have hz:(zrep n z).length=n*z.length:=by
    have:=congrArg Array.size ih
    simpa using this.symm
   apply Array.ext
   ·simp[zrep,hz,Nat.succ_mul,Nat.add_comm]
   ·intro k h1 h2
    have hk:k<(n+1)*z.length:=by simpa using h1
    simp only[Array.getElem_map,Array.getElem_range,zrep,List.getElem_toArray]
    by_cases hlt:k<z.length
    ·rw[List.getElem_append_left hlt]
     simp[Nat.mod_eq_of_lt hlt,hlt]
    ·rw[List.getElem_append_right (by omega)]
     have hk':k-z.length<n*z.length:=by rw[Nat.succ_mul]at hk;omega
     have e:=congrArg (fun(A:Array Value)=>A[k-z.length]?) ih
     simp only[Array.getElem?_map,List.getElem?_toArray]at e
     rw[List.getElem?_eq_getElem (by rw[hz];exact hk')]at e
     rw[Array.getElem?_range,if_pos hk']at e
     simp only[Option.map_some,Option.some.injEq]at e
     rw[←e]
     congr 1
     rw[Nat.mod_eq_sub_mod (by simpa using Nat.le_of_not_lt hlt)]
     simp
theorem d_buildSlice{t e:TypeId}{n:Nat}{i j:TI}{ps:List (Nat × Operand)}{vs:List (Nat × Value)}{zs cs:List Value}(hs:Sl N L a)(ho:o.op= .buildSlice t n ps.toArray)(hT:TabOk P T)(hc:tlk T t=some i)(hd:i.d= .sl e)(he:tlk T e=some j)(hn:Nat.blt (n*j.sz) 16777216=true)(h0:Nat.beq (n*j.sz) 0=false)(hp:evp L ps=some vs)(hz:vcF j.z=some zs)(hzl:zs.length=j.sz)(hf:fillAF j.sz vs (zrep n zs)=some cs)(hm:Mm S w0 M w):
  Does P a o w (fun v w'=>∃g,v= .slice (some ⟨g,0,none⟩) n n∧w.heap.size≤g∧Mm S w0 (⟨some g,e,cs⟩::M) w'):=by
 replace hz:=vcF_ok hz
 replace hf:=fillAF_ok hf
 replace hp:=hs.evp hp
 have hfl:=hf.fill
 have hn':¬n*j.sz>2 ^ 24:=by
  have:n*j.sz<16777216:=by simpa using hn
  omega
 have h0':¬n*j.sz=0:=fun e=>by rw[e]at h0;cases h0
 have hzr:=zrep_eq n zs
 rw[hzl]at hzr
 unfold Does execOp
 simp only[ho,Instr.buildSlice,Sem.run_bind,run_und ((hT _ _ hc).sl hd),run_sizeOf (hT _ _ he),Result.andThen_ok,if_neg hn',if_neg h0',Sem.run_pure,run_zero (hT _ _ he),hz.eq,hzr]
 simp only[List.map_toArray,hp,hfl]
 simp[newRow]
 exact hm.alloc e cs
theorem d_makeSlice{t e:TypeId}{n:Nat}{kk kl:IntKind}{i j:TI}{zs:List Value}(hs:Sl N L a)(ho:o.op= .makeSlice t x y)(hx:ev L x=some (.int kk (n:Int)))(hy:ev L y=some (.int kl (n:Int)))(hT:TabOk P T)(hc:tlk T t=some i)(hd:i.d= .sl e)(he:tlk T e=some j)(hz:vcF j.z=some zs)(hzl:zs.length=j.sz)(hn:n≤1048576)(hsz:Nat.ble j.by_ 1048576=true)(hm:Mm S w0 M w):
  Does P a o w (fun v w'=>∃g,v= .slice (some ⟨g,0,none⟩) n n∧w.heap.size≤g∧Mm S w0 (⟨some g,e,zrep n zs⟩::M) w'):=by
 replace hz:=vcF_ok hz
 replace hx:=hs.ev hx;replace hy:=hs.ev hy
 obtain⟨i0,h1,h2,h3,h4⟩:=(hT _ _ he).info
 have hb:j.by_≤1048576:=by simpa using hsz
 have hmul:j.by_*n≤1048576*1048576:=Nat.mul_le_mul hb hn
 have:=run_make w t e i0 j.z ((hT _ _ hc).sl hd) h1 h2 kk kl n n (by omega) (by omega) (by rw[h4];rw[←Int.natCast_mul];exact Int.ofNat_le.2 (show j.by_*n≤281474976710656 by omega)) (by omega)
 have e1:madeCells j.z.cells (n*i0.size)=(zrep n zs).toArray:=by
  rw[h3,hz.eq,←hzl,←zrep_eq]
  rfl
 simp only[Int.toNat_natCast]at this
 rw[e1]at this
 unfold Does execOp
 simp only[ho,hx,hy,Sem.run_bind,this,Result.andThen_ok]
 exact⟨_,rfl,Nat.le_refl _,hm.alloc e _⟩
theorem setRow_fr{g:Nat}{A:Array Value}:Fr (fun k=>(some g:Option Nat)=some k) w (w.setRow g A):=by
 refine⟨rfl,rfl,rfl,by simp[World.setRow],fun k hk hne=>?_⟩
 have:¬g=k:=fun e=>hne (by rw[e])
 simp[World.setRow,Array.getElem?_modify,this]
theorem setRow_sat{g:Nat}{t:TypeId}{cs ds:List Value}(h:(⟨some g,t,cs⟩:Hp).sat w):(⟨some g,t,ds⟩:Hp).sat (w.setRow g ds.toArray):=by
 have h':w.heap[g]?=some (.cells cs.toArray t (0,0)):=h
 show(w.setRow g ds.toArray).heap[g]?=_
 exact setRow_heap w g _ _ t _ h'
theorem Mm.store(hm:Mm S w0 M w){g:Nat}{t:TypeId}{cs ds:List Value}(hr:Rep M ⟨some g,t,cs⟩ ⟨some g,t,ds⟩ M'):Mm S w0 M' (w.setRow g ds.toArray):=
 hm.turn hr setRow_fr (setRow_sat (hm.me _ hr.mem)) fun _ hk=> .inl hk
theorem run_store_hp{g n:Nat}{t ty:TypeId}{i:TI}{cs ds vs:List Value}(hT:TabOk P T)(hc:tlk T ty=some i)(hl:vs.length=i.sz)(hz:VC v vs)(h1:vs.all (·.oneCell')=true)(hp:Put cs n vs ds)(hs:(⟨some g,t,cs⟩:Hp).sat w):
  Sem.run P (Instr.storeAt ty (.pointer (some ⟨g,n,none⟩)) v) w= .ok () (w.setRow g ds.toArray):=by
 obtain⟨h2,rfl⟩:=hp.eq
 have:=run_storeCells_at (P:=P) g n t vs 0 cs.toArray w hs (by simpa using h2) (fun u hu=>List.all_eq_true.1 h1 u hu)
 simp only[Nat.add_zero]at this
 simp[Instr.storeAt,Instr.sureAddr,storeVar,run_sizeOf (hT _ _ hc),hz.eq,hl,this]
theorem d_store{g n:Nat}{t ty:TypeId}{i:TI}{cs ds vs:List Value}(hs:Sl N L a)(ho:o.op= .store ty x y)(hx:ev L x=some (.pointer (some ⟨g,n,none⟩)))(hy:ev L y=some v)(hT:TabOk P T)(hc:tlk T ty=some i)(hz:vcF v=some vs)(hl:vs.length=i.sz)(h1:vs.all (·.oneCell')=true)(hm:Mm S w0 M w)(hr:Rep M ⟨some g,t,cs⟩ ⟨some g,t,ds⟩ M')(hp:putF cs n vs=some ds):
  Does P a o w (fun _ w'=>Mm S w0 M' w'):=by
 replace hz:=vcF_ok hz
 replace hp:=putF_ok hp
 replace hx:=hs.ev hx;replace hy:=hs.ev hy
 unfold Does execOp
 simp only[ho,hx,hy,Sem.run_bind,run_store_hp hT hc hl hz h1 hp (hm.me _ hr.mem),Result.andThen_ok]
 exact hm.store hr
theorem putF_nil(cs:List Value):putF cs 0 []=some cs:=by cases cs<;>rfl
theorem putF_one{cs:List Value}{n:Nat}{v:Value}(hn:n<cs.length):putF cs n [v]=some (cs.set n v):=by
 induction cs generalizing n with
 |nil=>simp at hn
 |cons c r ih=>
  cases n with
  |zero=>simp[putF,putF_nil]
  |succ n=>simp only[putF,ih (show n<r.length by simpa using hn),List.set_cons_succ]
theorem d_store1{g n:Nat}{t ty:TypeId}{i:TI}{cs:List Value}(hs:Sl N L a)(ho:o.op= .store ty x y)(hx:ev L x=some (.pointer (some ⟨g,n,none⟩)))(hy:ev L y=some v)(hT:TabOk P T)(hc:tlk T ty=some i)(hz:vcF v=some [v])(hl:Nat.beq i.sz 1=true)(h1:v.oneCell'=true)(hm:Mm S w0 M w)(hr:Rep M ⟨some g,t,cs⟩ ⟨some g,t,cs.set n v⟩ M')(hn:n<cs.length):
  Does P a o w (fun _ w'=>Mm S w0 M' w'):=
 d_store hs ho hx hy hT hc hz (by rw[Nat.eq_of_beq_eq_true hl];rfl) (by simp[h1]) hm hr (putF_one hn)
theorem d_append{t e:TypeId}{i j:TI}{A:Option Nat}{A2:Option Addr}{n c m c2 g2 o2:Nat}{xs cs news:List Value}{ts:Array TypeId}(hs:Sl N L a)(ho:o.op= .call {callee:= .builtin .append,args:=#[x,y],argTypes:=ts})(hx:ev L x=some (slv A n c))(hy:ev L y=some (.slice A2 m c2))(hA2:A2=some ⟨g2,o2,none⟩)(hts:ts=#[t,t])(hT:TabOk P T)(hc:tlk T t=some i)(hd:i.d= .sl e)(he:tlk T e=some j)(hsz:Nat.blt 0 j.sz=true)(hzl:j.z.cells.size=j.sz)
  (hm:Mm S w0 M w) (hM:(⟨A,e,cs⟩:Hp)∈M) (hr:Row A n c j.sz xs cs) (hl:news.length=m*j.sz) (hnew:Ro w g2 o2 news) (h1:news.all (·.oneCell')=true) (hb:(n+m)*j.by_≤140737488355328) (h63:n+m≤140737488355328):
  Does P a o w (fun v w'=>∃A' c' cs',v=slv A' (n+m) c'∧Row A' (n+m) c' j.sz (xs++news) cs'∧∀M',Rep M ⟨A,e,cs⟩ ⟨A',e,cs'⟩ M'→Mm S w0 M' w'):=by
 replace hx:=hs.ev hx;replace hy:=hs.ev hy
 subst hA2;subst hts
 obtain⟨i0,q1,q2,q3,q4⟩:=(hT _ _ he).info
 have hsz':0<j.sz:=by simpa using hsz
 have hown:=hr.own (w:=w) (base:=0) (hm.me _ hM) (fun g _=>Nat.zero_le _)
 obtain⟨v',w',hrun,k1,k2,k3,k4⟩:=run_append_own_at (P:=P) w 0 t o.type e i0 j.z j.sz j.by_ ((hT _ _ hc).sl hd) q1 q2 q3 q4 hzl hsz' _ n xs hown ⟨g2,o2,none⟩ m c2 news hl
  (fun k u hu=>by rw[add_lit];exact hnew k u hu) (fun u hu=>List.all_eq_true.1 h1 u hu) (by unfold maxLen;omega) hb (Nat.zero_le _)
 obtain⟨A',c',cs',rfl,hrow,hsat,hg'⟩:=Row.of_own k1
 unfold Does execOp resolve invoke builtin
 simp only[ho,Sem.run_bind,Sem.run_pure,Result.andThen_ok,List.map_toArray,List.map_cons,List.map_nil,hx,hy,hrun]
 have hob:(slv A n c).ownBlock=A:=by cases A<;>rfl
 rw[hob]at k2 k4
 refine⟨A',c',cs',rfl,hrow,fun M' hR=>hm.turn hR ⟨k2.os,k2.tape,k2.output,k2.size,fun k hk hne=>k2.block k hk (fun e=>hne e.symm)⟩ hsat fun g hg=>?_⟩
 have h5:=(hg' g hg).1
 have hob':(slv A' (n+m) c').ownBlock=A':=by cases A'<;>rfl
 rw[hob']at k4
 rcases k4 with h6|h6
 ·left;show A=some g;rw[←h6];exact hg
 ·right;have h7:A'=some g:=hg
  rw[h7]at h6;cases h6;exact Nat.le_refl _
structure plain(P:Program)(f:FuncId):Prop where
 h:(P.funcs[f]?).map (fun fn=>!(fn.name== "runtime.NumGoroutine")&&fn.body.isSome)=some true
structure Ret(P:Program)(f:FuncId)(vs:List Value)(w:World)(K:Value→World→Prop):Prop where
 c:Calls P f vs.toArray w (fun e w'=>∃v,e= .returned v∧K v w')
theorem Ret.mono{f:FuncId}{vs:List Value}{K':Value→World→Prop}(h:Ret P f vs w K)(hk:∀v w',K v w'→K' v w'):Ret P f vs w K':= .mk<|Calls.mono h.c fun _ _ ⟨v,he,hv⟩=>⟨v,he,hk _ _ hv⟩
theorem d_callC{fo:Operand}{xs:List Operand}{vs caps:List Value}{ts:Array TypeId}{f:FuncId}(hs:Sl N L a)(ho:o.op= .call {callee:= .value fo,args:=xs.toArray,argTypes:=ts})(hf:ev L fo=some (.func (.func f) #[] caps.toArray))(hx:evs L xs=some vs)(hp:plain P f)
  (hc:Ret P f (vs++caps) w K):Does P a o w K:=by
 replace hf:=hs.ev hf;replace hx:=hs.evs hx
 replace hp:=hp.h
 rw[Option.map_eq_some_iff]at hp
 obtain⟨fn,h1,h2⟩:=hp
 simp only[Bool.and_eq_true,Bool.not_eq_true']at h2
 have h3:fn.body.isNone=false:=by cases hb:fn.body<;>simp_all
 unfold Does execOp resolve Deferred.ofValue
 simp only[ho,hf,Sem.run_bind,Sem.run_pure,Result.andThen_ok,List.map_toArray,hx]
 unfold invoke callFunc
 simp only[Sem.run_bind,run_program,Result.andThen_ok,h1,h2.1,h3,Bool.false_eq_true,if_false,Sem.run_pure,List.append_toArray]
 exact hc.c
theorem d_call{fo:Operand}{xs:List Operand}{vs:List Value}{ts:Array TypeId}{f:FuncId}(hs:Sl N L a)(ho:o.op= .call {callee:= .value fo,args:=xs.toArray,argTypes:=ts})(hf:ev L fo=some (.func (.func f) #[] #[]))(hx:evs L xs=some vs)(hp:plain P f)
  (hc:Ret P f vs w K):Does P a o w K:=d_callC (caps:=[]) hs ho hf hx hp (by rw[List.append_nil];exact hc)
end
section
variable {P:Program} {T:List (Nat × TI)} {N:Nat} {L L':List (Nat × Value)} {a:Act} {w w0:World} {S:Nat→Prop} {M M':List Hp} {o:Oper} {x y z:Operand} {v u:Value} {K:Value→World→Prop} {Q:Exit→Act→World→Prop} {ops:Array Oper} {rest:List Oper}
theorem st{d:Nat}(hs:Sl N L a)(hg:o.guard=none)(ho:o.dst=some d)(hd:Nat.blt d N=true)(h:Does P a o w K)(k:∀v w',K v w'→∀a,Sl N ((d,v)::L) a→wpList P ops Q rest a w'):wpList P ops Q (o::rest) a w:=
 wpList_plain hg fun K' hK=>Does.wp (h.mono fun v w' hk=>hK _ _ (by rw[ho];exact k v w' hk _ (hs.put v hd)))
theorem stn(hs:Sl N L a)(hg:o.guard=none)(ho:o.dst=none)(h:Does P a o w K)(k:∀v w',K v w'→∀a,Sl N L a→wpList P ops Q rest a w'):wpList P ops Q (o::rest) a w:=
 wpList_plain hg fun K' hK=>Does.wp (h.mono fun v w' hk=>hK _ _ (by rw[ho];exact k v w' hk _ hs))
theorem yielded_of{j d:Nat}{b:Bool}(hs:Sl N L a)(hj:(ops[j]?).bind (·.dst)=some d) (hd:Nat.blt d N=true) (hv:lk L d=some (.bool b)):yielded ops a.tmps j=some b:=by
 have h:=hs.sl d _ hv
 have hd':d<a.tmps.size:=by rw[hs.sz];simpa using hd
 have h1:a.tmps[d]?=some (.bool b):=by
  rw[Array.getD_eq_getD_getElem?,Array.getElem?_eq_getElem hd']at h
  rw[Array.getElem?_eq_getElem hd']
  simpa using h
 unfold yielded
 simp[hj,h1]
theorem yielded_un{j d:Nat}(hs:Sl N L a)(hj:(ops[j]?).bind (·.dst)=some d) (hd:Nat.blt d N=true) (hv:lk L d=some undef):yielded ops a.tmps j=none:=by
 have h:=hs.sl d _ hv
 have hd':d<a.tmps.size:=by rw[hs.sz];simpa using hd
 have h1:a.tmps[d]?=some undef:=by
  rw[Array.getD_eq_getD_getElem?,Array.getElem?_eq_getElem hd']at h
  rw[Array.getElem?_eq_getElem hd']
  simpa using h
 unfold yielded
 simp[hj,h1]
 rfl
inductive Wnt (ops:Array Oper) (N:Nat) (L:List (Nat × Value)) (o:Oper):Prop
 |none (h:o.guard=none):Wnt ops N L o
 |some {j e:Nat} {b:Bool} (h:o.guard=some (j,b)) (hj:(ops[j]?).bind (·.dst)=Option.some e) (he:Nat.blt e N=true) (hv:lk L e=Option.some (.bool b)):Wnt ops N L o
theorem Wnt.yes(hs:Sl N L a)(h:Wnt ops N L o):Region.wanted o (yielded ops a.tmps)=true:=by
 cases h with
 |none h=>simp[Region.wanted,h]
 |some h hj he hv=>simp[Region.wanted,h,yielded_of hs hj he hv]
theorem dv{d:Nat}(hs:Sl N L a)(hg:Wnt ops N L o)(ho:o.dst=some d)(hd:Nat.blt d N=true)(h:Does P a o w K)(k:∀v w',K v w'→∀a,Sl N ((d,v)::L) a→wpList P ops Q rest a w'):wpList P ops Q (o::rest) a w:=
 wpList_step fun K' hK=>by
  rw[if_pos (hg.yes hs)]
  exact Does.wp (h.mono fun v w' hk=>hK _ _ (by rw[ho];exact k v w' hk _ (hs.put v hd)))
theorem cIf{c:Operand}{A B:Code}{b:Bool}(hs:Sl N L a)(hc:ev L c=some (.bool b))(ht:b=true→A.wp P Q a w)(hf:b=false→B.wp P Q a w):(Code.cond c A B).wp P Q a w:=
 wp_cond_split (hs.ev hc) ht hf
theorem cTrue{c:Operand}{A B:Code}{b:Bool}(hs:Sl N L a)(hc:ev L c=some (.bool b))(hb:b=true)(ht:A.wp P Q a w):(Code.cond c A B).wp P Q a w:=
 cIf hs hc (fun _=>ht) fun h=>by rw[hb]at h;cases h
theorem cFalse{c:Operand}{A B:Code}{b:Bool}(hs:Sl N L a)(hc:ev L c=some (.bool b))(hb:b=false)(hf:B.wp P Q a w):(Code.cond c A B).wp P Q a w:=
 cIf hs hc (fun h=>by rw[hb]at h;cases h) fun _=>hf
theorem cCond{c:Operand}{A B:Code}(h:(Code.cond c A B).wp P Q a w):(Code.cond c A B).wp P Q a w:=h
theorem cLoop{X:Type}{c:Code}(I:X→Act→World→Prop)(m:X→Nat)(x0:X)(h0:I x0 a w)(hr:∀x a w,I x a w→c.wp P (Exit.then (fun a' w'=>∃x',m x'<m x∧I x' a' w') Q) a w):(Code.loop c).wp P Q a w:=by
 refine wp_loop_ghost (fun n a w=>∃x,m x=n∧I x a w) (m x0) ⟨x0,rfl,h0⟩ fun n a w ⟨x,hx,hI⟩=>?_
 refine wp_mono (hr x a w hI) fun e a' w' q=>?_
 cases e<;>first|exact q|skip
 obtain⟨x',h1,h2⟩:=q
 exact⟨m x',by rw[←hx];exact h1,x',rfl,h2⟩
def Goes(Q:Exit→Act→World→Prop)(e:Exit)(a:Act)(w:World):Prop:=Q e a w
theorem lCons(h:wpList P ops Q (o::rest) a w):wpList P ops Q (o::rest) a w:=h
theorem lNilThen{n:Act→World→Prop}(h:n a w):wpList P ops (Exit.then n Q) [] a w:=h
theorem lNilBlock{i:Nat}(h:wpList P ops Q [] a w):wpList P ops (Exit.inBlock i Q) [] a w:=h
theorem lNil(h:Goes Q .normal a w):wpList P ops Q [] a w:=h
theorem cExit{i:Nat}(h:Goes Q (.exit i) a w):(Code.exit i).wp P Q a w:=wp_exit h
theorem cRet(h:Goes Q .ret a w):Code.ret.wp P Q a w:=wp_ret h
theorem cSkip(h:Goes Q .normal a w):Code.skip.wp P Q a w:=wp_skip h
theorem gThen{n:Act→World→Prop}(h:n a w):Goes (Exit.then n Q) .normal a w:=h
theorem gBlock{i:Nat}(h:Goes Q .normal a w):Goes (Exit.inBlock i Q) .normal a w:=h
theorem eThen{n:Act→World→Prop}{i:Nat}(h:Goes Q (.exit i) a w):Goes (Exit.then n Q) (.exit i) a w:=h
theorem eBlockHit{i:Nat}(h:Goes Q .normal a w):Goes (Exit.inBlock i Q) (.exit i) a w:=by
 show(if i=i then Q .normal a w else Q (.exit i) a w)
 rw[if_pos rfl];exact h
theorem eBlock{i j:Nat}(hij:Nat.beq i j=false)(h:Goes Q (.exit i) a w):Goes (Exit.inBlock j Q) (.exit i) a w:=by
 show(if i=j then Q .normal a w else Q (.exit i) a w)
 rw[if_neg (fun e=>by subst e;simp at hij)];exact h
theorem rThen{n:Act→World→Prop}(h:Goes Q .ret a w):Goes (Exit.then n Q) .ret a w:=h
theorem rBlock{i:Nat}(h:Goes Q .ret a w):Goes (Exit.inBlock i Q) .ret a w:=h
def slotsOf:Nat→List Value→List (Nat × Value)
 |_,[]=>[]
 |n,v::r=>(n,v)::slotsOf (n+1) r
theorem lk_slotsOf:∀(vs:List Value)(n k:Nat)(v:Value),lk (slotsOf n vs) k=some v→n≤k∧vs[k-n]?=some v
 |[],n,k,v,h=>by cases h
 |u::r,n,k,v,h=>by
  simp only[slotsOf,lk]at h
  cases hb:Nat.beq n k with
  |true=>
   rw[hb]at h
   have:n=k:=Nat.eq_of_beq_eq_true hb
   subst this
   simpa using h
  |false=>
   rw[hb]at h
   have h1:n≠k:=fun e=>by subst e;simp at hb
   obtain⟨h2,h3⟩:=lk_slotsOf r (n+1) k v h
   refine⟨by omega,?_⟩
   have e:k-n=(k-(n+1))+1:=by omega
   rw[e];simpa using h3
theorem Sl.enter{vs:List Value}(hN:vs.length≤N):Sl N (slotsOf 0 vs) {tmps:=vs.toArray++Array.replicate (N-vs.length) undef,defers:=[]}:=by
 refine⟨rfl,by simp;omega,fun k v hk=>?_⟩
 obtain⟨_,h⟩:=lk_slotsOf vs 0 k v hk
 have hlt:k<vs.length:=by
  rcases Nat.lt_or_ge k vs.length with h1|h1
  ·exact h1
  ·rw[List.getElem?_eq_none (by simpa using h1)]at h;cases h
 rw[Array.getD_eq_getD_getElem?,Array.getElem?_append_left (by simpa using hlt)]
 simp at h ⊢
 rw[h];rfl
theorem enter{f:FuncId}{fn:Func}{c:Code}{vs:List Value}{R:Ending→World→Prop}(hf:P.funcs[f]?=some fn) (hb:fn.body=some c) (hn:fn.ntmps=N) (hN:Nat.ble vs.length N=true)
  (h:∀a,Sl N (slotsOf 0 vs) a→c.wp P (bodyPost P fn R) a w):Calls P f vs.toArray w R:=by
 subst hn
 exact calls_of_wp hf hb (by rw[List.size_toArray];exact h _ (Sl.enter (by simpa using hN)))
theorem enterR{f:FuncId}{fn:Func}{c:Code}{vs:List Value}(hf:P.funcs[f]?=some fn) (hb:fn.body=some c) (hn:fn.ntmps=N) (hN:Nat.ble vs.length N=true)
  (h:∀a,Sl N (slotsOf 0 vs) a→Mm (fun _=>False) w [] w→c.wp P (bodyPost P fn (fun e w'=>∃v,e= .returned v∧K v w')) a w):Ret P f vs w K:=
 .mk<|enter hf hb hn hN fun a hs=>h a hs (Mm.nil _ _)
theorem gRet1{fn:Func}{t:Nat}(hs:Sl N L a)(hf:fn.results=#[.tmp t])(hv:lk L t=some v)(h:K v w):Goes (bodyPost P fn (fun e w'=>∃v,e= .returned v∧K v w')) .ret a w:=
 ⟨hs.nd,v,by rw[results_tmp hf,hs.sl t v hv],v,rfl,h⟩
inductive ResIs (T:List (Nat × TI)) (L:List (Nat × Value)) (w:World):ResultVar→Value→Prop
 |tmp {t:Nat} {v:Value} (h:lk L t=some v):ResIs T L w (.tmp t) v
 |cell {t:Nat} {ty:TypeId} {i:TI} {p:Addr} {v:Value} (h:lk L t=some (.pointer (some p))) (hc:tlk T ty=some i) (hf:i.d.flat=true) (hw:w.cell? p=some v):ResIs T L w (.cell t ty) v
 |cells {t:Nat} {ty:TypeId} {i:TI} {b n:Nat} {vs:List Value} (h:lk L t=some (.pointer (some ⟨b,n,none⟩))) (hc:tlk T ty=some i) (hf:i.d.flat=false) (hl:vs.length=i.sz) (hw:Ro w b n vs):ResIs T L w (.cell t ty) (.agg vs.toArray)
inductive AllRes (T:List (Nat × TI)) (L:List (Nat × Value)) (w:World):List ResultVar→List Value→Prop
 |nil:AllRes T L w [] []
 |cons {r:ResultVar} {v:Value} {rs:List ResultVar} {vs:List Value} (h:ResIs T L w r v) (t:AllRes T L w rs vs):AllRes T L w (r::rs) (v::vs)
theorem ResIs.run{r:ResultVar}(hT:TabOk P T)(hs:Sl N L a)(h:ResIs T L w r v):Sem.run P (match r with| .tmp t=>(pure (a.tmps.getD t undef):Sem Value)| .cell b t=>do loadVar t (←asAddr (a.tmps.getD b undef))) w= .ok v w:=by
 cases h with
 |tmp h=>simp only[hs.sl _ _ h,Sem.run_pure]
 |cell h hc hf hw=>simp[hs.sl _ _ h,asAddr,loadVar,run_isAgg (hT _ _ hc),hf,hw]
 |cells h hc hf hl hw=>
  rename_i b n vs
  have h':=run_loadCells_list (P:=P) w ⟨b,n,none⟩ vs (fun j u hu=>by rw[add_lit];exact hw j u hu)
  rw[hl]at h'
  simp[hs.sl _ _ h,asAddr,loadVar,run_isAgg (hT _ _ hc),hf,run_sizeOf (hT _ _ hc),h']
theorem AllRes.run{rs:List ResultVar}{vs:List Value}(hT:TabOk P T)(hs:Sl N L a)(h:AllRes T L w rs vs):Sem.run P (rs.mapM fun r=>match r with| .tmp t=>(pure (a.tmps.getD t undef):Sem Value)| .cell b t=>do loadVar t (←asAddr (a.tmps.getD b undef))) w= .ok vs w:=by
 induction h with
 |nil=>simp
 |cons h _ ih=>
  have h1:=h.run hT hs
  simp only[List.mapM_cons,Sem.run_bind]
  rw[h1]
  simp only[Result.andThen_ok]
  rw[ih]
  simp
def resV:List Value→Value
 |[v]=>v
 |vs=> .tuple vs.toArray
theorem retN{fn:Func}{rs:List ResultVar}{vs:List Value}{R:Ending→World→Prop}(hT:TabOk P T)(hs:Sl N L a)(hf:fn.results=rs.toArray)(hv:AllRes T L w rs vs)(h:R (.returned (resV vs)) w):bodyPost P fn R .ret a w:=by
 refine⟨hs.nd,_,?_,h⟩
 have h1:=hv.run hT hs
 unfold results
 simp only[hf,Sem.run_bind,List.mapM_toArray,Sem.run_map]
 erw [h1]
 simp only[Result.andThen_ok,Sem.run_pure,List.size_toArray]
 cases vs with
 |nil=>rfl
 |cons v r=>cases r<;>rfl
theorem gRetN{fn:Func}{rs:List ResultVar}{vs:List Value}(hT:TabOk P T)(hs:Sl N L a)(hf:fn.results=rs.toArray)(hv:AllRes T L w rs vs)(h:K (resV vs) w):Goes (bodyPost P fn (fun e w'=>∃v,e= .returned v∧K v w')) .ret a w:=retN hT hs hf hv ⟨_,rfl,h⟩
theorem retEnd{fn:Func}{rs:List ResultVar}{vs:List Value}{R:Ending→World→Prop}(hT:TabOk P T)(hs:Sl N L a)(hf:fn.results=rs.toArray)(hv:AllRes T L w rs vs)(h:R (.returned (resV vs)) w):bodyPost P fn R .normal a w:=retN hT hs hf hv h
end
section
variable {P:Program} {T:List (Nat × TI)} {N:Nat} {L:List (Nat × Value)} {a:Act} {w w0:World} {S:Nat→Prop} {M:List Hp} {o:Oper} {x y z:Operand} {v u:Value}
theorem r_loadO{t t':TypeId}{i:TI}{b n k:Nat}{cs vs:List Value}(hs:Sl N L a)(ho:o.op= .load t x)(hx:ev L x=some (.pointer (some ⟨b,n,none⟩)))(hT:TabOk P T)(hc:tlk T t=some i)(hf:i.d.flat=false)(hk:i.sz=k)(hm:Mm S w0 M w)(hM:(⟨some b,t',cs⟩:Hp)∈M)(hv:cutF cs n k=some vs):RunV P a o w (.agg vs.toArray):=
 r_loadA hs ho hx hT hc hf (hm.ro hM (cutF_ok hv)) (by rw[hk];exact(cutF_ok hv).len)
theorem r_pickT(hs:Sl N L a)(ho:o.op= .pick x y z)(hx:ev L x=some (.bool true))(hy:ev L y=some v):RunV P a o w v:=by
 replace hx:=hs.ev hx;replace hy:=hs.ev hy
 unfold RunV execOp
 simp[ho,hx,hy,asBool]
theorem r_pickF(hs:Sl N L a)(ho:o.op= .pick x y z)(hx:ev L x=some (.bool false))(hz:ev L z=some v):RunV P a o w v:=by
 replace hx:=hs.ev hx;replace hz:=hs.ev hz
 unfold RunV execOp
 simp[ho,hx,hz,asBool]
theorem r_quo64{t yt:TypeId}{n m:Int}(hs:Sl N L a)(ho:o.op= .binOp .quo t x y yt)(hx:ev L x=some (.int .i64 n))(hy:ev L y=some (.int .i64 m))(hn:0≤n∧n≤9223372036854775807)(hm:0<m):RunV P a o w (.int .i64 (n/m)):=by
 have h:=r_quo (P:=P) (w:=w) hs ho hx hy (by omega)
 rwa[ediv_wrap64 hn.1 hn.2 hm]at h
theorem r_rem64{t yt:TypeId}{k:IntKind}{n m:Int}(hs:Sl N L a)(ho:o.op= .binOp .rem t x y yt)(hx:ev L x=some (.int k n))(hy:ev L y=some (.int k m))(hn:0≤n)(hm:0<m):RunV P a o w (.int k (n%m)):=by
 have h:=r_rem (P:=P) (w:=w) hs ho hx hy (by omega)
 rwa[Int.tmod_eq_emod_of_nonneg hn]at h
theorem run_eqB{t:TypeId}{b c:Bool}(h:P.underlying t=some .bool):Sem.run P (Op.equal t (.bool b) (.bool c)) w= .ok (b==c) w:=by
 unfold Op.equal Op.maxDepth Op.equalIn
 simp[run_und h]
theorem r_eqlB{t yt:TypeId}{i:TI}{b c:Bool}(hs:Sl N L a)(ho:o.op= .binOp .eql t x y yt)(hx:ev L x=some (.bool b))(hy:ev L y=some (.bool c))(hT:TabOk P T)(hc:tlk T t=some i)(hd:i.d= .bool):RunV P a o w (.bool (b==c)):=by
 replace hx:=hs.ev hx;replace hy:=hs.ev hy
 have:=run_eqB (w:=w) (b:=b) (c:=c) ((hT _ _ hc).bool hd)
 unfold RunV execOp
 simp[ho,hx,hy,binOp,this,eqGuard]
theorem r_neqB{t yt:TypeId}{i:TI}{b c:Bool}(hs:Sl N L a)(ho:o.op= .binOp .neq t x y yt)(hx:ev L x=some (.bool b))(hy:ev L y=some (.bool c))(hT:TabOk P T)(hc:tlk T t=some i)(hd:i.d= .bool):RunV P a o w (.bool (!(b==c))):=by
 replace hx:=hs.ev hx;replace hy:=hs.ev hy
 have:=run_eqB (w:=w) (b:=b) (c:=c) ((hT _ _ hc).bool hd)
 unfold RunV execOp
 simp[ho,hx,hy,binOp,this,eqGuard]
theorem run_eqnil{t e:TypeId}{A:Option Addr}{n c:Nat}(h:P.underlying t=some (.slice e)):Sem.run P (Op.equal t (.slice A n c) (.slice none 0 0)) w= .ok A.isNone w:=by
 unfold Op.equal Op.maxDepth Op.equalIn
 cases A<;>simp[run_und h]
theorem r_eqnil{t e yt:TypeId}{i:TI}{A:Option Addr}{n c:Nat}(hs:Sl N L a)(ho:o.op= .binOp .eql t x y yt)(hx:ev L x=some (.slice A n c))(hy:ev L y=some (.slice none 0 0))(hT:TabOk P T)(hc:tlk T t=some i)(hd:i.d= .sl e):RunV P a o w (.bool A.isNone):=by
 replace hx:=hs.ev hx;replace hy:=hs.ev hy
 have:=run_eqnil (w:=w) (A:=A) (n:=n) (c:=c) ((hT _ _ hc).sl hd)
 unfold RunV execOp
 simp[ho,hx,hy,binOp,this,eqGuard]
theorem r_neqnil{t e yt:TypeId}{i:TI}{A:Option Addr}{n c:Nat}(hs:Sl N L a)(ho:o.op= .binOp .neq t x y yt)(hx:ev L x=some (.slice A n c))(hy:ev L y=some (.slice none 0 0))(hT:TabOk P T)(hc:tlk T t=some i)(hd:i.d= .sl e):RunV P a o w (.bool (!A.isNone)):=by
 replace hx:=hs.ev hx;replace hy:=hs.ev hy
 have:=run_eqnil (w:=w) (A:=A) (n:=n) (c:=c) ((hT _ _ hc).sl hd)
 unfold RunV execOp
 simp[ho,hx,hy,binOp,this,eqGuard]
theorem r_seql{t yt:TypeId}{s u:ByteArray}(hs:Sl N L a)(ho:o.op= .binOp .eql t x y yt)(hx:ev L x=some (.string s))(hy:ev L y=some (.string u)):RunV P a o w (.bool (s.toList==u.toList)):=by
 replace hx:=hs.ev hx;replace hy:=hs.ev hy
 unfold RunV execOp
 simp[ho,hx,hy,binOp,Op.stringOp,eqGuard]
theorem r_sneq{t yt:TypeId}{s u:ByteArray}(hs:Sl N L a)(ho:o.op= .binOp .neq t x y yt)(hx:ev L x=some (.string s))(hy:ev L y=some (.string u)):RunV P a o w (.bool (!(s.toList==u.toList))):=by
 replace hx:=hs.ev hx;replace hy:=hs.ev hy
 unfold RunV execOp
 simp[ho,hx,hy,binOp,Op.stringOp,eqGuard]
end
def quietOp:Op→Bool
 | .alloc _| .box ..| .buildSlice ..| .store ..| .makeMap ..| .makeChan ..| .makeSlice ..| .mapUpdate ..| .insert ..| .mapEntry ..| .entryStore ..| .go _| .defer _| .panic _| .send ..| .recv ..| .select ..| .range ..| .next ..| .entry _=>false
 | .call {callee:= .builtin .append,..}| .call {callee:= .builtin .copy,..}| .call {callee:= .builtin .delete,..}| .call {callee:= .builtin .clear,..}=>false
 |_=>true
section
variable {P:Program} {T:List (Nat × TI)} {N:Nat} {L:List (Nat × Value)} {a:Act} {w w0:World} {S:Nat→Prop} {M:List Hp} {o:Oper} {x y z:Operand} {v u:Value} {ops:Array Oper} {rest:List Oper} {Q:Exit→Act→World→Prop} {C:World→Prop} {Qa:Act→Prop}
theorem cQuiet{id:Nat}{l:List Oper}(hm:Mm S w0 M w)(hq:l.all (fun o=>quietOp o.op)=true)(hf:P.follows .mixedOrders=true)(hB:Region.lexB .any l.toArray=true)
  (h:wpQuiet P l.toArray (fun w'=>Mm S w0 M w') (fun a'=>∀w',Mm S w0 M w'→Goes Q .normal a' w') l a):(Code.region id l.toArray true).wp P Q a w:=
 (fun _=>wp_region_quiet (C:=fun w'=>Mm S w0 M w') hf hB hm.drew (show wpQuiet P l.toArray _ _ l.toArray.toList a from h)) hq
theorem qNil(h:∀w',Mm S w0 M w'→Goes Q .normal a w'):wpQuiet P ops C (fun a'=>∀w',Mm S w0 M w'→Goes Q .normal a' w') [] a:=h
theorem qCons(h:wpQuiet P ops C Qa (o::rest) a):wpQuiet P ops C Qa (o::rest) a:=h
theorem qquiet(h:∀w,C w→RunV P a o w v)(k:Qa (a.put o.dst v)):o.quiet P a C Qa:=
 ⟨v,fun w hw=>by unfold Oper.quietAt;rw[show(execOp a.eval o).run P w=_ from h w hw];exact⟨rfl,rfl⟩,k⟩
theorem qquietC{fo:Operand}{xs:List Operand}{vs caps:List Value}{ts:Array TypeId}{f:FuncId}(hs:Sl N L a)(ho:o.op= .call {callee:= .value fo,args:=xs.toArray,argTypes:=ts})(hf:ev L fo=some (.func (.func f) #[] caps.toArray))(hx:evs L xs=some vs)(hp:plain P f)
  (hc:∀w,C w→Ret P f (vs++caps) w (fun v' w'=>v'=v∧C w')) (k:Qa (a.put o.dst v)):o.quiet P a C Qa:=by
 replace hf:=hs.ev hf;replace hx:=hs.evs hx
 replace hp:=hp.h
 rw[Option.map_eq_some_iff]at hp
 obtain⟨fn,h1,h2⟩:=hp
 simp only[Bool.and_eq_true,Bool.not_eq_true']at h2
 have h3:fn.body.isNone=false:=by cases hb:fn.body<;>simp_all
 refine⟨v,fun w hw=>?_,k⟩
 have h4:Calls P f (vs++caps).toArray w (fun e w''=>e= .returned v∧C w''):=by
  have h5:=hc w hw
  replace h5:=h5.c
  exact Calls.mono h5 fun e w' ⟨v',he,hv,hC⟩=>by subst hv;exact⟨he,hC⟩
 unfold Oper.quietAt execOp resolve Deferred.ofValue
 simp only[ho,hf,Sem.run_bind,Sem.run_pure,Result.andThen_ok,List.map_toArray,hx]
 unfold invoke callFunc
 simp only[Sem.run_bind,run_program,Result.andThen_ok,h1,h2.1,h3,Bool.false_eq_true,if_false,Sem.run_pure,List.append_toArray]
 exact⟨rfl,h4⟩
theorem qwcall{d:Nat}{fo:Operand}{xs:List Operand}{vs:List Value}{ts:Array TypeId}{f:FuncId}(hs:Sl N L a)(hg:Wnt ops N L o)(ho':o.dst=some d)(hd:Nat.blt d N=true)(ho:o.op= .call {callee:= .value fo,args:=xs.toArray,argTypes:=ts})(hf:ev L fo=some (.func (.func f) #[] #[]))(hx:evs L xs=some vs)(hp:plain P f)
  (hc:∀w,C w→Ret P f vs w (fun v' w'=>v'=v∧C w')) (k:∀a,Sl N ((d,v)::L) a→wpQuiet P ops C Qa rest a):wpQuiet P ops C Qa (o::rest) a:=by
 unfold wpQuiet
 rw[if_pos (hg.yes hs)]
 exact qquietC (caps:=[]) hs ho hf hx hp (by rw[List.append_nil];exact hc) (by rw[ho'];exact k _ (hs.put v hd))
theorem kLoad{d:Option Tmp}{t:TypeId}{x:Operand}{ty:TypeId}{p:String}{f:Array Edge}{g:Option (Nat × Bool)}(h:RunV P a ⟨d,.load t x,ty,p,f,g⟩ w v):RunV P a ⟨d,.load t x,ty,p,f,g⟩ w v:=h
end
theorem ints_some{xs:List Int}{k:Nat}(h:k<xs.length):(ints xs)[k]?=some (.int .i64 xs[k]):=by simp[ints,h]
section
variable {P:Program} {T:List (Nat × TI)} {N:Nat} {L:List (Nat × Value)} {a:Act} {w w0:World} {S:Nat→Prop} {M M':List Hp} {o:Oper} {x y z:Operand} {v u:Value}
theorem r_min{ts:Array TypeId}{k:IntKind}{n m:Int}(hs:Sl N L a)(ho:o.op= .call {callee:= .builtin .min,args:=#[x,y],argTypes:=ts})(hx:ev L x=some (.int k n))(hy:ev L y=some (.int k m)):RunV P a o w (.int k (min n m)):=by
 replace hx:=hs.ev hx;replace hy:=hs.ev hy
 unfold RunV
 generalize a.eval=ρ at*
 unfold execOp resolve invoke builtin
 simp[ho,hx,hy,go_sem]
 omega
theorem d_buildSlice0{t e:TypeId}{i j:TI}(ho:o.op= .buildSlice t 0 #[])(hT:TabOk P T)(hc:tlk T t=some i)(hd:i.d= .sl e)(he:tlk T e=some j)(hm:Mm S w0 M w):
  Does P a o w (fun v w'=>∃g,v= .slice (some ⟨g,0,none⟩) 0 0∧w.heap.size≤g∧Mm S w0 (⟨some g,e,[]⟩::M) w'):=by
 unfold Does execOp
 simp only[ho,Instr.buildSlice,Sem.run_bind,run_und ((hT _ _ hc).sl hd),run_sizeOf (hT _ _ he),Result.andThen_ok,Nat.zero_mul]
 simp[Instr.fill,newRow,Array.range]
 exact hm.alloc e []
theorem d_appendS{t e:TypeId}{i j:TI}{A:Option Nat}{A2:Option Addr}{n c m c2 B:Nat}{xs cs news:List Value}{ts:Array TypeId}(hs:Sl N L a)(ho:o.op= .call {callee:= .builtin .append,args:=#[x,y],argTypes:=ts})(hx:ev L x=some (slv A n c))(hy:ev L y=some (.slice A2 m c2))(hts:ts=#[t,t])(hT:TabOk P T)(hc:tlk T t=some i)(hd:i.d= .sl e)(he:tlk T e=some j)(hsz:Nat.blt 0 j.sz=true)(hzl:j.z.cells.size=j.sz)
  (hm:Mm S w0 M w) (hM:(⟨A,e,cs⟩:Hp)∈M) (hr:Row A n c j.sz xs cs) (hl:news.length=m*j.sz) (hnew:Rd w B A2 news) (h1:news.all (·.oneCell')=true) (hb:(n+m)*j.by_≤140737488355328) (h63:n+m≤140737488355328):
  Does P a o w (fun v w'=>∃A' c' cs',v=slv A' (n+m) c'∧Row A' (n+m) c' j.sz (xs++news) cs'∧∀M',Rep M ⟨A,e,cs⟩ ⟨A',e,cs'⟩ M'→Mm S w0 M' w'):=by
 have hsz':0<j.sz:=by simpa using hsz
 by_cases h0:0<news.length
 ·obtain⟨b,off,rfl,_,hro⟩:=hnew h0
  exact d_append hs ho hx hy rfl hts hT hc hd he hsz hzl hm hM hr hl hro h1 hb h63
 ·have hn:news=[]:=List.eq_nil_of_length_eq_zero (by omega)
  subst hn
  have hm0:m=0:=by
   have h2:m*j.sz=0:=by simpa using hl.symm
   rcases Nat.mul_eq_zero.1 h2 with h|h
   ·exact h
   ·omega
  subst hm0
  replace hx:=hs.ev hx;replace hy:=hs.ev hy
  subst hts
  have hf:Sem.run P (Builtin.firstCells j.sz 0 (.slice A2 0 c2)) w= .ok #[] w:=by
   cases A2<;>simp[Builtin.firstCells,loadCells,loadCellsFrom]
  have hmt:(match TypeDesc.slice e with|TypeDesc.int _=>true|_=>false)=false:=rfl
  have hrun:Sem.run P (Builtin.append_ #[t,t] o.type #[slv A n c,.slice A2 0 c2]) w= .ok (slv A n c) w:=by
   have hle:n≤c:=hr.le
   unfold Builtin.append_ slv
   cases A<;>simp[run_und ((hT _ _ hc).sl hd),run_sizeOf (hT _ _ he),Builtin.lenOf,hf,hle,storeCells]
  unfold Does execOp resolve invoke builtin
  simp only[ho,Sem.run_bind,Sem.run_pure,Result.andThen_ok,List.map_toArray,List.map_cons,List.map_nil,hx,hy,hrun]
  refine⟨A,c,cs,rfl,by rw[List.append_nil];exact hr,fun M' hR=>?_⟩
  exact hm.turn hR (Fr.refl _ w) (hm.me _ hM) (fun g hg=> .inl hg)
end
section
variable {P:Program} {T:List (Nat × TI)} {N:Nat} {L:List (Nat × Value)} {a:Act} {w w0:World} {o:Oper} {x y z:Operand} {t e:TypeId} {i j:TI} {A:Option Addr} {n c:Nat} {k k':IntKind} {l h:Int}
theorem r_subH{yt:TypeId}{m:Nat}{p q:Int}(hs:Sl N L a)(ho:o.op= .binOp .sub t x y yt)(hx:ev L x=some (.int .i64 p))(hy:ev L y=some (.int .i64 q))(he:p-q=(m:Int))(hb:(m:Int)≤9223372036854775807):RunV P a o w (.int .i64 (m:Int)):=by
 have h:=r_sub64 (P:=P) (w:=w) hs ho hx hy (by omega)
 rwa[he]at h
theorem r_pred{yt:TypeId}{m:Nat}(hs:Sl N L a)(ho:o.op= .binOp .sub t x y yt)(hx:ev L x=some (.int .i64 ((m+1:Nat):Int)))(hy:ev L y=some (.int .i64 1))(hb:(m:Int)≤9223372036854775806):RunV P a o w (.int .i64 (m:Int)):=
 r_subH hs ho hx hy (by omega) (by omega)
theorem add_zero'(p:Addr):p.add 0=p:=by cases p;rfl
theorem r_sliceTo(hs:Sl N L a)(ho:o.op= .slice t x none (some y) none)(hx:ev L x=some (.slice A n c))(hy:ev L y=some (.int k h))(hT:TabOk P T)(hc:tlk T t=some i)(hd:i.d= .sl e)(he:tlk T e=some j)(h0:0≤h)(h1:h≤c):RunV P a o w (.slice A h.toNat c):=by
 replace hx:=hs.ev hx;replace hy:=hs.ev hy
 unfold RunV execOp
 have e1:(A.map fun x=>x.add 0)=A:=by cases A<;>simp[add_zero']
 simp[ho,hx,hy,Instr.sliceAt,Instr.slice,run_und ((hT _ _ hc).sl hd),Instr.sliceBounds,run_sliceBound,h0,h1,run_sizeOf (hT _ _ he),e1]
theorem r_sliceFrom(hs:Sl N L a)(ho:o.op= .slice t x (some y) none none)(hx:ev L x=some (.slice A n c))(hy:ev L y=some (.int k l))(hT:TabOk P T)(hc:tlk T t=some i)(hd:i.d= .sl e)(he:tlk T e=some j)(h0:0≤l)(h1:l≤n):RunV P a o w (.slice (if c=l.toNat then A else A.map (·.add (l.toNat*j.sz))) (n-l.toNat) (c-l.toNat)):=by
 replace hx:=hs.ev hx;replace hy:=hs.ev hy
 unfold RunV execOp
 simp[ho,hx,hy,Instr.sliceAt,Instr.slice,run_und ((hT _ _ hc).sl hd),Instr.sliceBounds,run_sliceBound,h0,h1,run_sizeOf (hT _ _ he)]
theorem Ret.law{f:FuncId}{vs:List Value}(h:Ret P f vs w (fun v w'=>v= .bool true∧Pu w w')):Calls P f vs.toArray w (fun e w'=>e= .returned (.bool true)∧Pu w w'):=
 Calls.mono h.c fun _ _ ⟨_,he,hv,hp⟩=>⟨by rw[he,hv],hp⟩
end
section
variable {P:Program} {T:List (Nat × TI)} {N:Nat} {L:List (Nat × Value)} {a:Act} {w w0 w':World} {S:Nat→Prop} {M M':List Hp} {o:Oper} {x y z:Operand}
def own(M:List Hp)(k:Nat):Prop:=∃x∈M,x.g=some k
theorem Mm.rebase(hm:Mm S w0 M w):Mm (own M) w M w:=⟨hm.me,Fr.refl _ w,hm.dj,fun h hh _ hg=> .inr ⟨h,hh,hg⟩⟩
theorem Mm.own_(hm:Mm S w0 M w){k:Nat}(h:own M k):w0.heap.size≤k∨S k:=by
 obtain⟨x,hx,e⟩:=h
 exact hm.ow x hx k e
theorem Mm.trans(hm:Mm S w0 M w)(hk:Mm (own M) w M' w'):Mm S w0 M' w':=by
 refine⟨hk.me,hm.fr.then hk.fr fun i hi e=>?_,hk.dj,fun h hh g hg=>?_⟩
 ·rcases hm.own_ e with h4|h4
  ·omega
  ·exact h4
 ·rcases hk.ow h hh g hg with h4|h4
  ·exact .inl (Nat.le_trans hm.fr.size h4)
  ·exact hm.own_ h4
end
end Go.Proofs.YtbjffoojenpmfaaGreat
