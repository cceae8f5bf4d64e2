/- Texts put together: Lay, Lay2, Lay3, Lay4, Lay5, Dck3, Dck4, Dck5, Dck6, Dck7, Dck8, Dck9, Dck10, Pg0, Pg1, Pg2, Pg3. -/
import Derived.Test.YtbjffoojenpmfaaGreatMgSOc
set_option maxRecDepth 20000
set_option maxHeartbeats 64000000
namespace Go.Proofs.YtbjffoojenpmfaaGreat
open Go.RowKit
theorem getI{l:List Int}{k:Nat}(h:k<l.length):l.getD k 0=l[k]:=by rw[List.getD_eq_getElem?_getD,List.getElem?_eq_getElem h];rfl
def insF(ss:List Int)(r o:Int):Bool:=decide (0≤r)&&(decide (r<(ss.length:Int))&&(decide (0≤o)&&decide (o<ss.getD r.toNat 0)))
theorem insF_t{ss:List Int}{r o:Int}:insF ss r o=true↔0≤r∧r<(ss.length:Int)∧0≤o∧o<ss.getD r.toNat 0:=by
 unfold insF
 simp only[Bool.and_eq_true,decide_eq_true_eq]
theorem insF_f{ss:List Int}{r o:Int}(h:¬(0≤r∧r<(ss.length:Int)∧0≤o∧o<ss.getD r.toNat 0)):insF ss r o=false:=by
 rw[Bool.eq_false_iff]
 exact fun h'=>h (insF_t.1 h')
theorem rins_c(A:Option Addr)(n c:Nat)(ss:List Int)(r o:Int)(w:World)(hl:ss.length=n)(hr:Rd w w.heap.size A (ints ss)):
  Ret Tryz.prog 72 [.slice A n c,.agg #[.int .i64 r,.int .i64 o]] w (fun v w'=>v= .bool (insF ss r o)∧Pu w w'):=by
 by_cases h1:0≤r
 ·by_cases h2:r<(n:Int)
  ·by_cases h3:0≤o
   ·obtain⟨k,rfl⟩:∃k:Nat,r=(k:Int):=⟨r.toNat,by omega⟩
    obtain⟨b1,o1,rfl,hb1,r1⟩:=hr.ro (by rw[ints_len];omega)
    have e1:=ints_some (xs:=ss) (k:=k) (by omega)
    have hg:=getI (l:=ss) (k:=k) (by omega)
    generalize ss[k]'(_)=s at*
    by_cases h4:o<s
    ·rw[show insF ss (k:Int) o=true from insF_t.2 ⟨h1,by omega,h3,by rw[Int.toNat_natCast,hg];exact h4⟩]
     refine enterR Tryz.func72 rfl rfl rfl fun a hs hm=>?_
     repeat(first|(refine oqR_ ?_;clear hs a;intro a hs)|((with_reducible apply lCons);first|(refine dv hs gw_ rfl rfl da_ ?_;clear hs hm a;rintro _ w ⟨g,rfl,-,hm⟩ a hs)|(refine stn hs rfl rfl ds_ ?_;clear hs hm a;rintro-w hm a hs))|((with_reducible apply qNil);clear hm;intro w hm)|refine cQ_ ?_|refine sc_ ?_)
     exact gRet1 hs rfl rfl ⟨rfl,hm.fr⟩
    ·rw[insF_f (fun h=>h4 (by have:=h.2.2.2;rwa[Int.toNat_natCast,hg]at this))]
     refine enterR Tryz.func72 rfl rfl rfl fun a hs hm=>?_
     repeat(first|(refine oqR_ ?_;clear hs a;intro a hs)|((with_reducible apply lCons);first|(refine dv hs gw_ rfl rfl da_ ?_;clear hs hm a;rintro _ w ⟨g,rfl,-,hm⟩ a hs)|(refine stn hs rfl rfl ds_ ?_;clear hs hm a;rintro-w hm a hs))|((with_reducible apply qNil);clear hm;intro w hm)|refine cQ_ ?_|refine sc_ ?_)
     exact gRet1 hs rfl rfl ⟨rfl,hm.fr⟩
   ·rw[insF_f (by omega)]
    refine enterR Tryz.func72 rfl rfl rfl fun a hs hm=>?_
    repeat(first|(refine oqR_ ?_;clear hs a;intro a hs)|((with_reducible apply lCons);first|(refine dv hs gw_ rfl rfl da_ ?_;clear hs hm a;rintro _ w ⟨g,rfl,-,hm⟩ a hs)|(refine stn hs rfl rfl ds_ ?_;clear hs hm a;rintro-w hm a hs))|((with_reducible apply qNil);clear hm;intro w hm)|refine cQ_ ?_|refine sc_ ?_)
    exact gRet1 hs rfl rfl ⟨rfl,hm.fr⟩
  ·rw[insF_f (by omega)]
   refine enterR Tryz.func72 rfl rfl rfl fun a hs hm=>?_
   repeat(first|(refine oqR_ ?_;clear hs a;intro a hs)|((with_reducible apply lCons);first|(refine dv hs gw_ rfl rfl da_ ?_;clear hs hm a;rintro _ w ⟨g,rfl,-,hm⟩ a hs)|(refine stn hs rfl rfl ds_ ?_;clear hs hm a;rintro-w hm a hs))|((with_reducible apply qNil);clear hm;intro w hm)|refine cQ_ ?_|refine sc_ ?_)
   exact gRet1 hs rfl rfl ⟨rfl,hm.fr⟩
 ·rw[insF_f (by omega)]
  refine enterR Tryz.func72 rfl rfl rfl fun a hs hm=>?_
  repeat(first|(refine oqR_ ?_;clear hs a;intro a hs)|((with_reducible apply lCons);first|(refine dv hs gw_ rfl rfl da_ ?_;clear hs hm a;rintro _ w ⟨g,rfl,-,hm⟩ a hs)|(refine stn hs rfl rfl ds_ ?_;clear hs hm a;rintro-w hm a hs))|((with_reducible apply qNil);clear hm;intro w hm)|refine cQ_ ?_|refine sc_ ?_)
  exact gRet1 hs rfl rfl ⟨rfl,hm.fr⟩
def resF(bs ss:List Int)(a:Int):Nat→Option (Nat × Int)
 |0=>none
 |k+1=>match resF bs ss a k with
  |some p=>some p
  |none=>if bs.getD k 0≤a∧a-bs.getD k 0<ss.getD k 0 then some (k,a-bs.getD k 0)else none
theorem resF_stay{bs ss:List Int}{a:Int}{k:Nat}{p:Nat × Int}(h:resF bs ss a k=some p):∀d,resF bs ss a (k+d)=some p
 |0=>h
 |d+1=>by
  show(match resF bs ss a (k+d)with
   |some p=>some p
   |none=>if _ then some _ else none)=some p
  rw[resF_stay h d]
theorem resF_hit{bs ss:List Int}{a:Int}{k m:Nat}(h:resF bs ss a k=none)(hk:k<m)(h1:bs.getD k 0≤a)(h2:a-bs.getD k 0<ss.getD k 0):resF bs ss a m=some (k,a-bs.getD k 0):=by
 have h3:resF bs ss a (k+1)=some (k,a-bs.getD k 0):=by
  show(match resF bs ss a k with
   |some p=>some p
   |none=>if _ then some _ else none)=_
  rw[h]
  exact if_pos ⟨h1,h2⟩
 have:=resF_stay h3 (m-(k+1))
 rwa[show k+1+(m-(k+1))=m by omega]at this
theorem resF_miss{bs ss:List Int}{a:Int}{k:Nat}(h:resF bs ss a k=none)(h1:¬(bs.getD k 0≤a∧a-bs.getD k 0<ss.getD k 0)):resF bs ss a (k+1)=none:=by
 show(match resF bs ss a k with
  |some p=>some p
  |none=>if _ then some _ else none)=_
 rw[h]
 exact if_neg h1
def rsvV:Option (Nat × Int)→Value
 |none=> .tuple #[.agg #[.int .i64 0,.int .i64 0],.bool false]
 |some (r,o)=> .tuple #[.agg #[.int .i64 (r:Int),.int .i64 o],.bool true]
theorem rrsv_c(A:Option Addr)(n c:Nat)(bs:List Int)(key:Int)(B:Option Addr)(d:Nat)(ss:List Int)(a0:Int)(w:World)(hbl:bs.length=n)(hsl:ss.length=n)(hbr:Rd w w.heap.size A (ints bs))(hsr:Rd w w.heap.size B (ints ss))(hb:∀x∈bs,0≤x∧x≤1000000)(hs':∀x∈ss,1≤x∧x≤32)(ha:0≤a0∧a0≤65535)(hn:n≤1000):
  Ret Tryz.prog 71 [.agg #[.slice A n c,.int .u16 key],.slice B n d,.int .i64 a0] w (fun v w'=>v=rsvV (resF bs ss a0 n)∧Pu w w'):=by
 refine enterR Tryz.func71 rfl rfl rfl fun a hs hm=>?_
 repeat(first|(refine ovR_ ?_;clear hs a;intro a hs)|((with_reducible apply lCons);first|(refine dv hs gw_ rfl rfl da_ ?_;clear hs hm a;rintro _ w ⟨g,rfl,-,hm⟩ a hs)|(refine stn hs rfl rfl ds_ ?_;clear hs hm a;rintro-w hm a hs))|refine sc_ ?_)
 rename_i w0 _ g3
 rename Nat=>g6
 refine cLoop (X:=Nat) (fun k a w'=>Sl Tryz.f71.ntmps [(1,.slice B n d),(2,.int .i64 a0),(6,pt g6),(11,.slice A n c),(12,.int .i64 (n:Int)),(13,.int .i64 (k:Int))] a∧Mm (fun _=>False) w0 [⟨some g6,129,[.int .i64 0,.int .i64 0]⟩] w'∧k≤n∧resF bs ss a0 k=none) (fun k=>n-k) 0 ⟨hs.sub (Has.all ⟨rfl,rfl,rfl,rfl,rfl,rfl,trivial⟩),hm.sub sub_,Nat.zero_le _,rfl⟩ ?_
 clear hs hm a
 rintro k a w' ⟨hs,hm,hk,hR⟩
 by_cases hlt:k<n
 ·obtain⟨b1,o1,rfl,hb1,r1⟩:=hbr.ro (by rw[ints_len];omega)
  obtain⟨b2,o2,rfl,hb2,r2⟩:=hsr.ro (by rw[ints_len];omega)
  have e1:=ints_some (xs:=bs) (k:=k) (by omega)
  have e2:=ints_some (xs:=ss) (k:=k) (by omega)
  have hg1:=getI (l:=bs) (k:=k) (by omega)
  have hg2:=getI (l:=ss) (k:=k) (by omega)
  have hbk:=hb bs[k] (List.getElem_mem (by omega))
  have hsk:=hs' ss[k] (List.getElem_mem (by omega))
  generalize bs[k]'(_)=bk at*
  generalize ss[k]'(_)=sk at*
  by_cases h1:bk≤a0
  ·by_cases h2:a0-bk<sk
   ·rw[resF_hit hR hlt (by rw[hg1];exact h1) (by rw[hg1,hg2];exact h2),hg1]
    repeat(first|(refine ovR_ ?_;clear hs a;intro a hs)|((with_reducible apply lCons);first|(refine dv hs gw_ rfl rfl da_ ?_;clear hs hm a;rintro _ w ⟨g,rfl,-,hm⟩ a hs)|(refine stn hs rfl rfl ds_ ?_;clear hs hm a;rintro-w hm a hs))|refine sc_ ?_)
    exact gRetN tab hs rfl (.cons (.cells rfl rfl rfl rfl (hm.ro (k:=0) (n:=2) mem_ (cutF_ok rfl))) (.cons (.tmp rfl) .nil)) ⟨rfl,hm.fr⟩
   ·have hR':=resF_miss hR (by rw[hg1,hg2];exact fun h=>h2 h.2)
    repeat(first|(refine ovR_ ?_;clear hs a;intro a hs)|((with_reducible apply lCons);first|(refine dv hs gw_ rfl rfl da_ ?_;clear hs hm a;rintro _ w ⟨g,rfl,-,hm⟩ a hs)|(refine stn hs rfl rfl ds_ ?_;clear hs hm a;rintro-w hm a hs))|refine sc_ ?_)
    exact⟨k+1,by omega,hs.sub (Has.all ⟨rfl,rfl,rfl,rfl,rfl,rfl,trivial⟩),hm,by omega,hR'⟩
  ·have hR':=resF_miss hR (by rw[hg1];exact fun h=>h1 h.1)
   repeat(first|(refine ovR_ ?_;clear hs a;intro a hs)|((with_reducible apply lCons);first|(refine dv hs gw_ rfl rfl da_ ?_;clear hs hm a;rintro _ w ⟨g,rfl,-,hm⟩ a hs)|(refine stn hs rfl rfl ds_ ?_;clear hs hm a;rintro-w hm a hs))|refine sc_ ?_)
   exact⟨k+1,by omega,hs.sub (Has.all ⟨rfl,rfl,rfl,rfl,rfl,rfl,trivial⟩),hm,by omega,hR'⟩
 ·obtain rfl:k=n:=by omega
  rw[hR]
  repeat(first|(refine ovR_ ?_;clear hs a;intro a hs)|((with_reducible apply lCons);first|(refine dv hs gw_ rfl rfl da_ ?_;clear hs hm a;rintro _ w ⟨g,rfl,-,hm⟩ a hs)|(refine stn hs rfl rfl ds_ ?_;clear hs hm a;rintro-w hm a hs))|refine sc_ ?_)
  exact gRetN tab hs rfl (.cons (.cells rfl rfl rfl rfl (hm.ro (k:=0) (n:=2) mem_ (cutF_ok rfl))) (.cons (.tmp rfl) .nil)) ⟨rfl,hm.fr⟩
def clV(t v:Int):Value:= .agg #[.int .u8 t,.int .u16 v]
theorem flg_c(b:Bool)(w:World):Ret Tryz.prog 74 [.bool b] w (fun u w'=>u=clV 0 (if b then 1 else 0)∧Pu w w'):=by
 unfold clV at*
 cases b
 ·refine enterR Tryz.func74 rfl rfl rfl fun a hs hm=>?_
  repeat(first|(refine ovR_ ?_;clear hs a;intro a hs)|((with_reducible apply lCons);first|(refine dv hs gw_ rfl rfl da_ ?_;clear hs hm a;rintro _ w ⟨g,rfl,-,hm⟩ a hs)|(refine stn hs rfl rfl ds_ ?_;clear hs hm a;rintro-w hm a hs))|refine sc_ ?_)
  exact gRetN tab hs rfl (.cons (.cells rfl rfl rfl rfl (hm.ro (k:=0) (n:=2) mem_ (cutF_ok rfl))) .nil) ⟨rfl,hm.fr⟩
 ·refine enterR Tryz.func74 rfl rfl rfl fun a hs hm=>?_
  repeat(first|(refine ovR_ ?_;clear hs a;intro a hs)|((with_reducible apply lCons);first|(refine dv hs gw_ rfl rfl da_ ?_;clear hs hm a;rintro _ w ⟨g,rfl,-,hm⟩ a hs)|(refine stn hs rfl rfl ds_ ?_;clear hs hm a;rintro-w hm a hs))|refine sc_ ?_)
  exact gRetN tab hs rfl (.cons (.cells rfl rfl rfl rfl (hm.ro (k:=0) (n:=2) mem_ (cutF_ok rfl))) .nil) ⟨rfl,hm.fr⟩
structure LS where
 A:Option Addr
 n:Nat
 c:Nat
 bs:List Int
 key:Int
 B:Option Addr
 d:Nat
 ss:List Int
def LS.l(x:LS):Value:= .agg #[.slice x.A x.n x.c,.int .u16 x.key]
def LS.s(x:LS):Value:= .slice x.B x.n x.d
structure LS.ok(x:LS)(w:World):Prop where
 bl:x.bs.length=x.n
 sl:x.ss.length=x.n
 br:Rd w w.heap.size x.A (ints x.bs)
 sr:Rd w w.heap.size x.B (ints x.ss)
 b:∀y∈x.bs,0≤y∧y≤1000000
 s:∀y∈x.ss,1≤y∧y≤32
 n:x.n≤4
theorem LS.ok.pu{x:LS}{w w':World}(h:x.ok w)(hf:Pu w w'):x.ok w':=⟨h.bl,h.sl,hf.rd' h.br,hf.rd' h.sr,h.b,h.s,h.n⟩
def adrF(x:LS)(r o:Int):Int × Int:=if insF x.ss r o=true then(x.bs.getD r.toNat 0+o,0)else(0,6)
theorem resF_at{bs ss:List Int}{a:Int}{r:Nat}{o:Int}:∀{k:Nat},resF bs ss a k=some (r,o)→r<k∧o=a-bs.getD r 0∧0≤o∧o<ss.getD r 0
 |0,h=>by cases h
 |k+1,h=>by
  have h':(match resF bs ss a k with
   |some p=>some p
   |none=>if bs.getD k 0≤a∧a-bs.getD k 0<ss.getD k 0 then some (k,a-bs.getD k 0)else none)=some (r,o):=h
  cases hk:resF bs ss a k with
  |some p=>
   rw[hk]at h'
   obtain rfl:=Option.some.inj h'
   have:=resF_at hk
   exact⟨by omega,this.2⟩
  |none=>
   rw[hk]at h'
   dsimp only at h'
   split at h'
   ·rename_i hc
    obtain⟨rfl,rfl⟩:=Prod.mk.inj (Option.some.inj h')
    exact⟨by omega,rfl,by omega,hc.2⟩
   ·cases h'
def movF(x:LS)(t v k:Int)(back:Bool):(Int × Int) × Int:=
 if t=1 then match resF x.bs x.ss v x.n with
  |none=>((0,0),4)
  |some (r,o)=>if insF x.ss (r:Int) (if back then o+-k else o+k)=true then((1,IntKind.u16.wrap (x.bs.getD r 0+(if back then o+-k else o+k))),0)else((0,0),4)
 else((0,0),3)
theorem wrapS{v:Int}(h:0≤v∧v≤65535):IntKind.i64.wrap v=v:=by simp[IntKind.wrap,IntKind.bits,IntKind.signed];omega
theorem LS.ok.rrsv{x:LS}{w:World}(hx:x.ok w){v:Int}(hv:0≤v∧v≤65535)(w'':World)(hf:Pu w w''):Ret Tryz.prog 71 [x.l,x.s,.int .i64 (IntKind.i64.wrap v)] w'' (fun u w'=>u=rsvV (resF x.bs x.ss v x.n)∧Pu w'' w'):=by
 rw[wrapS hv]
 exact rrsv_c x.A x.n x.c x.bs x.key x.B x.d x.ss v w'' hx.bl hx.sl (hf.rd' hx.br) (hf.rd' hx.sr) hx.b hx.s hv (by have:=hx.n;omega)
theorem LS.ok.off{x:LS}{w:World}(hx:x.ok w){v:Int}{r:Nat}{o:Int}(h:resF x.bs x.ss v x.n=some (r,o)):r<x.n∧0≤o∧o≤32∧o=v-x.bs.getD r 0:=by
 obtain⟨h1,h2,h3,h4⟩:=resF_at h
 have hl:=hx.sl
 have hs:=hx.s (x.ss[r]'(by omega)) (List.getElem_mem _)
 rw[getI (by omega)]at h4
 exact⟨h1,h3,by omega,h2⟩
def aptF(x:LS)(v u:Int):Option ((Nat × Int) × (Nat × Int)):=match resF x.bs x.ss v x.n with
 |none=>none
 |some p=>match resF x.bs x.ss u x.n with
  |none=>none
  |some q=>if p.1=q.1 then some (p,q)else none
theorem aptF_bd{x:LS}{w:World}{v u:Int}{p q:Nat × Int}(hx:x.ok w)(h:aptF x v u=some (p,q)):p.1=q.1∧p.2=v-x.bs.getD p.1 0∧q.2=u-x.bs.getD q.1 0∧0≤p.2∧p.2≤32∧0≤q.2∧q.2≤32:=by
 unfold aptF at h
 cases h1:resF x.bs x.ss v x.n with
 |none=>rw[h1]at h;cases h
 |some p'=>
  cases h2:resF x.bs x.ss u x.n with
  |none=>rw[h1,h2]at h;cases h
  |some q'=>
   rw[h1,h2]at h
   dsimp only at h
   split at h
   ·rename_i he
    obtain⟨rfl,rfl⟩:=Prod.mk.inj (Option.some.inj h)
    have a:=hx.off h1
    have b:=hx.off h2
    exact⟨he,a.2.2.2,b.2.2.2,a.2.1,a.2.2.1,b.2.1,b.2.2.1⟩
   ·cases h
theorem ovXLay50_{G H:Prop}(k:H)(s:H→G:=by intro k;(with_reducible refine toL hm ?_);first|exact oneV hs gw_ rfl rfl (by intro w hm;(first|exact kvR_|exact kb2_)) k|exact oneN hs rfl rfl rfl rfl rfl rfl rfl k|exact oneU hs rfl rfl rfl rfl rfl rfl k):G:=s k
def cnV(t v r o:Int):Value:= .agg #[.int .u8 t,.int .u16 v,.int .i64 r,.int .i64 o]
def prpF(ss:List Int)(t v r o:Int):Bool:=if t=1 then decide (v=0)&&insF ss r o else decide (r=0)&&decide (o=0)
theorem rprp_c(x:LS)(t v r o:Int)(w:World)(hx:x.ok w)(ht:t=0∨t=1∨t=2):
  Ret Tryz.prog 61 [x.s,cnV t v r o] w (fun u w'=>u= .bool (prpF x.ss t v r o)∧Pu w w'):=by
 have hin:=fun w'' (hf:Pu w w'')=>rins_c x.B x.n x.d x.ss r o w'' hx.sl (hf.rd' hx.sr)
 unfold LS.s cnV prpF
 rcases ht with rfl|rfl|rfl
 ·rw[if_neg (by omega)]
  by_cases h1:r=0
  ·by_cases h2:o=0
   ·rw[decide_eq_true h1,decide_eq_true h2]
    refine enterR Tryz.func61 rfl rfl rfl fun a hs hm=>?_
    repeat(first|(refine ovR_ ?_;clear hs a;intro a hs)|((with_reducible apply lCons);first|(refine dv hs gw_ rfl rfl da_ ?_;clear hs hm a;rintro _ w ⟨g,rfl,-,hm⟩ a hs)|(refine stn hs rfl rfl ds_ ?_;clear hs hm a;rintro-w hm a hs))|refine sc_ ?_)
    exact gRet1 hs rfl rfl ⟨rfl,hm.fr⟩
   ·rw[decide_eq_true h1,decide_eq_false h2]
    refine enterR Tryz.func61 rfl rfl rfl fun a hs hm=>?_
    repeat(first|(refine ovR_ ?_;clear hs a;intro a hs)|((with_reducible apply lCons);first|(refine dv hs gw_ rfl rfl da_ ?_;clear hs hm a;rintro _ w ⟨g,rfl,-,hm⟩ a hs)|(refine stn hs rfl rfl ds_ ?_;clear hs hm a;rintro-w hm a hs))|refine sc_ ?_)
    exact gRet1 hs rfl rfl ⟨rfl,hm.fr⟩
  ·rw[decide_eq_false h1]
   refine enterR Tryz.func61 rfl rfl rfl fun a hs hm=>?_
   repeat(first|(refine ovR_ ?_;clear hs a;intro a hs)|((with_reducible apply lCons);first|(refine dv hs gw_ rfl rfl da_ ?_;clear hs hm a;rintro _ w ⟨g,rfl,-,hm⟩ a hs)|(refine stn hs rfl rfl ds_ ?_;clear hs hm a;rintro-w hm a hs))|refine sc_ ?_)
   exact gRet1 hs rfl rfl ⟨rfl,hm.fr⟩
 ·rw[if_pos rfl]
  by_cases h1:v=0
  ·rw[decide_eq_true h1]
   refine enterR Tryz.func61 rfl rfl rfl fun a hs hm=>?_
   repeat(first|(refine ovR_ ?_;clear hs a;intro a hs)|((with_reducible apply lCons);first|(refine dv hs gw_ rfl rfl da_ ?_;clear hs hm a;rintro _ w ⟨g,rfl,-,hm⟩ a hs)|(refine stn hs rfl rfl ds_ ?_;clear hs hm a;rintro-w hm a hs)|(refine dvc hs hm gw_ rfl rfl rfl rfl rfl (pl 72 rfl) (hin _ hm.fr) ?_;clear hs hm a;intro w hm a hs))|refine sc_ ?_)
   exact gRet1 hs rfl rfl ⟨rfl,hm.fr⟩
  ·rw[decide_eq_false h1]
   refine enterR Tryz.func61 rfl rfl rfl fun a hs hm=>?_
   repeat(first|(refine ovR_ ?_;clear hs a;intro a hs)|((with_reducible apply lCons);first|(refine dv hs gw_ rfl rfl da_ ?_;clear hs hm a;rintro _ w ⟨g,rfl,-,hm⟩ a hs)|(refine stn hs rfl rfl ds_ ?_;clear hs hm a;rintro-w hm a hs))|refine sc_ ?_)
   exact gRet1 hs rfl rfl ⟨rfl,hm.fr⟩
 ·rw[if_neg (by omega)]
  by_cases h1:r=0
  ·by_cases h2:o=0
   ·rw[decide_eq_true h1,decide_eq_true h2]
    refine enterR Tryz.func61 rfl rfl rfl fun a hs hm=>?_
    repeat(first|(refine ovR_ ?_;clear hs a;intro a hs)|((with_reducible apply lCons);first|(refine dv hs gw_ rfl rfl da_ ?_;clear hs hm a;rintro _ w ⟨g,rfl,-,hm⟩ a hs)|(refine stn hs rfl rfl ds_ ?_;clear hs hm a;rintro-w hm a hs))|refine sc_ ?_)
    exact gRet1 hs rfl rfl ⟨rfl,hm.fr⟩
   ·rw[decide_eq_true h1,decide_eq_false h2]
    refine enterR Tryz.func61 rfl rfl rfl fun a hs hm=>?_
    repeat(first|(refine ovR_ ?_;clear hs a;intro a hs)|((with_reducible apply lCons);first|(refine dv hs gw_ rfl rfl da_ ?_;clear hs hm a;rintro _ w ⟨g,rfl,-,hm⟩ a hs)|(refine stn hs rfl rfl ds_ ?_;clear hs hm a;rintro-w hm a hs))|refine sc_ ?_)
    exact gRet1 hs rfl rfl ⟨rfl,hm.fr⟩
  ·rw[decide_eq_false h1]
   refine enterR Tryz.func61 rfl rfl rfl fun a hs hm=>?_
   repeat(first|(refine ovR_ ?_;clear hs a;intro a hs)|((with_reducible apply lCons);first|(refine dv hs gw_ rfl rfl da_ ?_;clear hs hm a;rintro _ w ⟨g,rfl,-,hm⟩ a hs)|(refine stn hs rfl rfl ds_ ?_;clear hs hm a;rintro-w hm a hs))|refine sc_ ?_)
   exact gRet1 hs rfl rfl ⟨rfl,hm.fr⟩
def rawF(x:LS)(t v r o:Int):(Int × Int) × Int:=
 if prpF x.ss t v r o=true then
  if t=0 then((0,v),0)else if t=2 then((2,IntKind.u16.wrap (v+x.key)),0)else((1,IntKind.u16.wrap (x.bs.getD r.toNat 0+o)),0)
 else((0,0),1)
theorem raw_c(x:LS)(t v r o:Int)(w:World)(hx:x.ok w)(ht:t=0∨t=1∨t=2):
  Ret Tryz.prog 63 [x.l,x.s,cnV t v r o] w (fun u w'=>u= .tuple #[clV (rawF x t v r o).1.1 (rawF x t v r o).1.2,.int .i64 (rawF x t v r o).2]∧Pu w w'):=by
 have hpr:=fun w'' (hf:Pu w w'')=>rprp_c x t v r o w'' (hx.pu hf) ht
 generalize hR:rawF x t v r o=R
 unfold rawF at hR
 unfold LS.l LS.s cnV clV at*
 cases hp:prpF x.ss t v r o
 ·rw[hp]at hpr hR
  rw[if_neg (show¬false=true by simp)]at hR
  subst hR
  refine enterR Tryz.func63 rfl rfl rfl fun a hs hm=>?_
  repeat(first|(refine ovXLay50_ ?_;clear hs a;intro a hs)|((with_reducible apply lCons);first|(refine dv hs gw_ rfl rfl da_ ?_;clear hs hm a;rintro _ w ⟨g,rfl,-,hm⟩ a hs)|(refine stn hs rfl rfl ds_ ?_;clear hs hm a;rintro-w hm a hs)|(refine dvc hs hm gw_ rfl rfl rfl rfl rfl (pl 61 rfl) (hpr _ hm.fr) ?_;clear hs hm a;intro w hm a hs))|refine sc_ ?_)
  exact gRetN tab hs rfl (.cons (.cells rfl rfl rfl rfl (hm.ro (k:=0) (n:=2) mem_ (cutF_ok rfl))) (.cons (.tmp rfl) .nil)) ⟨rfl,hm.fr⟩
 ·rw[hp]at hpr hR
  rw[if_pos (show true=true from rfl)]at hR
  rcases ht with rfl|rfl|rfl
  ·rw[if_pos rfl]at hR
   subst hR
   refine enterR Tryz.func63 rfl rfl rfl fun a hs hm=>?_
   repeat(first|(refine ovXLay50_ ?_;clear hs a;intro a hs)|((with_reducible apply lCons);first|(refine dv hs gw_ rfl rfl da_ ?_;clear hs hm a;rintro _ w ⟨g,rfl,-,hm⟩ a hs)|(refine stn hs rfl rfl ds_ ?_;clear hs hm a;rintro-w hm a hs)|(refine dvc hs hm gw_ rfl rfl rfl rfl rfl (pl 61 rfl) (hpr _ hm.fr) ?_;clear hs hm a;intro w hm a hs))|refine sc_ ?_)
   exact gRetN tab hs rfl (.cons (.cells rfl rfl rfl rfl (hm.ro (k:=0) (n:=2) mem_ (cutF_ok rfl))) (.cons (.tmp rfl) .nil)) ⟨rfl,hm.fr⟩
  ·rw[if_neg (by omega),if_neg (by omega)]at hR
   subst hR
   unfold prpF at hp
   rw[if_pos rfl,Bool.and_eq_true]at hp
   obtain⟨i1,i2,i3,i4⟩:=insF_t.1 hp.2
   have hbl:=hx.bl
   have hsl:=hx.sl
   obtain⟨k,rfl⟩:∃k:Nat,r=(k:Int):=⟨r.toNat,by omega⟩
   rw[Int.toNat_natCast]at i4 ⊢
   obtain⟨b1,o1,hA,hb1,r1⟩:=hx.br.ro (by rw[ints_len];omega)
   have e1:=ints_some (xs:=x.bs) (k:=k) (by omega)
   have hg1:=getI (l:=x.bs) (k:=k) (by omega)
   have hg2:=getI (l:=x.ss) (k:=k) (by omega)
   have hbk:=hx.b x.bs[k] (List.getElem_mem (by omega))
   have hsk:=hx.s x.ss[k] (List.getElem_mem (by omega))
   rw[hg2]at i4
   rw[hg1]
   rw[hA]
   generalize x.bs[k]'(_)=bk at*
   generalize x.ss[k]'(_)=sk at*
   refine enterR Tryz.func63 rfl rfl rfl fun a hs hm=>?_
   repeat(first|(refine ovXLay50_ ?_;clear hs a;intro a hs)|((with_reducible apply lCons);first|(refine dv hs gw_ rfl rfl da_ ?_;clear hs hm a;rintro _ w ⟨g,rfl,-,hm⟩ a hs)|(refine stn hs rfl rfl ds_ ?_;clear hs hm a;rintro-w hm a hs)|(refine dvc hs hm gw_ rfl rfl rfl rfl rfl (pl 61 rfl) (hpr _ hm.fr) ?_;clear hs hm a;intro w hm a hs))|refine sc_ ?_)
   rename_i g3 _ g5 _
   refine cDraw (n:=13) [⟨some g5,95,[.int .u8 1,.int .u16 v,.int .i64 (k:Int),.int .i64 o]⟩,⟨some g3,25,[.slice (some ⟨b1,o1,none⟩) x.n x.c,.int .u16 x.key]⟩] hm rfl rfl ?_
   clear hm
   intro w2 hm
   refine hTake 0 hs rfl (by kernel_rfl) gw_ rfl rfl (by intro w hm;replace hm:Mm _ _ _ w:=hm;(first|exact kvR_|exact kb2_)) (hm.sub sub_) ?_;clear hs a;intro a hs
   refine hTake 1 hs rfl (by kernel_rfl) gw_ rfl rfl (by intro w hm;replace hm:Mm _ _ _ w:=hm;(first|exact kvR_|exact kb2_)) (hm.sub sub_) ?_;clear hs a;intro a hs
   refine hTake 2 hs rfl (by kernel_rfl) gw_ rfl rfl (by intro w hm;replace hm:Mm _ _ _ w:=hm;(first|exact kvR_|exact kb2_)) (hm.sub sub_) ?_;clear hs a;intro a hs
   refine hTake 3 hs rfl (by kernel_rfl) gw_ rfl rfl (by intro w hm;replace hm:Mm _ _ _ w:=hm;(first|exact kvR_|exact kb2_)) (hm.sub sub_) ?_;clear hs a;intro a hs
   refine hTake 4 hs rfl (by kernel_rfl) gw_ rfl rfl (by intro w hm;replace hm:Mm _ _ _ w:=hm;(first|exact kvR_|exact kb2_)) (hm.sub sub_) ?_;clear hs a;intro a hs
   refine hTake 5 hs rfl (by kernel_rfl) gw_ rfl rfl (by intro w hm;replace hm:Mm _ _ _ w:=hm;(first|exact kvR_|exact kb2_)) (hm.sub sub_) ?_;clear hs a;intro a hs
   refine hTake 6 hs rfl (by kernel_rfl) gw_ rfl rfl (by intro w hm;replace hm:Mm _ _ _ w:=hm;(first|exact kvR_|exact kb2_)) (hm.sub sub_) ?_;clear hs a;intro a hs
   refine hTake 7 hs rfl (by kernel_rfl) gw_ rfl rfl (by intro w hm;replace hm:Mm _ _ _ w:=hm;(first|exact kvR_|exact kb2_)) (hm.sub sub_) ?_;clear hs a;intro a hs
   refine hTake 8 hs rfl (by kernel_rfl) gw_ rfl rfl (by intro w hm;replace hm:Mm _ _ _ w:=hm;(first|exact kvR_|exact kb2_)) (hm.sub sub_) ?_;clear hs a;intro a hs
   refine hTake 9 hs rfl (by kernel_rfl) gw_ rfl rfl (by intro w hm;replace hm:Mm _ _ _ w:=hm;(first|exact kvR_|exact kb2_)) (hm.sub sub_) ?_;clear hs a;intro a hs
   refine hTake 10 hs rfl (by kernel_rfl) gw_ rfl rfl (by intro w hm;replace hm:Mm _ _ _ w:=hm;(first|exact kvR_|exact kb2_)) (hm.sub sub_) ?_;clear hs a;intro a hs
   refine hEach [11] (by kernel_rfl) (eDoN hs rfl (Wnt.none rfl) rfl (by exact d_store hs rfl rfl rfl tab rfl rfl rfl rfl hm rep_ rfl) ?_ eNil)
   clear hs hm
   rintro-w5 hm a hs
   refine⟨hm.sub (List.Sublist.cons _ (List.Sublist.refl _)),?_⟩
   refine hTake 12 hs rfl (by kernel_rfl) gw_ rfl rfl (by intro w hm;replace hm:Mm _ _ _ w:=hm;(first|exact kvR_|exact kb2_)) (hm.sub sub_) ?_;clear hs a;intro a hs
   refine hDone (by kernel_rfl) ?_
   repeat(first|(refine ovXLay50_ ?_;clear hs a;intro a hs)|((with_reducible apply lCons);first|(refine dv hs gw_ rfl rfl da_ ?_;clear hs hm a;rintro _ w ⟨g,rfl,-,hm⟩ a hs)|(refine stn hs rfl rfl ds_ ?_;clear hs hm a;rintro-w hm a hs))|refine sc_ ?_)
   exact gRetN tab hs rfl (.cons (.cells rfl rfl rfl rfl (hm.ro (k:=0) (n:=2) mem_ (cutF_ok rfl))) (.cons (.tmp rfl) .nil)) ⟨rfl,hm.fr⟩
  ·rw[if_neg (by omega),if_pos rfl]at hR
   subst hR
   refine enterR Tryz.func63 rfl rfl rfl fun a hs hm=>?_
   repeat(first|(refine ovXLay50_ ?_;clear hs a;intro a hs)|((with_reducible apply lCons);first|(refine dv hs gw_ rfl rfl da_ ?_;clear hs hm a;rintro _ w ⟨g,rfl,-,hm⟩ a hs)|(refine stn hs rfl rfl ds_ ?_;clear hs hm a;rintro-w hm a hs)|(refine dvc hs hm gw_ rfl rfl rfl rfl rfl (pl 61 rfl) (hpr _ hm.fr) ?_;clear hs hm a;intro w hm a hs))|refine sc_ ?_)
   exact gRetN tab hs rfl (.cons (.cells rfl rfl rfl rfl (hm.ro (k:=0) (n:=2) mem_ (cutF_ok rfl))) (.cons (.tmp rfl) .nil)) ⟨rfl,hm.fr⟩
theorem tot_c(A:Option Addr)(n c:Nat)(ss:List Int)(w:World)(hl:ss.length=n)(hr:Rd w w.heap.size A (ints ss))(hs':∀y∈ss,1≤y∧y≤32)(hn:n≤4):
  Ret Tryz.prog 57 [.slice A n c] w (fun v w'=>∃s:Int,v= .int .i64 s∧(n:Int)≤s∧s≤32*n∧Pu w w'):=by
 refine enterR Tryz.func57 rfl rfl rfl fun a hs hm=>?_
 repeat(first|(refine ovR_ ?_;clear hs a;intro a hs)|((with_reducible apply lCons);first|(refine dv hs gw_ rfl rfl da_ ?_;clear hs hm a;rintro _ w ⟨g,rfl,-,hm⟩ a hs)|(refine stn hs rfl rfl ds_ ?_;clear hs hm a;rintro-w hm a hs))|refine sc_ ?_)
 refine cLoop (X:=Nat × Int) (fun x a w'=>Sl Tryz.f57.ntmps [(3,.int .i64 x.2),(6,.slice A n c),(7,.int .i64 (n:Int)),(8,.int .i64 (x.1:Int))] a∧Mm (fun _=>False) w [] w'∧x.1≤n∧(x.1:Int)≤x.2∧x.2≤32*x.1) (fun x=>n-x.1) (0,0) ⟨hs.sub (Has.all ⟨rfl,rfl,rfl,rfl,trivial⟩),hm,Nat.zero_le _,by simp,by simp⟩ ?_
 clear hs hm a
 rintro⟨k,s⟩ a w' ⟨hs,hm,hk,h1,h2⟩
 dsimp only at*
 by_cases hlt:k<n
 ·obtain⟨b1,o1,rfl,hb1,r1⟩:=hr.ro (by rw[ints_len];omega)
  have e1:=ints_some (xs:=ss) (k:=k) (by omega)
  have hsk:=hs' ss[k] (List.getElem_mem (by omega))
  generalize ss[k]'(_)=sk at*
  repeat(first|(refine ovR_ ?_;clear hs a;intro a hs)|((with_reducible apply lCons);first|(refine dv hs gw_ rfl rfl da_ ?_;clear hs hm a;rintro _ w ⟨g,rfl,-,hm⟩ a hs)|(refine stn hs rfl rfl ds_ ?_;clear hs hm a;rintro-w hm a hs))|refine sc_ ?_)
  exact⟨(k+1,s+sk),by dsimp only;omega,hs.sub (Has.all ⟨rfl,rfl,rfl,rfl,trivial⟩),hm,by dsimp only;omega,by dsimp only;omega,by dsimp only;omega⟩
 ·obtain rfl:k=n:=by omega
  repeat(first|(refine ovR_ ?_;clear hs a;intro a hs)|((with_reducible apply lCons);first|(refine dv hs gw_ rfl rfl da_ ?_;clear hs hm a;rintro _ w ⟨g,rfl,-,hm⟩ a hs)|(refine stn hs rfl rfl ds_ ?_;clear hs hm a;rintro-w hm a hs))|refine sc_ ?_)
  exact gRet1 hs rfl rfl ⟨s,rfl,h1,h2,hm.fr⟩
theorem LS.ok.keep{S:Nat→Prop}{x:LS}{w w':World}(hx:x.ok w)(hf:Fr S w w')(hA:∀b o,x.A=some ⟨b,o,none⟩→¬S b)(hB:∀b o,x.B=some ⟨b,o,none⟩→¬S b):x.ok w':=
 ⟨hx.bl,hx.sl,rdD hf hx.br hA,rdD hf hx.sr hB,hx.b,hx.s,hx.n⟩
structure LS.ne(x:LS)(g:Nat):Prop where
 a:∀b o,x.A=some ⟨b,o,none⟩→b≠g
 b:∀b o,x.B=some ⟨b,o,none⟩→b≠g
theorem LS.ok.dk{x:LS}{w w':World}{g:Nat}{A:Option Addr}{n c a0:Nat}{M:List Hp}(hx:x.ok w)(hn:x.ne g)(hm:Mm (own [dk g A n c a0]) w M w'):x.ok w':=
 hx.keep hm.fr (fun b o e hw=>hn.a b o e (Option.some.inj (own_dk hw)).symm) (fun b o e hw=>hn.b b o e (Option.some.inj (own_dk hw)).symm)
theorem u16_bd(y:Int):0≤IntKind.u16.wrap y∧IntKind.u16.wrap y≤65535:=by simp[IntKind.wrap,IntKind.bits,IntKind.signed];omega
theorem rawF_t(x:LS)(t v r o:Int):(rawF x t v r o).1.1=0∨(rawF x t v r o).1.1=1∨(rawF x t v r o).1.1=2:=by
 unfold rawF
 split
 ·split
  ·exact .inl rfl
  ·split
   ·exact .inr (.inr rfl)
   ·exact .inr (.inl rfl)
 ·exact .inl rfl
theorem rawF_v(x:LS)(t v r o:Int)(hv:0≤v∧v≤65535):0≤(rawF x t v r o).1.2∧(rawF x t v r o).1.2≤65535:=by
 unfold rawF
 split
 ·split
  ·exact hv
  ·split
   ·exact u16_bd _
   ·exact u16_bd _
 ·exact⟨by show(0:Int)≤0;omega,by show(0:Int)≤65535;omega⟩
structure SzX where
 m:Nat
 at_:Nat
 ss:List Int
 g:Nat
 c:Nat
 cs:List Value
theorem ints_snoc'(xs:List Int)(x:Int):ints xs++[.int .i64 x]=ints (xs++[x]):=by simp[ints]
theorem szcell(r:Nat)(h:r<3):∃m:Int,6≤m∧m≤32∧([.int .i64 6,.int .i64 12,.int .i64 32]:List Value)[r]?=some (.int .i64 m):=by
 rcases(by omega:r=0∨r=1∨r=2)with rfl|rfl|rfl
 ·exact⟨6,by omega,by omega,rfl⟩
 ·exact⟨12,by omega,by omega,rfl⟩
 ·exact⟨32,by omega,by omega,rfl⟩
structure SzOk(ss:List Int):Prop where
 one:1≤ss.length
 four:ss.length≤4
 bd:∀y∈ss,1≤y∧y≤32
theorem siz_c(gd:Nat)(A:Option Addr)(n c at_:Nat)(xs:List Int)(wB:World)(h:Dk gd A n c at_ xs wB):
  Ret Tryz.prog 77 [pt gd] wB (fun u w'=>∃(g m cc:Nat)(ss:List Int),u= .slice (some ⟨g,0,none⟩) m cc∧ss.length=m∧SzOk ss∧Rd w' w'.heap.size (some ⟨g,0,none⟩) (ints ss)∧wB.heap.size≤g∧DkR gd A n c xs wB w'):=by
 refine enterR Tryz.func77 rfl rfl rfl fun a hs hm=>?_
 clear hm
 have hm:=h.in_
 have hlt:=Hp.lt h.sat (g:=gd) rfl
 repeat(first|(refine ov_ ?_;clear hs a;intro a hs)|((with_reducible apply lCons);first|(refine dv hs gw_ rfl rfl da_ ?_;clear hs hm a;rintro _ w ⟨g,rfl,-,hm⟩ a hs)|(refine stn hs rfl rfl ds_ ?_;clear hs hm a;rintro-w hm a hs))|refine sc_ ?_)
 refine st hs rfl rfl rfl (d_call hs rfl rfl rfl (pl 21 rfl) ((nxt_c gd A n c _ xs 9 _ (h.now hm mem_) (by omega) (by omega)))) ?_;clear hs a;rintro _ w1 ⟨r1,rfl,b1,a1,k1,hf⟩ a hs
 replace hm:=hm.dkt rep_ k1 hf
 clear hf
 repeat(first|(refine ov_ ?_;clear hs a;intro a hs)|((with_reducible apply lCons);first|(refine dv hs gw_ rfl rfl da_ ?_;clear hs hm a;rintro _ w ⟨g,rfl,-,hm⟩ a hs)|(refine stn hs rfl rfl ds_ ?_;clear hs hm a;rintro-w hm a hs))|refine sc_ ?_)
 rename Nat=>g0
 refine st hs rfl rfl rfl (d_call hs rfl rfl rfl (pl 21 rfl) ((nxt_c gd A n c _ xs 4 _ (h.now hm mem_) (by omega) (by omega)))) ?_;clear hs a;rintro _ w1 ⟨r2,rfl,b2,a2,k2,hf⟩ a hs
 replace hm:=hm.dkt rep_ k2 hf
 clear hf
 repeat(first|(refine ov_ ?_;clear hs a;intro a hs)|((with_reducible apply lCons);first|(refine dv hs gw_ rfl rfl da_ ?_;clear hs hm a;rintro _ w ⟨g,rfl,-,hm⟩ a hs)|(refine stn hs rfl rfl ds_ ?_;clear hs hm a;rintro-w hm a hs))|refine sc_ ?_)
 refine cLoop (X:=SzX) (fun x a w'=>Sl Tryz.f77.ntmps [(0,pt gd),(3,slv (some x.g) x.ss.length x.c),(4,.int .i64 (x.m:Int))] a∧Mm (own [dk gd A n c at_]) wB [⟨some x.g,3,x.cs⟩,dk gd A n c x.at_] w'∧Row (some x.g) x.ss.length x.c 1 (ints x.ss) x.cs∧1≤x.ss.length∧x.ss.length+x.m≤4∧∀y∈x.ss,1≤y∧y≤32) (fun x=>x.m) ⟨r2,a2,[4+(r1:Int)],g0,1,[.int .i64 (4+(r1:Int))]⟩ ⟨hs.sub (Has.all ⟨rfl,rfl,rfl,trivial⟩),hm,⟨(fun e=>by cases e),Nat.le_refl _,by dsimp only;unfold maxLen;omega,rfl,rfl,rfl⟩,Nat.le_refl _,by show 1+r2≤4;omega,fun y hy=>by rcases List.mem_singleton.1 hy with rfl;omega⟩ ?_
 clear hs hm a
 rintro⟨m,at1,ss,g1,c1,cs⟩ a w' ⟨hs,hm,hr,h1,h4,hbd⟩
 dsimp only at*
 unfold slv at*
 by_cases hm0:0<m
 ·obtain⟨m,rfl⟩:∃k,m=k+1:=⟨m-1,by omega⟩
  repeat(first|(refine ov_ ?_;clear hs a;intro a hs)|((with_reducible apply lCons);first|(refine dv hs gw_ rfl rfl da_ ?_;clear hs hm a;rintro _ w ⟨g,rfl,-,hm⟩ a hs)|(refine stn hs rfl rfl ds_ ?_;clear hs hm a;rintro-w hm a hs))|refine sc_ ?_)
  rename Nat=>g17
  refine st hs rfl rfl rfl (d_call hs rfl rfl rfl (pl 21 rfl) ((nxt_c gd A n c _ xs 3 _ (h.now hm mem_) (by omega) (by omega)))) ?_;clear hs a;rintro _ w1 ⟨r3,rfl,b3,a3,k3,hf⟩ a hs
  replace hm:=hm.dkt rep_ k3 hf
  clear hf
  obtain⟨z,hz1,hz2,hcell⟩:=szcell r3 (by omega)
  repeat(first|(refine ov_ ?_;clear hs a;intro a hs)|((with_reducible apply lCons);first|(refine dv hs gw_ rfl rfl da_ ?_;clear hs hm a;rintro _ w ⟨g,rfl,-,hm⟩ a hs)|(refine stn hs rfl rfl ds_ ?_;clear hs hm a;rintro-w hm a hs))|refine sc_ ?_)
  refine st hs rfl rfl rfl (d_call hs rfl rfl rfl (pl 21 rfl) ((nxt_c gd A n c _ xs z _ (h.now hm mem_) (by omega) (by omega)))) ?_;clear hs a;rintro _ w1 ⟨r4,rfl,b4,a4,k4,hf⟩ a hs
  replace hm:=hm.dkt rep_ k4 hf
  clear hf
  repeat(first|(refine ov_ ?_;clear hs a;intro a hs)|((with_reducible apply lCons);first|(refine dv hs gw_ rfl rfl da_ ?_;clear hs hm a;rintro _ w ⟨g,rfl,-,hm⟩ a hs)|(refine stn hs rfl rfl ds_ ?_;clear hs hm a;rintro-w hm a hs))|refine sc_ ?_)
  refine dv hs (Wnt.none rfl) rfl rfl (d_append (A:=some g1) (n:=ss.length) (c:=c1) (news:=[.int .i64 (1+(r4:Int))]) hs rfl rfl rfl rfl rfl tab rfl rfl rfl rfl rfl hm mem_ hr rfl (hm.ro (n:=1) (List.Mem.head _) (cutF_ok rfl)) rfl (by show(ss.length+1)*8≤_;omega) (by omega)) ?_
  clear hs
  rintro _ w2 ⟨A',c',cs',rfl,hr2,hM⟩ a hs
  replace hm:=hM _ rep_
  clear hM
  obtain⟨g2,rfl⟩:=hr2.some_ (by omega)
  rw[ints_snoc']at hr2
  repeat(first|(refine ov_ ?_;clear hs a;intro a hs)|((with_reducible apply lCons);first|(refine dv hs gw_ rfl rfl da_ ?_;clear hs hm a;rintro _ w ⟨g,rfl,-,hm⟩ a hs)|(refine stn hs rfl rfl ds_ ?_;clear hs hm a;rintro-w hm a hs))|refine sc_ ?_)
  refine⟨⟨m,a4,ss++[1+(r4:Int)],g2,c',cs'⟩,by dsimp only;omega,?_⟩
  dsimp only
  rw[List.length_append,List.length_singleton]
  refine⟨hs.sub (Has.all ⟨rfl,rfl,rfl,trivial⟩),hm.sub sub_,hr2,by omega,by omega,fun y hy=>?_⟩
  rcases List.mem_append.1 hy with hy|hy
  ·exact hbd y hy
  ·rcases List.mem_singleton.1 hy with rfl;omega
 ·repeat(first|(refine ov_ ?_;clear hs a;intro a hs)|((with_reducible apply lCons);first|(refine dv hs gw_ rfl rfl da_ ?_;clear hs hm a;rintro _ w ⟨g,rfl,-,hm⟩ a hs)|(refine stn hs rfl rfl ds_ ?_;clear hs hm a;rintro-w hm a hs))|refine sc_ ?_)
  refine gRet1 hs rfl rfl ⟨g1,ss.length,c1,ss,rfl,rfl,⟨h1,by omega,hbd⟩,?_,?_,at1,h.now hm mem_,Dk.out hm⟩
  ·exact hm.rd (List.Mem.head _) hr.pfx
  ·rcases hm.ow _ (List.Mem.head _) g1 rfl with h5|h5
   ·exact h5
   ·exact absurd (Option.some.inj (own_dk h5)).symm (fun e=>hm.dj.1 _ (List.Mem.head _) g1 rfl (by rw[e];rfl))
theorem ovXDck90_{G H:Prop}(k:H)(s:H→G:=by intro k;(with_reducible refine toL hm ?_);first|exact oneV hs gw_ rfl rfl (by intro w hm;(first|exact kv_|exact r_quo64 hs rfl rfl rfl (by omega) (by omega)|exact r_quo hs rfl rfl rfl (by omega)|exact r_remH hs rfl rfl rfl (by assumption) (by omega) (by omega)|exact r_rem64 hs rfl rfl rfl (by omega) (by omega)|exact r_rem hs rfl rfl rfl (by omega)|exact kb2_)) k|exact oneN hs rfl rfl rfl rfl rfl rfl rfl k|exact oneU hs rfl rfl rfl rfl rfl rfl k):G:=s k
theorem oqXDck91_{G H:Prop}(k:H)(s:H→G:=by intro k;(with_reducible first|refine toL hm ?_|refine toQ ?_);first|exact oneV hs gw_ rfl rfl (by intro w hm;(first|exact kv_|exact r_quo64 hs rfl rfl rfl (by omega) (by omega)|exact r_quo hs rfl rfl rfl (by omega)|exact r_remH hs rfl rfl rfl (by assumption) (by omega) (by omega)|exact r_rem64 hs rfl rfl rfl (by omega) (by omega)|exact r_rem hs rfl rfl rfl (by omega)|exact kb2_)) k|exact oneN hs rfl rfl rfl rfl rfl rfl rfl k|exact oneU hs rfl rfl rfl rfl rfl rfl k):G:=s k
theorem vld_c(A:Option Addr)(n c:Nat)(ss:List Int)(wB:World)(hl:ss.length=n)(hr:Rd wB wB.heap.size A (ints ss))(ho:SzOk ss):
  Ret Tryz.prog 66 [.slice A n c] wB (fun v w'=>v= .bool true∧Pu wB w'):=by
 obtain⟨o1,o4,obd⟩:=ho
 refine enterR Tryz.func66 rfl rfl rfl fun a hs hm=>?_
 repeat(first|(refine ov_ ?_;clear hs a;intro a hs)|((with_reducible apply lCons);first|(refine dv hs gw_ rfl rfl da_ ?_;clear hs hm a;rintro _ w ⟨g,rfl,-,hm⟩ a hs)|(refine stn hs rfl rfl ds_ ?_;clear hs hm a;rintro-w hm a hs))|refine sc_ ?_)
 refine cLoop (X:=Nat) (fun k a w'=>Sl Tryz.f66.ntmps [(0,.slice A n c),(5,.slice A n c),(6,.int .i64 (n:Int)),(7,.int .i64 (k:Int))] a∧Mm (fun _=>False) wB [] w'∧k≤n) (fun k=>n-k) 0 ⟨hs.sub (Has.all ⟨rfl,rfl,rfl,rfl,trivial⟩),hm,Nat.zero_le _⟩ ?_
 clear hs hm a
 rintro k a w' ⟨hs,hm,hk⟩
 by_cases hlt:k<n
 ·obtain⟨b1,o1',rfl,hb1,r1⟩:=hr.ro (by rw[ints_len];omega)
  have e1:=ints_some (xs:=ss) (k:=k) (by omega)
  have hsk:=obd ss[k] (List.getElem_mem (by omega))
  generalize ss[k]'(_)=sk at*
  repeat(first|(refine oq_ ?_;clear hs a;intro a hs)|((with_reducible apply lCons);first|(refine dv hs gw_ rfl rfl da_ ?_;clear hs hm a;rintro _ w ⟨g,rfl,-,hm⟩ a hs)|(refine stn hs rfl rfl ds_ ?_;clear hs hm a;rintro-w hm a hs))|((with_reducible apply qNil);clear hm;intro w hm)|refine cQ_ ?_|refine sc_ ?_)
  exact⟨k+1,by omega,hs.sub (Has.all ⟨rfl,rfl,rfl,rfl,trivial⟩),hm,by omega⟩
 ·repeat(first|(refine oq_ ?_;clear hs a;intro a hs)|((with_reducible apply lCons);first|(refine dv hs gw_ rfl rfl da_ ?_;clear hs hm a;rintro _ w ⟨g,rfl,-,hm⟩ a hs)|(refine stn hs rfl rfl ds_ ?_;clear hs hm a;rintro-w hm a hs))|((with_reducible apply qNil);clear hm;intro w hm)|refine cQ_ ?_|refine sc_ ?_)
  exact gRet1 hs rfl rfl ⟨rfl,hm.fr⟩
structure MkI(n s k:Nat)(x:Int)(ys ss:List Int):Prop where
 len:ys.length=n
 xb:1≤x∧x≤50+72*(k:Int)
 b:∀y∈ys,0≤y∧y≤480
 below:∀i,i<k→1≤ys.getD ((i+s)%n) 0∧ys.getD ((i+s)%n) 0+ss.getD ((i+s)%n) 0<x
 apart:∀i j,i<k→j<k→i≠j→ys.getD ((i+s)%n) 0+ss.getD ((i+s)%n) 0<ys.getD ((j+s)%n) 0∨ys.getD ((j+s)%n) 0+ss.getD ((j+s)%n) 0<ys.getD ((i+s)%n) 0
theorem MkI.zero(n s:Nat)(x:Int)(ss:List Int)(hx:1≤x∧x≤50):MkI n s 0 x (List.replicate n 0) ss:=
 ⟨by simp,by omega,fun y hy=>by rw[(List.mem_replicate.1 hy).2];omega,fun i hi=>by omega,fun i j hi=>by omega⟩
theorem rot_inj{n s i j:Nat}(hn:n≤4)(hi:i<n)(hj:j<n)(h:(i+s)%n=(j+s)%n):i=j:=by
 rcases(by omega:n=1∨n=2∨n=3∨n=4)with rfl|rfl|rfl|rfl<;>omega
theorem rot_hit{n s r:Nat}(hn:n≤4)(hr:r<n):∃i,i<n∧(i+s)%n=r:=by
 rcases(by omega:n=1∨n=2∨n=3∨n=4)with rfl|rfl|rfl|rfl
 ·exact⟨0,by omega,by omega⟩
 ·exact⟨(r+s)%2,by omega,by omega⟩
 ·exact⟨(r+3-s%3)%3,by omega,by omega⟩
 ·exact⟨(r+4-s%4)%4,by omega,by omega⟩
theorem getD_set{l:List Int}{i j:Nat}{v:Int}(hi:i<l.length):(l.set i v).getD j 0=if i=j then v else l.getD j 0:=by
 simp only[List.getD_eq_getElem?_getD,List.getElem?_set]
 by_cases h:i=j
 ·subst h;simp[hi]
 ·simp[h]
theorem MkI.step{n s k:Nat}{x:Int}{ys ss:List Int}(h:MkI n s k x ys ss)(hn:n≤4)(hk:k<n){v:Int}(hv:x+ss.getD ((k+s)%n) 0<v)(h1:1≤ss.getD ((k+s)%n) 0)(hv2:v≤122+72*(k:Int)):MkI n s (k+1) v (ys.set ((k+s)%n) x) ss:=by
 obtain⟨l1,l2,l3,l4,l5⟩:=h
 have hr:(k+s)%n<ys.length:=by rw[l1];exact Nat.mod_lt _ (by omega)
 have hne:∀i,i<k→(k+s)%n≠(i+s)%n:=fun i hi e=>by have:=rot_inj hn hk (by omega) e;omega
 have hold:∀i,i<k→(ys.set ((k+s)%n) x).getD ((i+s)%n) 0=ys.getD ((i+s)%n) 0:=fun i hi=>by rw[getD_set hr,if_neg (hne i hi)]
 have hnew:(ys.set ((k+s)%n) x).getD ((k+s)%n) 0=x:=by rw[getD_set hr,if_pos rfl]
 refine⟨by rw[List.length_set];exact l1,by omega,fun y hy=>?_,fun i hi=>?_,fun i j hi hj hij=>?_⟩
 ·rcases List.mem_or_eq_of_mem_set hy with h|h
  ·exact l3 y h
  ·omega
 ·by_cases e:i=k
  ·subst e;rw[hnew];omega
  ·rw[hold i (by omega)];have:=l4 i (by omega);omega
 ·by_cases e:i=k
  ·subst e
   rw[hnew,hold j (by omega)]
   have:=l4 j (by omega)
   omega
  ·rw[hold i (by omega)]
   by_cases e2:j=k
   ·subst e2
    rw[hnew]
    have:=l4 i (by omega)
    omega
   ·rw[hold j (by omega)]
    exact l5 i j (by omega) (by omega) hij
structure LS.apt(x:LS):Prop where
 key:0≤x.key∧x.key≤65535
 b:∀r,r<x.n→1≤x.bs.getD r 0∧x.bs.getD r 0≤600
 ap:∀r q,r<x.n→q<x.n→r≠q→x.bs.getD r 0+x.ss.getD r 0≤x.bs.getD q 0∨x.bs.getD q 0+x.ss.getD q 0≤x.bs.getD r 0
theorem MkI.apt{n s:Nat}{v:Int}{ys:List Int}{x:LS}(h:MkI n s n v ys x.ss)(hn:n≤4)(hx:x.n=n)(hb:x.bs=ys)(hk:0≤x.key∧x.key≤65535):x.apt:=by
 subst hb;subst hx
 refine⟨hk,fun r hr=>?_,fun r q hr hq hrq=>?_⟩
 ·obtain⟨i,hi,e⟩:=rot_hit (s:=s) hn hr
  have h1:=h.below i hi
  rw[e]at h1
  have hlt:r<x.bs.length:=by rw[h.len];exact hr
  have h2:=h.b (x.bs[r]) (List.getElem_mem hlt)
  rw[getI hlt]at h1 ⊢
  exact⟨h1.1,by have:=h2.2;omega⟩
 ·obtain⟨i,hi,e⟩:=rot_hit (s:=s) hn hr
  obtain⟨j,hj,e2⟩:=rot_hit (s:=s) hn hq
  have:=h.apart i j hi hj (fun hh=>by subst hh;exact hrq (by rw[←e,←e2]))
  rw[e,e2]at this
  omega
structure LGap(bs ss:List Int):Prop where
 len:bs.length=ss.length
 b:∀r,r<bs.length→0≤bs.getD r 0∧bs.getD r 0+ss.getD r 0≤512
 ap:∀r q,r<bs.length→q<bs.length→r≠q→bs.getD r 0+ss.getD r 0<bs.getD q 0∨bs.getD q 0+ss.getD q 0<bs.getD r 0
theorem MkI.gap{n s:Nat}{v:Int}{ys ss:List Int}(h:MkI n s n v ys ss)(hn:n≤4)(hl:ss.length=n):LGap ys ss:=by
 refine⟨by rw[h.len,hl],fun r hr=>?_,fun r q hr hq hrq=>?_⟩
 ·rw[h.len]at hr
  obtain⟨i,hi,e⟩:=rot_hit (s:=s) hn hr
  have h1:=h.below i hi
  rw[e]at h1
  have:=h.xb
  omega
 ·rw[h.len]at hr hq
  obtain⟨i,hi,e⟩:=rot_hit (s:=s) hn hr
  obtain⟨j,hj,e2⟩:=rot_hit (s:=s) hn hq
  have:=h.apart i j hi hj (fun hh=>by subst hh;exact hrq (by rw[←e,←e2]))
  rwa[e,e2]at this
theorem zrep_ints(n:Nat):zrep n [.int .i64 0]=ints (List.replicate n 0):=by
 induction n with
 |zero=>rfl
 |succ n ih=>rw[zrep,ih];rfl
theorem mke_c(A:Option Addr)(n c:Nat)(ss:List Int)(s:Nat)(wB:World)(hl:ss.length=n)(hr:Rd wB wB.heap.size A (ints ss))(ho:SzOk ss)(hsd:s≤1048576):
  Ret Tryz.prog 87 [.slice A n c,.int .i64 (s:Int)] wB (fun u w'=>∃(gb:Nat)(key:Int)(bs:List Int),u= .tuple #[.agg #[.slice (some ⟨gb,0,none⟩) n n,.int .u16 key],.int .i64 0]∧wB.heap.size≤gb∧Rd w' w'.heap.size (some ⟨gb,0,none⟩) (ints bs)∧(0≤key∧key≤65535)∧(∃v,MkI n s n v bs ss)∧Pu wB w'):=by
 have hvl:=fun w'' (hf:Pu wB w'')=>vld_c A n c ss w'' hl (hf.rd' hr) ho
 obtain⟨o1,o4,obd⟩:=ho
 obtain⟨q1,hq1⟩:∃q:Nat,(s:Int)/(n:Int)=(q:Int):=⟨s/n,by simp⟩
 obtain⟨q2,hq2⟩:∃q:Nat,(s:Int)/(50*(n:Int))=(q:Int):=⟨s/(50*n),by simp⟩
 obtain⟨key,hkey⟩:∃z,IntKind.u16.wrap (40503*(s:Int))=z:=⟨_,rfl⟩
 have hkb:=u16_bd (40503*(s:Int))
 rw[hkey]at hkb
 refine enterR Tryz.func87 rfl rfl rfl fun a hs hm=>?_
 repeat(first|(refine ovXDck90_ ?_;clear hs a;intro a hs)|((with_reducible apply lCons);first|(refine dv hs gw_ rfl rfl (by first|exact da_|exact d_makeSlice hs rfl rfl rfl tab rfl rfl rfl rfl rfl (by omega) rfl hm) ?_;clear hs hm a;rintro _ w ⟨g,rfl,-,hm⟩ a hs)|(refine stn hs rfl rfl ds_ ?_;clear hs hm a;rintro-w hm a hs)|(refine dvc hs hm gw_ rfl rfl rfl rfl rfl (pl 66 rfl) (hvl _ hm.fr) ?_;clear hs hm a;intro w hm a hs))|refine sc_ ?_)
 rw[hkey]at hs hm
 rename_i g4 _ _ _ _
 rename Nat=>g7
 obtain⟨gb,hgb⟩:∃k,k=g:=⟨_,rfl⟩
 subst hgb
 have hz:=zrep_ints n
 rw[hz]at hm
 rw[hq1]at hs
 refine cLoop (X:=Nat × Int × List Int) (fun x a w'=>Sl Tryz.f87.ntmps [(0,.slice A n c),(1,.int .i64 (s:Int)),(4,pt g4),(5,.int .i64 0),(6,.int .i64 (n:Int)),(7,pt g7),(8,.int .i64 x.2.1),(36,.int .i64 (n:Int)),(37,.int .i64 (x.1:Int))] a∧Mm (fun _=>False) wB [⟨some g7,25,[.slice (some ⟨gb,0,none⟩) n n,.int .u16 key]⟩,⟨some gb,3,ints x.2.2⟩,⟨some g4,25,[nS,.int .u16 0]⟩] w'∧x.1≤n∧MkI n s x.1 x.2.1 x.2.2 ss) (fun x=>n-x.1) (0,1+(q1:Int)%50,List.replicate n 0) ⟨hs.sub (Has.all ⟨rfl,rfl,rfl,rfl,rfl,rfl,rfl,rfl,rfl,trivial⟩),hm,Nat.zero_le _,MkI.zero n s _ ss (by dsimp only;omega)⟩ ?_
 clear hs hm a hz
 rintro⟨k,x,ys⟩ a w' ⟨hs,hm,hk,hI⟩
 dsimp only at*
 have hxb:=hI.xb
 by_cases hlt:k<n
 ·obtain⟨r,hrr⟩:∃r,r=(k+s)%n:=⟨_,rfl⟩
  have hr1:((k:Int)+(s:Int))=((k+s:Nat):Int):=by omega
  have hr2:((k+s:Nat):Int)%(n:Int)=(r:Int):=by rw[hrr];simp
  have hrn:r<n:=by rw[hrr];exact Nat.mod_lt _ (by omega)
  obtain⟨b1,o1',rfl,hb1,r1⟩:=hr.ro (by rw[ints_len];omega)
  have e1:=ints_some (xs:=ss) (k:=r) (by omega)
  have hg1:=getI (l:=ss) (k:=r) (by omega)
  have hsk:=obd ss[r] (List.getElem_mem (by omega))
  have hyl:=hI.len
  have hst:∀v,x+ss[r]<v→v≤122+72*(k:Int)→MkI n s (k+1) v (ys.set r x) ss:=fun v h1 h2=>by
   rw[hrr]
   exact hI.step (by omega) hlt (by rw[←hrr,hg1];exact h1) (by rw[←hrr,hg1];exact hsk.1) h2
  generalize ss[r]'(_)=sk at*
  have hyi:r<(ints ys).length:=by rw[ints_len];omega
  repeat(first|(refine oqXDck91_ ?_;clear hs a;intro a hs)|((with_reducible apply lCons);first|(refine dv hs gw_ rfl rfl (by first|exact da_|exact d_makeSlice hs rfl rfl rfl tab rfl rfl rfl rfl rfl (by omega) rfl hm) ?_;clear hs hm a;rintro _ w ⟨g,rfl,-,hm⟩ a hs)|(refine stn hs rfl rfl ds_ ?_;clear hs hm a;rintro-w hm a hs))|((with_reducible apply qNil);clear hm;intro w hm)|refine cQ_ ?_|refine sc_ ?_)
  exact⟨(k+1,x+(sk+1+(q2:Int)%40),ys.set r x),by dsimp only;omega,by rw[hq2]at hs;exact hs.sub (Has.all ⟨rfl,rfl,rfl,rfl,rfl,rfl,rfl,rfl,rfl,trivial⟩),by dsimp only;rw[show ints (ys.set r x)=(ints ys).set r (.int .i64 x) by simp[ints,List.map_set]];exact hm,by dsimp only;omega,hst _ (by dsimp only;omega) (by dsimp only;omega)⟩
 ·obtain rfl:k=n:=by omega
  repeat(first|(refine oqXDck91_ ?_;clear hs a;intro a hs)|((with_reducible apply lCons);first|(refine dv hs gw_ rfl rfl (by first|exact da_|exact d_makeSlice hs rfl rfl rfl tab rfl rfl rfl rfl rfl (by omega) rfl hm) ?_;clear hs hm a;rintro _ w ⟨g,rfl,-,hm⟩ a hs)|(refine stn hs rfl rfl ds_ ?_;clear hs hm a;rintro-w hm a hs))|((with_reducible apply qNil);clear hm;intro w hm)|refine cQ_ ?_|refine sc_ ?_)
  have hgb':=hm.new (R:=[⟨some gb,3,ints ys⟩]) sub_
  exact gRetN tab hs rfl (.cons (.cells rfl rfl rfl rfl (hm.ro (k:=0) (n:=2) mem_ (cutF_ok rfl))) (.cons (.tmp rfl) .nil)) ⟨gb,key,ys,rfl,hgb'.fresh _ (List.Mem.head _) gb rfl,hm.rd (List.Mem.tail _ (List.Mem.head _)) (List.prefix_refl _),hkb,⟨x,hI⟩,hm.fr⟩
theorem rdDk{w w':World}{g:Nat}{A B:Option Addr}{n c a0:Nat}{M:List Hp}{xs:List Value}(hm:Mm (own [dk g A n c a0]) w M w')(h:Rd w w.heap.size B xs)(hne:∀b o,B=some ⟨b,o,none⟩→b≠g):Rd w' w'.heap.size B xs:=
 rdD hm.fr h fun b o e hw=>hne b o e (Option.some.inj (own_dk hw)).symm
structure LyR(x:LS)(B:Option Addr)(m d:Nat)(ss:List Int)(w w':World):Prop where
 n:x.n=m
 d:x.d=d
 B:x.B=B
 ss:x.ss=ss
 ok:x.ok w'
 apt:x.apt
 gap:LGap x.bs x.ss
 new:∀b o,x.A=some ⟨b,o,none⟩→w.heap.size≤b
 cap:x.n≤x.c
theorem mkLS{gb m d:Nat}{key v:Int}{B:Option Addr}{bs ss:List Int}{s:Nat}{w w':World}(hl:ss.length=m)(ho:SzOk ss)(hb:Rd w' w'.heap.size (some ⟨gb,0,none⟩) (ints bs))(hr:Rd w' w'.heap.size B (ints ss))(hk:0≤key∧key≤65535)(hI:MkI m s m v bs ss)(hg:w.heap.size≤gb):
  LyR ⟨some ⟨gb,0,none⟩,m,m,bs,key,B,d,ss⟩ B m d ss w w':=by
 refine⟨rfl,rfl,rfl,rfl,⟨hI.len,hl,hb,hr,fun y hy=>?_,ho.bd,?_⟩,MkI.apt hI (by rw[←hl];exact ho.four) rfl rfl hk,MkI.gap hI (by rw[←hl];exact ho.four) hl,fun b o e=>by cases e;exact hg,Nat.le_refl _⟩
 ·have:=hI.b y hy;omega
 ·show m≤4
  rw[←hl];exact ho.four
theorem Mm.notown{S:Nat→Prop}{w0 w:World}{M:List Hp}{g:Nat}(hm:Mm S w0 M w)(h:w.heap.size≤g):¬own M g:=fun⟨x,hx,e⟩=>by
 have:=Hp.lt (hm.me x hx) e
 omega
theorem lay_c(gd:Nat)(A:Option Addr)(n c at_:Nat)(xs:List Int)(B:Option Addr)(m d:Nat)(ss:List Int)(wB:World)(h:Dk gd A n c at_ xs wB)(hl:ss.length=m)(ho:SzOk ss)(hr:Rd wB wB.heap.size B (ints ss))(hne:∀b o,B=some ⟨b,o,none⟩→b≠gd):
  Ret Tryz.prog 50 [pt gd,.slice B m d] wB (fun u w'=>∃x:LS,u=x.l∧LyR x B m d ss wB w'∧DkR gd A n c xs wB w'):=by
 refine enterR Tryz.func50 rfl rfl rfl fun a hs hm=>?_
 clear hm
 have hm:=h.in_
 repeat(first|(refine ov_ ?_;clear hs a;intro a hs)|((with_reducible apply lCons);first|(refine dv hs gw_ rfl rfl da_ ?_;clear hs hm a;rintro _ w ⟨g,rfl,-,hm⟩ a hs)|(refine stn hs rfl rfl ds_ ?_;clear hs hm a;rintro-w hm a hs))|refine sc_ ?_)
 refine st hs rfl rfl rfl (d_call hs rfl rfl rfl (pl 21 rfl) ((nxt_c gd A n c _ xs 1048576 _ (h.now hm mem_) (by omega) (by omega)))) ?_;clear hs a;rintro _ w1 ⟨s,rfl,hs1,a1,k1,hf⟩ a hs
 replace hm:=hm.dkt rep_ k1 hf
 clear hf
 repeat(first|(refine ov_ ?_;clear hs a;intro a hs)|((with_reducible apply lCons);first|(refine dv hs gw_ rfl rfl da_ ?_;clear hs hm a;rintro _ w ⟨g,rfl,-,hm⟩ a hs)|(refine stn hs rfl rfl ds_ ?_;clear hs hm a;rintro-w hm a hs))|refine sc_ ?_)
 refine st hs rfl rfl rfl (d_call hs rfl rfl rfl (pl 87 rfl) ((mke_c B m d ss s _ hl (rdDk hm hr hne) ho (by omega)))) ?_;clear hs a;rintro _ w2 ⟨gb,key,bs,rfl,hgb,hrb,hkb,⟨v,hI⟩,hf⟩ a hs
 have hle:=hm.fr.size
 have hno:=hm.notown hgb
 replace hm:=hm.pu hf
 clear hf
 have hmB:=hm
 clear hm
 have hm:=hmB.rebase
 rename World=>w3
 repeat(first|(refine ov_ ?_;clear hs a;intro a hs)|((with_reducible apply lCons);first|(refine dv hs gw_ rfl rfl da_ ?_;clear hs hm a;rintro _ w ⟨g,rfl,-,hm⟩ a hs)|(refine stn hs rfl rfl ds_ ?_;clear hs hm a;rintro-w hm a hs))|refine sc_ ?_)
 have hm2:=hmB.trans hm
 have hrb':=rdD hm.fr hrb (fun b o e=>by cases e;exact hno)
 exact gRetN tab hs rfl (.cons (.cells rfl rfl rfl rfl (hm.ro (k:=0) (n:=2) mem_ (cutF_ok rfl))) .nil) ⟨_,rfl,mkLS hl ho hrb' (rdDk hm2 hr hne) hkb hI (Nat.le_trans hle hgb),_,h.now hm2 mem_,Dk.out hm2⟩
end Go.Proofs.YtbjffoojenpmfaaGreat
namespace Go.Proofs.YtbjffoojenpmfaaGreat
end Go.Proofs.YtbjffoojenpmfaaGreat
namespace Go.Proofs.YtbjffoojenpmfaaGreat
open Go.RowKit
structure In where
 op:Int
 a:Int
 b:Int
 c:Int
 m:Int
def inV(i:In):List Value:=[.int .i64 i.op,.int .i64 i.a,.int .i64 i.b,.int .i64 i.c,.int .i64 i.m]
def inA(i:In):Value:= .agg #[.int .i64 i.op,.int .i64 i.a,.int .i64 i.b,.int .i64 i.c,.int .i64 i.m]
theorem inV_len(i:In):(inV i).length=5:=rfl
def jumpB(op:Int):Bool:=decide (18≤op∧op≤21)
def usesF(op:Int):Bool × Bool × Bool × Bool:=
 if op=1∨op=15∨op=19∨op=20∨op=21 then(true,false,false,true)
 else if op=2 then(true,true,false,false)
 else if op=16∨op=17 then(true,true,false,true)
 else if op=18∨op=23 then(false,false,false,true)
 else if op=22 then(true,false,false,false)
 else if op=0∨op=24 then(false,false,false,false)
 else(true,true,true,false)
def u4V(u:Bool × Bool × Bool × Bool):Value:= .agg #[.bool u.1,.bool u.2.1,.bool u.2.2.1,.bool u.2.2.2]
structure InV(i:In)(ns:Int):Prop where
 op:0≤i.op∧i.op≤24
 a:0≤i.a∧i.a<8∧((usesF i.op).1=false→i.a=0)
 b:0≤i.b∧i.b<8∧((usesF i.op).2.1=false→i.b=0)
 c:0≤i.c∧i.c<8∧((usesF i.op).2.2.1=false→i.c=0)
 m:0≤i.m∧i.m≤65535∧((usesF i.op).2.2.2=false→i.m=0)
 lea:i.op=15→i.m<ns
 sys:i.op=23→i.m≤15
theorem uses_c(op:Int)(wB:World):Ret Tryz.prog 97 [.int .i64 op] wB (fun u w'=>u=u4V (usesF op)∧Pu wB w'):=by
 by_cases h1:op=1
 ·subst h1
  refine enterR Tryz.func97 rfl rfl rfl fun a hs hm=>?_
  refine gsce98_ ?_;clear hs hm a;intros;rename_i a hm hs
  exact zb443_
 by_cases h15:op=15
 ·subst h15
  refine enterR Tryz.func97 rfl rfl rfl fun a hs hm=>?_
  refine gsce98_ ?_;clear hs hm a;intros;rename_i a hm hs
  exact zb443_
 by_cases h19:op=19
 ·subst h19
  refine enterR Tryz.func97 rfl rfl rfl fun a hs hm=>?_
  refine gsce98_ ?_;clear hs hm a;intros;rename_i a hm hs
  exact zb443_
 by_cases h20:op=20
 ·subst h20
  refine enterR Tryz.func97 rfl rfl rfl fun a hs hm=>?_
  refine gsce98_ ?_;clear hs hm a;intros;rename_i a hm hs
  exact zb443_
 by_cases h21:op=21
 ·subst h21
  refine enterR Tryz.func97 rfl rfl rfl fun a hs hm=>?_
  refine gsce98_ ?_;clear hs hm a;intros;rename_i a hm hs
  exact zb443_
 by_cases h2:op=2
 ·subst h2
  refine enterR Tryz.func97 rfl rfl rfl fun a hs hm=>?_
  refine gsce98_ ?_;clear hs hm a;intros;rename_i a hm hs
  exact zb443_
 by_cases h16:op=16
 ·subst h16
  refine enterR Tryz.func97 rfl rfl rfl fun a hs hm=>?_
  refine gsce98_ ?_;clear hs hm a;intros;rename_i a hm hs
  exact zb443_
 by_cases h17:op=17
 ·subst h17
  refine enterR Tryz.func97 rfl rfl rfl fun a hs hm=>?_
  refine gsce98_ ?_;clear hs hm a;intros;rename_i a hm hs
  exact zb443_
 by_cases h18:op=18
 ·subst h18
  refine enterR Tryz.func97 rfl rfl rfl fun a hs hm=>?_
  refine gsce98_ ?_;clear hs hm a;intros;rename_i a hm hs
  exact zb443_
 by_cases h23:op=23
 ·subst h23
  refine enterR Tryz.func97 rfl rfl rfl fun a hs hm=>?_
  refine gsce98_ ?_;clear hs hm a;intros;rename_i a hm hs
  exact zb443_
 by_cases h22:op=22
 ·subst h22
  refine enterR Tryz.func97 rfl rfl rfl fun a hs hm=>?_
  refine gsce98_ ?_;clear hs hm a;intros;rename_i a hm hs
  exact zb443_
 by_cases h0:op=0
 ·subst h0
  refine enterR Tryz.func97 rfl rfl rfl fun a hs hm=>?_
  refine gsce98_ ?_;clear hs hm a;intros;rename_i a hm hs
  exact zb443_
 by_cases h24:op=24
 ·subst h24
  refine enterR Tryz.func97 rfl rfl rfl fun a hs hm=>?_
  refine gsce98_ ?_;clear hs hm a;intros;rename_i a hm hs
  exact zb443_
 ·have hu:usesF op=(true,true,true,false):=by unfold usesF;rw[if_neg (by omega),if_neg (by omega),if_neg (by omega),if_neg (by omega),if_neg (by omega),if_neg (by omega)]
  rw[hu]
  refine enterR Tryz.func97 rfl rfl rfl fun a hs hm=>?_
  refine gsce98_ ?_;clear hs hm a;intros;rename_i a hm hs
  exact zb443_
theorem jump_c(op:Int)(wB:World):Ret Tryz.prog 68 [.int .i64 op] wB (fun u w'=>u= .bool (jumpB op)∧Pu wB w'):=by
 by_cases h18:op=18
 ·rw[show jumpB op=true from decide_eq_true (by omega)]
  refine enterR Tryz.func68 rfl rfl rfl fun a hs hm=>?_
  refine gsce98_ ?_;clear hs hm a;intros;rename_i a hm hs
  exact gRet1 hs rfl rfl ⟨rfl,hm.fr⟩
 by_cases h19:op=19
 ·rw[show jumpB op=true from decide_eq_true (by omega)]
  refine enterR Tryz.func68 rfl rfl rfl fun a hs hm=>?_
  refine gsce98_ ?_;clear hs hm a;intros;rename_i a hm hs
  exact gRet1 hs rfl rfl ⟨rfl,hm.fr⟩
 by_cases h20:op=20
 ·rw[show jumpB op=true from decide_eq_true (by omega)]
  refine enterR Tryz.func68 rfl rfl rfl fun a hs hm=>?_
  refine gsce98_ ?_;clear hs hm a;intros;rename_i a hm hs
  exact gRet1 hs rfl rfl ⟨rfl,hm.fr⟩
 by_cases h21:op=21
 ·rw[show jumpB op=true from decide_eq_true (by omega)]
  refine enterR Tryz.func68 rfl rfl rfl fun a hs hm=>?_
  refine gsce98_ ?_;clear hs hm a;intros;rename_i a hm hs
  exact gRet1 hs rfl rfl ⟨rfl,hm.fr⟩
 ·rw[show jumpB op=false from decide_eq_false (by omega)]
  refine enterR Tryz.func68 rfl rfl rfl fun a hs hm=>?_
  refine gsce98_ ?_;clear hs hm a;intros;rename_i a hm hs
  exact gRet1 hs rfl rfl ⟨rfl,hm.fr⟩
theorem li_c(r k:Int)(wB:World):Ret Tryz.prog 80 [.int .i64 r,.int .i64 k] wB (fun u w'=>u=(inA ⟨1,r,0,0,k⟩)∧Pu wB w'):=by
 refine enterR Tryz.func80 rfl rfl rfl fun a hs hm=>?_
 refine gsce98_ ?_;clear hs hm a;intros;rename_i a hm hs
 exact gRetN tab hs rfl (.cons (.cells rfl rfl rfl rfl (hm.ro (k:=0) (n:=5) mem_ (cutF_ok rfl))) .nil) ⟨rfl,hm.fr⟩
theorem mov_c(r k:Int)(wB:World):Ret Tryz.prog 98 [.int .i64 r,.int .i64 k] wB (fun u w'=>u=(inA ⟨2,r,k,0,0⟩)∧Pu wB w'):=by
 refine enterR Tryz.func98 rfl rfl rfl fun a hs hm=>?_
 refine gsce98_ ?_;clear hs hm a;intros;rename_i a hm hs
 exact gRetN tab hs rfl (.cons (.cells rfl rfl rfl rfl (hm.ro (k:=0) (n:=5) mem_ (cutF_ok rfl))) .nil) ⟨rfl,hm.fr⟩
theorem sys_c(k:Int)(wB:World):Ret Tryz.prog 81 [.int .i64 k] wB (fun u w'=>u=inA ⟨23,0,0,0,k⟩∧Pu wB w'):=by
 refine enterR Tryz.func81 rfl rfl rfl fun a hs hm=>?_
 refine gsce98_ ?_;clear hs hm a;intros;rename_i a hm hs
 exact gRetN tab hs rfl (.cons (.cells rfl rfl rfl rfl (hm.ro (k:=0) (n:=5) mem_ (cutF_ok rfl))) .nil) ⟨rfl,hm.fr⟩
theorem Mm.into{S:Nat→Prop}{w0 w w':World}{M M':List Hp}{h h':Hp}(hm:Mm S w0 M w)(hk:Mm (own [h]) w [h'] w')(hg:h'.g=h.g)(hR:Rep M h h' M'):Mm S w0 M' w':=by
 refine hm.turn hR ⟨hk.fr.os,hk.fr.tape,hk.fr.output,hk.fr.size,fun k hk' hne=>hk.fr.block k hk' fun⟨z,hz,e⟩=>hne ?_⟩ (hk.me _ (List.mem_singleton.2 rfl)) fun g hg'=> .inl (by rw[←hg];exact hg')
 rcases List.mem_singleton.1 hz with rfl
 exact e
theorem Apart.cross:∀{A B:List Hp},Apart (A++B)→∀x∈A,∀y∈B,∀g,x.g=some g→y.g=some g→False
 |a::t,B,h,x,hx,y,hy,g,e1,e2=>by
  rcases List.mem_cons.1 hx with rfl|hx
  ·exact h.1 y (List.mem_append_right _ hy) g e1 e2
  ·exact Apart.cross (A:=t) h.2 x hx y hy g e1 e2
theorem Mm.deck{S:Nat→Prop}{w0 w w':World}{M M' R:List Hp}{h h':Hp}(hm:Mm S w0 M w)(hk:Mm (own [h]) w (R++[h']) w')(hg:h'.g=h.g)(hR:Rep M h h' M'):Mm S w0 (R++M') w':=by
 have h1:=hm.into (hk.sub (List.sublist_append_right _ _)) hg hR
 have hfresh:∀x∈R,∀g,x.g=some g→w.heap.size≤g:=fun x hx g e=>by
  rcases hk.ow x (List.mem_append_left _ hx) g e with h2|⟨z,hz,e2⟩
  ·exact h2
  ·rcases List.mem_singleton.1 hz with rfl
   exact(Apart.cross hk.dj x hx h' (List.mem_singleton.2 rfl) g e (by rw[hg];exact e2)).elim
 obtain⟨O,o1,o2,o3⟩:=hR.others hm.dj
 have hold:∀y∈M',∀g,y.g=some g→g<w.heap.size:=fun y hy g e=>by
  rcases o1 y hy with rfl|hy
  ·exact Hp.lt (hm.me h hR.mem) (by rw[←hg];exact e)
  ·exact Hp.lt (hm.me y (o2 y hy)) e
 refine⟨fun x hx=>?_,h1.fr,(hk.dj.sub (List.sublist_append_left _ _)).append h1.dj ?_,fun x hx g e=>?_⟩
 ·rcases List.mem_append.1 hx with hx|hx
  ·exact hk.me x (List.mem_append_left _ hx)
  ·exact h1.me x hx
 ·intro x hx y hy g e1 e2
  have:=hfresh x hx g e1
  have:=hold y hy g e2
  omega
 ·rcases List.mem_append.1 hx with hx|hx
  ·exact .inl (Nat.le_trans hm.fr.size (hfresh x hx g e))
  ·exact h1.ow x hx g e
def wds(xs:List Int):List Value:=xs.map (Value.int .u16)
structure WdX where
 m:Nat
 at_:Nat
 xs:List Int
 A:Option Nat
 c:Nat
 cs:List Value
theorem wds_snoc(xs:List Int)(x:Int):wds xs++[.int .u16 x]=wds (xs++[x]):=by simp[wds]
theorem wds_c(gd:Nat)(A:Option Addr)(n c at_:Nat)(xs:List Int)(k:Nat)(wB:World)(h:Dk gd A n c at_ xs wB)(hk:k≤1000):
  Ret Tryz.prog 78 [pt gd,.int .i64 (k:Int)] wB (fun u w'=>∃(a1:Nat)(wA:Option Nat)(wc:Nat)(wcs:List Value)(ys:List Int),u=slv wA ys.length wc∧Row wA ys.length wc 1 (wds ys) wcs∧ys.length≤k∧(∀y∈ys,0≤y∧y≤65535)∧Mm (own [dk gd A n c at_]) wB [⟨wA,23,wcs⟩,dk gd A n c a1] w'):=by
 refine enterR Tryz.func78 rfl rfl rfl fun a hs hm=>?_
 clear hm
 have hm:=h.in_
 refine gsce98_ ?_;clear hs hm a;intros;rename_i a hm hs
 refine st hs rfl rfl rfl (d_call hs rfl rfl rfl (pl 21 rfl) ((nxt_c gd A n c _ xs (k+1) _ (h.now hm mem_) (by omega) (by omega)))) ?_;clear hs a;rintro _ w1 ⟨r1,rfl,b1,a1,k1,hf⟩ a hs
 replace hm:=hm.dkt rep_ k1 hf
 clear hf
 refine gsce98_ ?_;clear hs hm a;intros;rename_i a hm hs
 replace hm:=hm.zero 23
 refine cLoop (X:=WdX) (fun x a w'=>Sl Tryz.f78.ntmps [(0,pt gd),(5,slv x.A x.xs.length x.c),(6,.int .i64 (x.m:Int))] a∧Mm (own [dk gd A n c at_]) wB [⟨x.A,23,x.cs⟩,dk gd A n c x.at_] w'∧Row x.A x.xs.length x.c 1 (wds x.xs) x.cs∧x.xs.length+x.m≤k∧∀y∈x.xs,0≤y∧y≤65535) (fun x=>x.m) ⟨r1,a1,[],none,0,[]⟩ ⟨(sb_ hs),hm,(Row.empty 1:Row none 0 0 1 [] []),by dsimp only;rw[List.length_nil];omega,fun y hy=>absurd hy List.not_mem_nil⟩ ?_
 clear hs hm a
 rintro⟨m,at1,ys,wA,wc,wcs⟩ a w' ⟨hs,hm,hr,h4,hbd⟩
 dsimp only at*
 by_cases hm0:0<m
 ·obtain⟨m,rfl⟩:∃k,m=k+1:=⟨m-1,by omega⟩
  refine gsce98_ ?_;clear hs hm a;intros;rename_i a hm hs
  refine st hs rfl rfl rfl (d_call hs rfl rfl rfl (pl 58 rfl) ((wrd_c gd A n c _ xs _ (h.now hm mem_)))) ?_;clear hs a;rintro _ w1 ⟨z,rfl,hz,a2,k2,hf⟩ a hs
  replace hm:=hm.dkt rep_ k2 hf
  clear hf
  refine gsce98_ ?_;clear hs hm a;intros;rename_i a hm hs
  refine dv hs (Wnt.none rfl) rfl rfl (d_append (A:=wA) (n:=ys.length) (c:=wc) (news:=[.int .u16 z]) hs rfl rfl rfl rfl rfl tab rfl rfl rfl rfl rfl hm mem_ hr rfl (hm.ro (n:=1) mem_ (cutF_ok rfl)) rfl (by show(ys.length+1)*2≤_;omega) (by omega)) ?_
  clear hs
  rintro _ w2 ⟨A',c',cs',rfl,hr2,hM⟩ a hs
  replace hm:=hM _ rep_
  clear hM
  rw[wds_snoc]at hr2
  refine gsce98_ ?_;clear hs hm a;intros;rename_i a hm hs
  refine⟨⟨m,a2,ys++[z],A',c',cs'⟩,by dsimp only;omega,?_⟩
  dsimp only
  rw[List.length_append,List.length_singleton]
  refine⟨(sb_ hs),hm.sub sub_,hr2,by omega,fun y hy=>?_⟩
  rcases List.mem_append.1 hy with hy|hy
  ·exact hbd y hy
  ·rcases List.mem_singleton.1 hy with rfl;exact hz
 ·refine gsce98_ ?_;clear hs hm a;intros;rename_i a hm hs
  exact gRet1 hs rfl rfl ⟨at1,wA,wc,wcs,ys,rfl,hr,by omega,hbd,hm⟩
theorem gpPg30_{G H:Prop}(k:H)(s:Bx H→G:=by intro k_;(repeat(first|(refine ov701a_ ?_;(try clear hs a);intro a hs)|((with_reducible apply lCons);first|(refine dv hs gw_ rfl rfl da_ ?_;(try clear hs hm a);rintro _ w_ ⟨g_,rfl,-,hm⟩ a hs)|(refine stn hs rfl rfl ds_ ?_;(try clear hs hm a);rintro-w_ hm a hs))|refine sc_ ?_));have m_:=hm;have s_:=hs;clear hs;(try clear hm);revert m_ s_ a;(try revert w_);(repeat revert g_);exact k_.h):G:=s ⟨k⟩
theorem gcPg31_{G H:Prop}(k:H)(s:Bx H→G:=by intro k_;(repeat(first|(refine ov701a_ ?_;(try clear hs a);intro a hs)|((with_reducible apply lCons);first|(refine dv hs gw_ rfl rfl da_ ?_;(try clear hs hm a);rintro _ w_ ⟨g_,rfl,-,hm⟩ a hs)|(refine stn hs rfl rfl ds_ ?_;(try clear hs hm a);rintro-w_ hm a hs))|refine sc_ ?_|((with_reducible apply lCons);first|(refine dvc hs hm gw_ rfl rfl rfl rfl rfl (pl 68 rfl) (hjm1 _) ?_;(try clear hs hm a);intro w_ hm a hs))));(first|(have m_:=hm;have s_:=hs;clear hs;(try clear hm);revert m_ s_ a)|((first|refine rexc_ hs hm ?_|refine rexl_ hs hm ?_|refine rexg_ hs hm ?_|refine rexq_ hs hm ?_);intro a hm hs;revert hm hs a));(try revert w_);(repeat revert g_);exact k_.h):G:=s ⟨k⟩
theorem wrap_idP{v:Int}(h:-9223372036854775808≤v∧v≤9223372036854775807):IntKind.i64.wrap v=v:=by simp[IntKind.wrap,IntKind.signed,IntKind.bits];omega
theorem uses_imm{op:Int}(h:(18≤op∧op≤21)∨op=15∨op=23):(usesF op).2.2.2=true:=by
 rcases(by omega:op=18∨op=19∨op=20∨op=21∨op=15∨op=23)with rfl|rfl|rfl|rfl|rfl|rfl<;>rfl
theorem ins_c(gd:Nat)(A:Option Addr)(n c at_:Nat)(xs:List Int)(ns mo:Int)(wB:World)(h:Dk gd A n c at_ xs wB)(hns:1≤ns∧ns≤4)(hmo:1≤mo∧mo≤70):
  Ret Tryz.prog 99 [pt gd,.int .i64 ns,.int .i64 mo] wB (fun u w'=>∃i:In,u=inA i∧InV i ns∧DkR gd A n c xs wB w'):=by
 have hus:=fun w op=>uses_c op w
 have hjm:=fun w op=>jump_c op w
 refine enterR Tryz.func99 rfl rfl rfl fun a hs hm=>?_
 clear hm
 have hm:=h.in_
 refine gsc5af_ ?_;clear hs hm a;intros;rename_i a hm hs
 refine st hs rfl rfl rfl (d_call hs rfl rfl rfl (pl 21 rfl) ((nxt_c gd A n c _ xs 25 _ (h.now hm mem_) (by omega) (by omega)))) ?_;clear hs a;rintro _ w1 ⟨r1,rfl,b1,a1,k1,hf⟩ a hs
 replace hm:=hm.dkt rep_ k1 hf
 clear hf
 obtain⟨⟨u1,u2,u3,u4⟩,hu⟩:∃u,usesF (r1:Int)=u:=⟨_,rfl⟩
 have hus1:=fun w=>hus w (r1:Int)
 rw[hu]at hus1
 obtain⟨jb,hjb⟩:∃b,jumpB (r1:Int)=b:=⟨_,rfl⟩
 have hjm1:=fun w=>hjm w (r1:Int)
 rw[hjb]at hjm1
 unfold u4V at hus1
 dsimp only at hus1
 repeat(first|(refine gpPg30_ ?_;clear hs hm a;intros;rename_i a hm hs)|refine sc_ ?_|((with_reducible apply lCons);first|(refine dvc hs hm gw_ rfl rfl rfl rfl rfl (pl 97 rfl) (hus1 _) ?_;clear hs hm a;intro w hm a hs)|(refine dvc hs hm gw_ rfl rfl rfl rfl rfl (pl 68 rfl) (hjm1 _) ?_;clear hs hm a;intro w hm a hs)))
 obtain⟨g6,rfl⟩:=hs.pp 6
 obtain⟨g7,rfl⟩:=hs.pp 7
 obtain⟨g8,rfl⟩:=hs.pp 8
 refine cMid (fun a w'=>∃(va:Int)(a2:Nat),(0≤va∧va<8∧(u1=false→va=0))∧Sl Tryz.f99.ntmps [(0,pt gd),(1,.int .i64 ns),(2,.int .i64 mo),(6,pt g6),(7,pt g7),(8,pt g8)] a∧Mm (own [dk gd A n c at_]) wB [⟨some g8,186,[.bool u1,.bool u2,.bool u3,.bool u4]⟩,⟨some g7,54,[.int .i64 (r1:Int),.int .i64 va,.int .i64 0,.int .i64 0,.int .i64 0]⟩,⟨some g6,54,[.int .i64 0,.int .i64 0,.int .i64 0,.int .i64 0,.int .i64 0]⟩,dk gd A n c a2] w') ?_ ?_
 ·cases u1
  ·refine gsc5af_ ?_;clear hs hm a;intros;rename_i a hm hs
   exact And.intro rfl ⟨0,_,⟨by omega,by omega,fun _=>rfl⟩,(sb_ hs),hm⟩
  ·refine gsc5af_ ?_;clear hs hm a;intros;rename_i a hm hs
   refine st hs rfl rfl rfl (d_call hs rfl rfl rfl (pl 21 rfl) ((nxt_c gd A n c _ xs 8 _ (h.now hm mem_) (by omega) (by omega)))) ?_;clear hs a;rintro _ w1 ⟨r2,rfl,b2,a2,k2,hf⟩ a hs
   replace hm:=hm.dkt rep_ k2 hf
   clear hf
   refine gsc5af_ ?_;clear hs hm a;intros;rename_i a hm hs
   exact And.intro rfl ⟨_,_,⟨Int.natCast_nonneg _,b2,fun e=>by cases e⟩,(sb_ hs),hm⟩
 clear hs hm a
 rintro a w2 ⟨va,at0,hva,hs,hm⟩
 refine gcPg31_ ?_;clear hs hm a;intros;rename_i a hm hs
 refine cMid (fun a w'=>∃(vb:Int)(a2:Nat),(0≤vb∧vb<8∧(u2=false→vb=0))∧Sl Tryz.f99.ntmps [(0,pt gd),(1,.int .i64 ns),(2,.int .i64 mo),(6,pt g6),(7,pt g7),(8,pt g8)] a∧Mm (own [dk gd A n c at_]) wB [⟨some g8,186,[.bool u1,.bool u2,.bool u3,.bool u4]⟩,⟨some g7,54,[.int .i64 (r1:Int),.int .i64 va,.int .i64 vb,.int .i64 0,.int .i64 0]⟩,⟨some g6,54,[.int .i64 0,.int .i64 0,.int .i64 0,.int .i64 0,.int .i64 0]⟩,dk gd A n c a2] w') ?_ ?_
 ·cases u2
  ·refine gsc5af_ ?_;clear hs hm a;intros;rename_i a hm hs
   exact And.intro rfl ⟨0,_,⟨by omega,by omega,fun _=>rfl⟩,(sb_ hs),hm⟩
  ·refine gsc5af_ ?_;clear hs hm a;intros;rename_i a hm hs
   refine st hs rfl rfl rfl (d_call hs rfl rfl rfl (pl 21 rfl) ((nxt_c gd A n c _ xs 8 _ (h.now hm mem_) (by omega) (by omega)))) ?_;clear hs a;rintro _ w1 ⟨r2,rfl,b2,a2,k2,hf⟩ a hs
   replace hm:=hm.dkt rep_ k2 hf
   clear hf
   refine gsc5af_ ?_;clear hs hm a;intros;rename_i a hm hs
   exact And.intro rfl ⟨_,_,⟨Int.natCast_nonneg _,b2,fun e=>by cases e⟩,(sb_ hs),hm⟩
 clear hs hm a
 rintro a w3 ⟨vb,at1,hvb,hs,hm⟩
 refine gcPg31_ ?_;clear hs hm a;intros;rename_i a hm hs
 refine cMid (fun a w'=>∃(vc:Int)(a2:Nat),(0≤vc∧vc<8∧(u3=false→vc=0))∧Sl Tryz.f99.ntmps [(0,pt gd),(1,.int .i64 ns),(2,.int .i64 mo),(6,pt g6),(7,pt g7),(8,pt g8)] a∧Mm (own [dk gd A n c at_]) wB [⟨some g8,186,[.bool u1,.bool u2,.bool u3,.bool u4]⟩,⟨some g7,54,[.int .i64 (r1:Int),.int .i64 va,.int .i64 vb,.int .i64 vc,.int .i64 0]⟩,⟨some g6,54,[.int .i64 0,.int .i64 0,.int .i64 0,.int .i64 0,.int .i64 0]⟩,dk gd A n c a2] w') ?_ ?_
 ·cases u3
  ·refine gsc5af_ ?_;clear hs hm a;intros;rename_i a hm hs
   exact And.intro rfl ⟨0,_,⟨by omega,by omega,fun _=>rfl⟩,(sb_ hs),hm⟩
  ·refine gsc5af_ ?_;clear hs hm a;intros;rename_i a hm hs
   refine st hs rfl rfl rfl (d_call hs rfl rfl rfl (pl 21 rfl) ((nxt_c gd A n c _ xs 8 _ (h.now hm mem_) (by omega) (by omega)))) ?_;clear hs a;rintro _ w1 ⟨r2,rfl,b2,a2,k2,hf⟩ a hs
   replace hm:=hm.dkt rep_ k2 hf
   clear hf
   refine gsc5af_ ?_;clear hs hm a;intros;rename_i a hm hs
   exact And.intro rfl ⟨_,_,⟨Int.natCast_nonneg _,b2,fun e=>by cases e⟩,(sb_ hs),hm⟩
 clear hs hm a
 rintro a w4 ⟨vc,at2,hvc,hs,hm⟩
 refine gcPg31_ ?_;clear hs hm a;intros;rename_i a hm hs
 have hj4:jb=true→18≤(r1:Int)∧(r1:Int)≤21:=fun e=>by rw[e]at hjb;exact of_decide_eq_true hjb
 have hu4:(18≤(r1:Int)∧(r1:Int)≤21)∨(r1:Int)=15∨(r1:Int)=23→u4=true:=fun e=>by
  have e2:=uses_imm (op:=(r1:Int)) (by omega)
  rw[hu]at e2
  exact e2
 cases jb
 ·by_cases h15:(r1:Int)=15
  ·have e4:=hu4 (by omega)
   refine gsc5af_ ?_;clear hs hm a;intros;rename_i a hm hs
   refine st hs rfl rfl rfl (d_call hs rfl rfl rfl (pl 21 rfl) ((nxt_c gd A n c _ xs ns _ (h.now hm mem_) (by omega) (by omega)))) ?_;clear hs a;rintro _ w1 ⟨r5,rfl,b5,a5,k5,hf⟩ a hs
   replace hm:=hm.dkt rep_ k5 hf
   clear hf
   refine gsc5af_ ?_;clear hs hm a;intros;rename_i a hm hs
   exact gRetN tab hs rfl (.cons (.cells rfl rfl rfl rfl (hm.ro (k:=0) (n:=5) (g:=g6) mem_ (cutF_ok rfl))) .nil) ⟨⟨r1,va,vb,vc,(r5:Int)⟩,rfl,⟨⟨Int.natCast_nonneg _,by dsimp only;omega⟩,⟨hva.1,hva.2.1,by dsimp only;rw[hu];exact hva.2.2⟩,⟨hvb.1,hvb.2.1,by dsimp only;rw[hu];exact hvb.2.2⟩,⟨hvc.1,hvc.2.1,by dsimp only;rw[hu];exact hvc.2.2⟩,⟨Int.natCast_nonneg _,by dsimp only;omega,by dsimp only;rw[hu,e4];exact fun e=>by cases e⟩,(fun _=>b5),(fun e=>by dsimp only at e;omega)⟩,_,h.now hm mem_,Dk.out hm⟩
  by_cases h23:(r1:Int)=23
  ·have e4:=hu4 (by omega)
   refine gsc5af_ ?_;clear hs hm a;intros;rename_i a hm hs
   refine st hs rfl rfl rfl (d_call hs rfl rfl rfl (pl 21 rfl) ((nxt_c gd A n c _ xs 16 _ (h.now hm mem_) (by omega) (by omega)))) ?_;clear hs a;rintro _ w1 ⟨r5,rfl,b5,a5,k5,hf⟩ a hs
   replace hm:=hm.dkt rep_ k5 hf
   clear hf
   refine gsc5af_ ?_;clear hs hm a;intros;rename_i a hm hs
   exact gRetN tab hs rfl (.cons (.cells rfl rfl rfl rfl (hm.ro (k:=0) (n:=5) (g:=g6) mem_ (cutF_ok rfl))) .nil) ⟨⟨r1,va,vb,vc,(r5:Int)⟩,rfl,⟨⟨Int.natCast_nonneg _,by dsimp only;omega⟩,⟨hva.1,hva.2.1,by dsimp only;rw[hu];exact hva.2.2⟩,⟨hvb.1,hvb.2.1,by dsimp only;rw[hu];exact hvb.2.2⟩,⟨hvc.1,hvc.2.1,by dsimp only;rw[hu];exact hvc.2.2⟩,⟨Int.natCast_nonneg _,by dsimp only;omega,by dsimp only;rw[hu,e4];exact fun e=>by cases e⟩,(fun e=>by dsimp only at e;omega),(fun _=>by dsimp only;omega)⟩,_,h.now hm mem_,Dk.out hm⟩
  ·cases u4
   ·refine gsc5af_ ?_;clear hs hm a;intros;rename_i a hm hs
    exact gRetN tab hs rfl (.cons (.cells rfl rfl rfl rfl (hm.ro (k:=0) (n:=5) (g:=g6) mem_ (cutF_ok rfl))) .nil) ⟨⟨r1,va,vb,vc,0⟩,rfl,⟨⟨Int.natCast_nonneg _,by dsimp only;omega⟩,⟨hva.1,hva.2.1,by dsimp only;rw[hu];exact hva.2.2⟩,⟨hvb.1,hvb.2.1,by dsimp only;rw[hu];exact hvb.2.2⟩,⟨hvc.1,hvc.2.1,by dsimp only;rw[hu];exact hvc.2.2⟩,⟨by dsimp only;omega,by dsimp only;omega,fun _=>rfl⟩,(fun e=>by dsimp only at e;omega),(fun e=>by dsimp only at e;omega)⟩,_,h.now hm mem_,Dk.out hm⟩
   ·refine gsc5af_ ?_;clear hs hm a;intros;rename_i a hm hs
    refine st hs rfl rfl rfl (d_call hs rfl rfl rfl (pl 58 rfl) ((wrd_c gd A n c _ xs _ (h.now hm mem_)))) ?_;clear hs a;rintro _ w1 ⟨z,rfl,hz,a5,k5,hf⟩ a hs
    replace hm:=hm.dkt rep_ k5 hf
    clear hf
    refine gsc5af_ ?_;clear hs hm a;intros;rename_i a hm hs
    rw[wrap_idP (v:=z) (by omega)]at hm
    exact gRetN tab hs rfl (.cons (.cells rfl rfl rfl rfl (hm.ro (k:=0) (n:=5) (g:=g6) mem_ (cutF_ok rfl))) .nil) ⟨⟨r1,va,vb,vc,z⟩,rfl,⟨⟨Int.natCast_nonneg _,by dsimp only;omega⟩,⟨hva.1,hva.2.1,by dsimp only;rw[hu];exact hva.2.2⟩,⟨hvb.1,hvb.2.1,by dsimp only;rw[hu];exact hvb.2.2⟩,⟨hvc.1,hvc.2.1,by dsimp only;rw[hu];exact hvc.2.2⟩,⟨by dsimp only;omega,by dsimp only;omega,by dsimp only;rw[hu];exact fun e=>by cases e⟩,(fun e=>by dsimp only at e;omega),(fun e=>by dsimp only at e;omega)⟩,_,h.now hm mem_,Dk.out hm⟩
 ·have hj5:=hj4 rfl
  have e4:=hu4 (by omega)
  refine gsc5af_ ?_;clear hs hm a;intros;rename_i a hm hs
  refine st hs rfl rfl rfl (d_call hs rfl rfl rfl (pl 21 rfl) ((nxt_c gd A n c _ xs mo _ (h.now hm mem_) (by omega) (by omega)))) ?_;clear hs a;rintro _ w1 ⟨r5,rfl,b5,a5,k5,hf⟩ a hs
  replace hm:=hm.dkt rep_ k5 hf
  clear hf
  refine gsc5af_ ?_;clear hs hm a;intros;rename_i a hm hs
  exact gRetN tab hs rfl (.cons (.cells rfl rfl rfl rfl (hm.ro (k:=0) (n:=5) (g:=g6) mem_ (cutF_ok rfl))) .nil) ⟨⟨r1,va,vb,vc,(r5:Int)⟩,rfl,⟨⟨Int.natCast_nonneg _,by dsimp only;omega⟩,⟨hva.1,hva.2.1,by dsimp only;rw[hu];exact hva.2.2⟩,⟨hvb.1,hvb.2.1,by dsimp only;rw[hu];exact hvb.2.2⟩,⟨hvc.1,hvc.2.1,by dsimp only;rw[hu];exact hvc.2.2⟩,⟨Int.natCast_nonneg _,by dsimp only;omega,by dsimp only;rw[hu,e4];exact fun e=>by cases e⟩,(fun e=>by dsimp only at e;omega),(fun e=>by dsimp only at e;omega)⟩,_,h.now hm mem_,Dk.out hm⟩
end Go.Proofs.YtbjffoojenpmfaaGreat
