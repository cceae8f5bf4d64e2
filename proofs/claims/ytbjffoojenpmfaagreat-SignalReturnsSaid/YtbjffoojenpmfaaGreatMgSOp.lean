/- Texts put together: Shu, Shv, Shw. -/
import Derived.Test.YtbjffoojenpmfaaGreatMgSOo
set_option maxRecDepth 20000
set_option maxHeartbeats 64000000
set_option linter.unusedVariables false
set_option linter.unusedSimpArgs false
namespace Go.Proofs.YtbjffoojenpmfaaGreat
open Go.RowKit
theorem gcShu0_{G H:Prop}(k:H)(s:Bx H→G:=by intro k_;(repeat(first|(refine ov701a_ ?_;(try clear hs a);intro a hs)|((with_reducible apply lCons);first|(refine dv hs gw_ rfl rfl da_ ?_;(try clear hs hm a);rintro _ w_ ⟨g_,rfl,-,hm⟩ a hs)|(refine stn hs rfl rfl ds_ ?_;(try clear hs hm a);rintro-w_ hm a hs))|refine sc_ ?_|((with_reducible apply lCons);first|(refine dvc hs hm gw_ rfl rfl rfl rfl rfl (pl 123 rfl) (kvl _ _ _) ?_;(try clear hs hm a);intro w_ hm a hs))));(first|(have m_:=hm;have s_:=hs;clear hs;(try clear hm);revert m_ s_ a)|((first|refine rexc_ hs hm ?_|refine rexl_ hs hm ?_|refine rexg_ hs hm ?_|refine rexq_ hs hm ?_);intro a hm hs;revert hm hs a));(try revert w_);(repeat revert g_);exact k_.h):G:=s ⟨k⟩
theorem gcShu1_{G H:Prop}(k:H)(s:Bx H→G:=by intro k_;(repeat(first|(refine oq8d44_ ?_;(try clear hs a);intro a hs)|((with_reducible apply lCons);first|(refine dv hs gw_ rfl rfl da_ ?_;(try clear hs hm a);rintro _ w_ ⟨g_,rfl,-,hm⟩ a hs)|(refine stn hs rfl rfl ds_ ?_;(try clear hs hm a);rintro-w_ hm a hs))|((with_reducible apply qNil);(try clear hm);intro w_ hm)|refine cQ_ ?_|refine sc_ ?_|((with_reducible apply lCons);first|(refine dvc hs hm gw_ rfl rfl rfl rfl rfl (pl 123 rfl) (kvl _ _ _) ?_;(try clear hs hm a);intro w_ hm a hs))|((with_reducible apply qCons);first|(refine qwc hs gw_ rfl rfl rfl rfl rfl (pl 123 rfl) (fun w hm=>kvl _ _ _) ?_;(try clear hs a);intro a hs))));(first|(have m_:=hm;have s_:=hs;clear hs;(try clear hm);revert m_ s_ a)|((first|refine rexc_ hs hm ?_|refine rexl_ hs hm ?_|refine rexg_ hs hm ?_|refine rexq_ hs hm ?_);intro a hm hs;revert hm hs a));(try revert w_);(repeat revert g_);exact k_.h):G:=s ⟨k⟩
theorem valR_st(M:List Hp)(n:Int)(ok:Bool)(w:World):St M (valR n ok).ok w:=fun w' _ _=>valR_ok n ok w'
structure SpX where
 k:Nat
theorem MO.thr{y:MO}{w:World}{gt:Nat}(h:y.mv.ok w)(hg:y.tA=some gt){k:Nat}(hk:k<y.ts.length):Ro w gt (k*8) (y.ts[k]).v:=by
 obtain⟨bt,ot,hbt,-,rt⟩:=h.t.ro (by rw[flat_len ThV.v 8 ThV.len];show 0<(y.ts.map ThO.tv).length*8;rw[List.length_map];omega)
 have hbt':ad y.tA=some ⟨bt,ot,none⟩:=hbt
 rw[hg]at hbt'
 obtain⟨rfl,rfl⟩:gt=bt∧0=ot:=by unfold ad at hbt';simpa using hbt'
 have r1:=rt.flat ThV.len (show k<y.mv.ts.length by show k<(y.ts.map ThO.tv).length;rw[List.length_map];exact hk)
 rw[show y.mv.ts[k]'(by show k<(y.ts.map ThO.tv).length;rw[List.length_map];exact hk)=ThO.tv y.ts[k] by show(y.ts.map ThO.tv)[k]'_=_;rw[List.getElem_map]]at r1
 rw[Nat.zero_add]at r1
 exact r1
theorem RnI.gt [HB]{w0 w:World}{B:Int}{M:List Hp}{r:RD}(h:RnI w0 B M r w):r.y.ts.length=4∧∃gt,r.y.tA=some gt∧¬own M gt∧r.y.mv.ok w:=by
 have h4:r.y.ts.length=4:=by have:=h.yv.t;rwa[MO.d_len]at this
 obtain⟨gt,hgt⟩:=h.yo.t.some_ (by omega)
 exact⟨h4,gt,hgt,h.yd gt ⟨_,List.mem_cons_self ..,hgt⟩,MO.of_new h.y.now h.yo⟩
theorem perf0_c [HB](w0:World)(B:Int)(r:RD)(gr gj jc:Nat)(e:Value)(js:List Int)(jv:List Value)(X:List Hp)(q:RqV)(wB:World)(hM:Mm (own (r.hp gr e (.slice (some ⟨gj,0,none⟩) 4 jc)::⟨some gj,3,jv⟩::X)) wB (r.hp gr e (.slice (some ⟨gj,0,none⟩) 4 jc)::⟨some gj,3,jv⟩::X) wB)(hI:RnI w0 B (r.hp gr e (.slice (some ⟨gj,0,none⟩) 4 jc)::⟨some gj,3,jv⟩::X) r wB)(hjs:Row (some gj) 4 jc 1 (ints js) jv)(hq:q.ok wB)(hqn:q.no (r.hp gr e (.slice (some ⟨gj,0,none⟩) 4 jc)::⟨some gj,3,jv⟩::X))(hqv:q.val)(hqk:q.kin)(hst:q.stop=1)(ha:q.call=0):Ret Tryz.prog 113 [pt gr,q.v] wB (fun u w'=>∃(o':OV)(k':KS)(js':List Int)(jv':List Value)(x:RsV),u=x.v∧Row (some gj) 4 jc 1 (ints js') jv'∧RnI w0 B (RD.hp gr {r with o:=o',k:=k'} e (.slice (some ⟨gj,0,none⟩) 4 jc)::⟨some gj,3,jv'⟩::X) {r with o:=o',k:=k'} w'∧St (RD.hp gr {r with o:=o',k:=k'} e (.slice (some ⟨gj,0,none⟩) 4 jc)::⟨some gj,3,jv'⟩::X) x.ok w'∧x.fit∧Mm (own (r.hp gr e (.slice (some ⟨gj,0,none⟩) 4 jc)::⟨some gj,3,jv⟩::X)) wB (RD.hp gr {r with o:=o',k:=k'} e (.slice (some ⟨gj,0,none⟩) 4 jc)::⟨some gj,3,jv'⟩::X) w'):=by
 obtain⟨M0,hM0⟩:∃M0,r.hp gr e (.slice (some ⟨gj,0,none⟩) 4 jc)::⟨some gj,3,jv⟩::X=M0:=⟨_,rfl⟩
 rw[hM0]at hI hM hqn ⊢
 have hm0:Mm (own M0) wB (r.hp gr e (.slice (some ⟨gj,0,none⟩) 4 jc)::⟨some gj,3,jv⟩::X) wB:=by rw[hM0];exact hM
 unfold RD.hp RD.cs at hm0
 have hqth:0≤q.th∧q.th<4:=by have:=hqv.th;omega
 have kvl:∀(n:Int)(b:Bool)(w'':World),Ret Tryz.prog 123 [.int .i64 n,.bool b] w'' (fun u w'=>u= .agg #[.int .u8 0,.int .u16 (IntKind.u16.wrap (failF n b)),.int .i64 0,.int .i64 0,nS,.int .i64 (-1),.bool false]∧Pu w'' w'):=fun n b w''=>vlu_c n b w''
 obtain⟨th,stop,trap,cnt,pc,call,ra,rd⟩:=q
 have hra:ra.ok wB:=hq.a
 have hrav:∀c∈ra.xs,c.val:=hqv.av
 have hran:=hqk.n
 have hnra:∀b o n,ra.A=some ⟨b,o,n⟩→¬own M0 b:=fun b o n e=>hqn b o n (.inl e)
 dsimp only at hst ha hqth hran
 subst hst ha
 unfold RqV.v
 dsimp only
 refine enterR Tryz.func113 rfl rfl rfl fun a hs hm=>?_
 clear hm
 have hm:=hm0
 refine gcShu0_ ?_;clear hs hm a;intros;rename_i a hm hs
 obtain⟨g4,rfl⟩:=hs.pp 4
 have hm':=hm.sub (M':=⟨some gr,87,(r.p.cl (r.y.cl (slv r.y.tA r.y.ts.length r.y.tc::r.o.cl (r.o.f.cl [.slice r.o.us.A r.o.us.us.length r.o.us.c,.slice r.k.o.A r.k.o.n r.k.o.c,.slice r.k.qA r.k.qs.length r.k.qc,e,.slice (some ⟨gj,0,none⟩) 4 jc]))))⟩::⟨some gj,3,jv⟩::X) sub_
 exact gRetN tab hs rfl (.cons (.cells rfl rfl rfl rfl (hm.ro (k:=0) (n:=7) (g:=g4) mem_ (cutF_ok rfl))) .nil) ⟨r.o,r.k,js,jv,valR 0 true,rfl,hjs,hI.step hm',valR_st _ _ _ _,valR_fit _ _,hm'⟩
theorem perf12_c [HB](w0:World)(B:Int)(r:RD)(gr gj jc:Nat)(e:Value)(js:List Int)(jv:List Value)(X:List Hp)(q:RqV)(wB:World)(hM:Mm (own (r.hp gr e (.slice (some ⟨gj,0,none⟩) 4 jc)::⟨some gj,3,jv⟩::X)) wB (r.hp gr e (.slice (some ⟨gj,0,none⟩) 4 jc)::⟨some gj,3,jv⟩::X) wB)(hI:RnI w0 B (r.hp gr e (.slice (some ⟨gj,0,none⟩) 4 jc)::⟨some gj,3,jv⟩::X) r wB)(hjs:Row (some gj) 4 jc 1 (ints js) jv)(hq:q.ok wB)(hqn:q.no (r.hp gr e (.slice (some ⟨gj,0,none⟩) 4 jc)::⟨some gj,3,jv⟩::X))(hqv:q.val)(hqk:q.kin)(hst:q.stop=1)(ha:q.call=12):Ret Tryz.prog 113 [pt gr,q.v] wB (fun u w'=>∃(o':OV)(k':KS)(js':List Int)(jv':List Value)(x:RsV),u=x.v∧Row (some gj) 4 jc 1 (ints js') jv'∧RnI w0 B (RD.hp gr {r with o:=o',k:=k'} e (.slice (some ⟨gj,0,none⟩) 4 jc)::⟨some gj,3,jv'⟩::X) {r with o:=o',k:=k'} w'∧St (RD.hp gr {r with o:=o',k:=k'} e (.slice (some ⟨gj,0,none⟩) 4 jc)::⟨some gj,3,jv'⟩::X) x.ok w'∧x.fit∧Mm (own (r.hp gr e (.slice (some ⟨gj,0,none⟩) 4 jc)::⟨some gj,3,jv⟩::X)) wB (RD.hp gr {r with o:=o',k:=k'} e (.slice (some ⟨gj,0,none⟩) 4 jc)::⟨some gj,3,jv'⟩::X) w'):=by
 obtain⟨M0,hM0⟩:∃M0,r.hp gr e (.slice (some ⟨gj,0,none⟩) 4 jc)::⟨some gj,3,jv⟩::X=M0:=⟨_,rfl⟩
 rw[hM0]at hI hM hqn ⊢
 have hm0:Mm (own M0) wB (r.hp gr e (.slice (some ⟨gj,0,none⟩) 4 jc)::⟨some gj,3,jv⟩::X) wB:=by rw[hM0];exact hM
 unfold RD.hp RD.cs at hm0
 have hqth:0≤q.th∧q.th<4:=by have:=hqv.th;omega
 have kvl:∀(n:Int)(b:Bool)(w'':World),Ret Tryz.prog 123 [.int .i64 n,.bool b] w'' (fun u w'=>u= .agg #[.int .u8 0,.int .u16 (IntKind.u16.wrap (failF n b)),.int .i64 0,.int .i64 0,nS,.int .i64 (-1),.bool false]∧Pu w'' w'):=fun n b w''=>vlu_c n b w''
 obtain⟨th,stop,trap,cnt,pc,call,ra,rd⟩:=q
 have hra:ra.ok wB:=hq.a
 have hrav:∀c∈ra.xs,c.val:=hqv.av
 have hran:=hqk.n
 have hnra:∀b o n,ra.A=some ⟨b,o,n⟩→¬own M0 b:=fun b o n e=>hqn b o n (.inl e)
 dsimp only at hst ha hqth hran
 subst hst ha
 unfold RqV.v
 dsimp only
 refine enterR Tryz.func113 rfl rfl rfl fun a hs hm=>?_
 clear hm
 have hm:=hm0
 refine gcShu0_ ?_;clear hs hm a;intros;rename_i a hm hs
 obtain⟨g4,rfl⟩:=hs.pp 4
 have hm':=hm.sub (M':=⟨some gr,87,(r.p.cl (r.y.cl (slv r.y.tA r.y.ts.length r.y.tc::r.o.cl (r.o.f.cl [.slice r.o.us.A r.o.us.us.length r.o.us.c,.slice r.k.o.A r.k.o.n r.k.o.c,.slice r.k.qA r.k.qs.length r.k.qc,e,.slice (some ⟨gj,0,none⟩) 4 jc]))))⟩::⟨some gj,3,jv⟩::X) sub_
 exact gRetN tab hs rfl (.cons (.cells rfl rfl rfl rfl (hm.ro (k:=0) (n:=7) (g:=g4) mem_ (cutF_ok rfl))) .nil) ⟨r.o,r.k,js,jv,valR 0 true,rfl,hjs,hI.step hm',valR_st _ _ _ _,valR_fit _ _,hm'⟩
theorem perf15_c [HB](w0:World)(B:Int)(r:RD)(gr gj jc:Nat)(e:Value)(js:List Int)(jv:List Value)(X:List Hp)(q:RqV)(wB:World)(hM:Mm (own (r.hp gr e (.slice (some ⟨gj,0,none⟩) 4 jc)::⟨some gj,3,jv⟩::X)) wB (r.hp gr e (.slice (some ⟨gj,0,none⟩) 4 jc)::⟨some gj,3,jv⟩::X) wB)(hI:RnI w0 B (r.hp gr e (.slice (some ⟨gj,0,none⟩) 4 jc)::⟨some gj,3,jv⟩::X) r wB)(hjs:Row (some gj) 4 jc 1 (ints js) jv)(hq:q.ok wB)(hqn:q.no (r.hp gr e (.slice (some ⟨gj,0,none⟩) 4 jc)::⟨some gj,3,jv⟩::X))(hqv:q.val)(hqk:q.kin)(hst:q.stop=1)(ha:q.call=15):Ret Tryz.prog 113 [pt gr,q.v] wB (fun u w'=>∃(o':OV)(k':KS)(js':List Int)(jv':List Value)(x:RsV),u=x.v∧Row (some gj) 4 jc 1 (ints js') jv'∧RnI w0 B (RD.hp gr {r with o:=o',k:=k'} e (.slice (some ⟨gj,0,none⟩) 4 jc)::⟨some gj,3,jv'⟩::X) {r with o:=o',k:=k'} w'∧St (RD.hp gr {r with o:=o',k:=k'} e (.slice (some ⟨gj,0,none⟩) 4 jc)::⟨some gj,3,jv'⟩::X) x.ok w'∧x.fit∧Mm (own (r.hp gr e (.slice (some ⟨gj,0,none⟩) 4 jc)::⟨some gj,3,jv⟩::X)) wB (RD.hp gr {r with o:=o',k:=k'} e (.slice (some ⟨gj,0,none⟩) 4 jc)::⟨some gj,3,jv'⟩::X) w'):=by
 obtain⟨M0,hM0⟩:∃M0,r.hp gr e (.slice (some ⟨gj,0,none⟩) 4 jc)::⟨some gj,3,jv⟩::X=M0:=⟨_,rfl⟩
 rw[hM0]at hI hM hqn ⊢
 have hm0:Mm (own M0) wB (r.hp gr e (.slice (some ⟨gj,0,none⟩) 4 jc)::⟨some gj,3,jv⟩::X) wB:=by rw[hM0];exact hM
 unfold RD.hp RD.cs at hm0
 have hqth:0≤q.th∧q.th<4:=by have:=hqv.th;omega
 have kvl:∀(n:Int)(b:Bool)(w'':World),Ret Tryz.prog 123 [.int .i64 n,.bool b] w'' (fun u w'=>u= .agg #[.int .u8 0,.int .u16 (IntKind.u16.wrap (failF n b)),.int .i64 0,.int .i64 0,nS,.int .i64 (-1),.bool false]∧Pu w'' w'):=fun n b w''=>vlu_c n b w''
 obtain⟨th,stop,trap,cnt,pc,call,ra,rd⟩:=q
 have hra:ra.ok wB:=hq.a
 have hrav:∀c∈ra.xs,c.val:=hqv.av
 have hran:=hqk.n
 have hnra:∀b o n,ra.A=some ⟨b,o,n⟩→¬own M0 b:=fun b o n e=>hqn b o n (.inl e)
 dsimp only at hst ha hqth hran
 subst hst ha
 unfold RqV.v
 dsimp only
 refine enterR Tryz.func113 rfl rfl rfl fun a hs hm=>?_
 clear hm
 have hm:=hm0
 refine gcShu0_ ?_;clear hs hm a;intros;rename_i a hm hs
 obtain⟨g4,rfl⟩:=hs.pp 4
 have hm':=hm.sub (M':=⟨some gr,87,(r.p.cl (r.y.cl (slv r.y.tA r.y.ts.length r.y.tc::r.o.cl (r.o.f.cl [.slice r.o.us.A r.o.us.us.length r.o.us.c,.slice r.k.o.A r.k.o.n r.k.o.c,.slice r.k.qA r.k.qs.length r.k.qc,e,.slice (some ⟨gj,0,none⟩) 4 jc]))))⟩::⟨some gj,3,jv⟩::X) sub_
 exact gRetN tab hs rfl (.cons (.cells rfl rfl rfl rfl (hm.ro (k:=0) (n:=7) (g:=g4) mem_ (cutF_ok rfl))) .nil) ⟨r.o,r.k,js,jv,valR 0 true,rfl,hjs,hI.step hm',valR_st _ _ _ _,valR_fit _ _,hm'⟩
theorem perf8_c [HB](w0:World)(B:Int)(r:RD)(gr gj jc:Nat)(e:Value)(js:List Int)(jv:List Value)(X:List Hp)(q:RqV)(wB:World)(hM:Mm (own (r.hp gr e (.slice (some ⟨gj,0,none⟩) 4 jc)::⟨some gj,3,jv⟩::X)) wB (r.hp gr e (.slice (some ⟨gj,0,none⟩) 4 jc)::⟨some gj,3,jv⟩::X) wB)(hI:RnI w0 B (r.hp gr e (.slice (some ⟨gj,0,none⟩) 4 jc)::⟨some gj,3,jv⟩::X) r wB)(hjs:Row (some gj) 4 jc 1 (ints js) jv)(hq:q.ok wB)(hqn:q.no (r.hp gr e (.slice (some ⟨gj,0,none⟩) 4 jc)::⟨some gj,3,jv⟩::X))(hqv:q.val)(hqk:q.kin)(hst:q.stop=1)(ha:q.call=8):Ret Tryz.prog 113 [pt gr,q.v] wB (fun u w'=>∃(o':OV)(k':KS)(js':List Int)(jv':List Value)(x:RsV),u=x.v∧Row (some gj) 4 jc 1 (ints js') jv'∧RnI w0 B (RD.hp gr {r with o:=o',k:=k'} e (.slice (some ⟨gj,0,none⟩) 4 jc)::⟨some gj,3,jv'⟩::X) {r with o:=o',k:=k'} w'∧St (RD.hp gr {r with o:=o',k:=k'} e (.slice (some ⟨gj,0,none⟩) 4 jc)::⟨some gj,3,jv'⟩::X) x.ok w'∧x.fit∧Mm (own (r.hp gr e (.slice (some ⟨gj,0,none⟩) 4 jc)::⟨some gj,3,jv⟩::X)) wB (RD.hp gr {r with o:=o',k:=k'} e (.slice (some ⟨gj,0,none⟩) 4 jc)::⟨some gj,3,jv'⟩::X) w'):=by
 obtain⟨M0,hM0⟩:∃M0,r.hp gr e (.slice (some ⟨gj,0,none⟩) 4 jc)::⟨some gj,3,jv⟩::X=M0:=⟨_,rfl⟩
 rw[hM0]at hI hM hqn ⊢
 have hm0:Mm (own M0) wB (r.hp gr e (.slice (some ⟨gj,0,none⟩) 4 jc)::⟨some gj,3,jv⟩::X) wB:=by rw[hM0];exact hM
 unfold RD.hp RD.cs at hm0
 have hqth:0≤q.th∧q.th<4:=by have:=hqv.th;omega
 have kvl:∀(n:Int)(b:Bool)(w'':World),Ret Tryz.prog 123 [.int .i64 n,.bool b] w'' (fun u w'=>u= .agg #[.int .u8 0,.int .u16 (IntKind.u16.wrap (failF n b)),.int .i64 0,.int .i64 0,nS,.int .i64 (-1),.bool false]∧Pu w'' w'):=fun n b w''=>vlu_c n b w''
 have klk:∀(w:World)(M':List Hp)(k:Int),Mm (own M0) wB M' w→Ret Tryz.prog 124 [.agg #[.slice r.k.o.A r.k.o.n r.k.o.c,.slice r.k.qA r.k.qs.length r.k.qc],.int .i64 k,.int .i64 q.th] w (fun u w'=>∃(y:KS)(h:Int),u= .tuple #[.agg #[.slice y.o.A y.o.n y.o.c,.slice y.qA y.qs.length y.qc],.int .i64 h]∧LkR y w w'∧Pu w w'):=fun w M' k hm=>rtkA_c r.k k q.th w (hI.k.at_ hm) hI.kv hqth
 obtain⟨th,stop,trap,cnt,pc,call,ra,rd⟩:=q
 have hra:ra.ok wB:=hq.a
 have hrav:∀c∈ra.xs,c.val:=hqv.av
 have hran:=hqk.n
 have hnra:∀b o n,ra.A=some ⟨b,o,n⟩→¬own M0 b:=fun b o n e=>hqn b o n (.inl e)
 dsimp only at hst ha hqth hran
 subst hst ha
 dsimp only at klk
 have hal:0<ra.xs.length:=by rw[hran];decide
 obtain⟨b1,o1,hA,hb1,r1⟩:=Rd.ro hra (by rw[cns_len];omega)
 have hnb1:=hnra b1 o1 none hA
 have r2:=r1.flat CN.cs_len hal
 have hcv:=(hrav _ (List.getElem_mem hal)).v
 generalize ra.xs[0]'hal=c0 at r2 hcv
 unfold CN.cs at r2
 have hwr:IntKind.i64.wrap c0.v=c0.v:=wrap_idP (by omega)
 clear r1
 unfold RqV.v
 dsimp only
 rw[hA]
 refine enterR Tryz.func113 rfl rfl rfl fun a hs hm=>?_
 clear hm
 have hm:=hm0
 refine gsc5af_ ?_;clear hs hm a;intros;rename_i a hm hs
 obtain⟨g3,rfl⟩:=hs.pp 3
 obtain⟨g4,rfl⟩:=hs.pp 4
 refine cMid (fun a w=>∃(z:KS)(h:Int)(g5:Nat),RnI w0 B (⟨some g5,84,[.slice z.o.A z.o.n z.o.c,.slice z.qA z.qs.length z.qc]⟩::⟨some g4,175,[.int .u8 0,.int .u16 0,.int .i64 0,.int .i64 0,nS,.int .i64 0,.bool false]⟩::⟨some gr,87,(r.p.cl (r.y.cl (slv r.y.tA r.y.ts.length r.y.tc::r.o.cl (r.o.f.cl [.slice r.o.us.A r.o.us.us.length r.o.us.c,.slice r.k.o.A r.k.o.n r.k.o.c,.slice r.k.qA r.k.qs.length r.k.qc,e,.slice (some ⟨gj,0,none⟩) 4 jc]))))⟩::⟨some gj,3,jv⟩::X) {r with k:=z} w∧Sl Tryz.f113.ntmps [(0,pt gr),(4,pt g4),(5,pt g5),(6,.int .i64 h)] a∧Mm (own M0) wB (⟨some g5,84,[.slice z.o.A z.o.n z.o.c,.slice z.qA z.qs.length z.qc]⟩::⟨some g4,175,[.int .u8 0,.int .u16 0,.int .i64 0,.int .i64 0,nS,.int .i64 0,.bool false]⟩::⟨some gr,87,(r.p.cl (r.y.cl (slv r.y.tA r.y.ts.length r.y.tc::r.o.cl (r.o.f.cl [.slice r.o.us.A r.o.us.us.length r.o.us.c,.slice r.k.o.A r.k.o.n r.k.o.c,.slice r.k.qA r.k.qs.length r.k.qc,e,.slice (some ⟨gj,0,none⟩) 4 jc]))))⟩::⟨some gj,3,jv⟩::X) w) ?_ ?_
 ·with_reducible repeat(first|apply gThen|apply wp_seq)
  refine cDrawT (n:=19) (.s [0,1,2,3,4,5,6,7,8,9,10,11]<| .e [(12,.x<| .s [13,14,15]<| .o 16<| .o 17<| .t 18<| .d),(16,.o 12<| .x<| .s [13,14,15]<| .o 17<| .t 18<| .d)]) [⟨some g3,173,[.int .i64 th,.int .i64 1,.int .i64 trap,.int .i64 cnt,.int .i64 pc,.int .i64 8,.slice (some ⟨b1,o1,none⟩) ra.xs.length ra.c,.slice rd.A rd.xs.length rd.c]⟩,⟨some gr,87,(r.p.cl (r.y.cl (slv r.y.tA r.y.ts.length r.y.tc::r.o.cl (r.o.f.cl [.slice r.o.us.A r.o.us.us.length r.o.us.c,.slice r.k.o.A r.k.o.n r.k.o.c,.slice r.k.qA r.k.qs.length r.k.qc,e,.slice (some ⟨gj,0,none⟩) 4 jc]))))⟩] hm rfl rfl ?_
  clear hm;intro t_ w1_ hm
  repeat' (first|(refine dgd799_ ?_;clear t_ hs hm a;intros;rename_i a hm hs t_)|refine tE t_ ?_|refine tC ?_ ?_|exact tN|intro t_|(refine oDo (i:=12) hs rfl (Wnt.none rfl) rfl rfl (by exact d_call hs rfl rfl rfl (pl 124 rfl) ((klk _ _ _ hm))) ?_;clear hs;rintro _ w1 ⟨z,h,rfl,hk,hf⟩ a hs;(have hI1:=(hI.step hm).set_k hm hf hk);(replace hm:=hm.pu hf);(clear hf hk);replace t_:=tX t_;refine⟨(hm.sub sub_),?_⟩;(refine hRebase hm ?_);(have hmB:=hm);(replace hm:=hmB.rebase))|(refine tD t_ ?_;(obtain⟨g5,rfl⟩:=hs.pp 5);(exact And.intro rfl ⟨z,h,g5,(hI1.step hm).sub sub_,(sb_ hs),(hmB.trans hm).sub sub_⟩))|fail)
 clear hs hm a
 rintro a w ⟨z,h,g5,hI1,hs,hm⟩
 have hmB:=hm
 replace hm:=hm.rebase
 by_cases h2:h=2
 ·subst h2
  refine gcShu0_ ?_;clear hs hm a;intros;rename_i a hm hs
  have hm':=(hmB.trans hm).sub (M':=⟨some gr,87,(r.p.cl (r.y.cl (slv r.y.tA r.y.ts.length r.y.tc::r.o.cl (r.o.f.cl [.slice r.o.us.A r.o.us.us.length r.o.us.c,.slice z.o.A z.o.n z.o.c,.slice z.qA z.qs.length z.qc,e,.slice (some ⟨gj,0,none⟩) 4 jc]))))⟩::⟨some gj,3,jv⟩::X) sub_
  exact gRetN tab hs rfl (.cons (.cells rfl rfl rfl rfl (hm.ro (k:=0) (n:=7) (g:=g4) mem_ (cutF_ok rfl))) .nil) ⟨r.o,z,js,jv,valR 0 false,rfl,hjs,(hI1.step hm).sub (M1:=⟨some gr,87,(r.p.cl (r.y.cl (slv r.y.tA r.y.ts.length r.y.tc::r.o.cl (r.o.f.cl [.slice r.o.us.A r.o.us.us.length r.o.us.c,.slice z.o.A z.o.n z.o.c,.slice z.qA z.qs.length z.qc,e,.slice (some ⟨gj,0,none⟩) 4 jc]))))⟩::⟨some gj,3,jv⟩::X) sub_,valR_st _ _ _ _,valR_fit _ _,hm'⟩
 by_cases h1:h=1
 ·subst h1
  refine gcShu0_ ?_;clear hs hm a;intros;rename_i a hm hs
  have hm':=(hmB.trans hm).sub (M':=⟨some gr,87,(r.p.cl (r.y.cl (slv r.y.tA r.y.ts.length r.y.tc::r.o.cl (r.o.f.cl [.slice r.o.us.A r.o.us.us.length r.o.us.c,.slice z.o.A z.o.n z.o.c,.slice z.qA z.qs.length z.qc,e,.slice (some ⟨gj,0,none⟩) 4 jc]))))⟩::⟨some gj,3,jv⟩::X) sub_
  exact gRetN tab hs rfl (.cons (.cells rfl rfl rfl rfl (hm.ro (k:=0) (n:=7) (g:=g4) mem_ (cutF_ok rfl))) .nil) ⟨r.o,z,js,jv,{valR 0 true with wait:=true},rfl,hjs,(hI1.step hm).sub (M1:=⟨some gr,87,(r.p.cl (r.y.cl (slv r.y.tA r.y.ts.length r.y.tc::r.o.cl (r.o.f.cl [.slice r.o.us.A r.o.us.us.length r.o.us.c,.slice z.o.A z.o.n z.o.c,.slice z.qA z.qs.length z.qc,e,.slice (some ⟨gj,0,none⟩) 4 jc]))))⟩::⟨some gj,3,jv⟩::X) sub_,fun _ _ _=>valR_ok 0 true _,⟨(valR_fit 0 true).v,(valR_fit 0 true).d,(valR_fit 0 true).dv,(valR_fit 0 true).sp⟩,hm'⟩
 refine gcShu0_ ?_;clear hs hm a;intros;rename_i a hm hs
 have hm':=(hmB.trans hm).sub (M':=⟨some gr,87,(r.p.cl (r.y.cl (slv r.y.tA r.y.ts.length r.y.tc::r.o.cl (r.o.f.cl [.slice r.o.us.A r.o.us.us.length r.o.us.c,.slice z.o.A z.o.n z.o.c,.slice z.qA z.qs.length z.qc,e,.slice (some ⟨gj,0,none⟩) 4 jc]))))⟩::⟨some gj,3,jv⟩::X) sub_
 exact gRetN tab hs rfl (.cons (.cells rfl rfl rfl rfl (hm.ro (k:=0) (n:=7) (g:=g4) mem_ (cutF_ok rfl))) .nil) ⟨r.o,z,js,jv,valR 0 true,rfl,hjs,(hI1.step hm).sub (M1:=⟨some gr,87,(r.p.cl (r.y.cl (slv r.y.tA r.y.ts.length r.y.tc::r.o.cl (r.o.f.cl [.slice r.o.us.A r.o.us.us.length r.o.us.c,.slice z.o.A z.o.n z.o.c,.slice z.qA z.qs.length z.qc,e,.slice (some ⟨gj,0,none⟩) 4 jc]))))⟩::⟨some gj,3,jv⟩::X) sub_,valR_st _ _ _ _,valR_fit _ _,hm'⟩
theorem perf9_c [HB](w0:World)(B:Int)(r:RD)(gr gj jc:Nat)(e:Value)(js:List Int)(jv:List Value)(X:List Hp)(q:RqV)(wB:World)(hM:Mm (own (r.hp gr e (.slice (some ⟨gj,0,none⟩) 4 jc)::⟨some gj,3,jv⟩::X)) wB (r.hp gr e (.slice (some ⟨gj,0,none⟩) 4 jc)::⟨some gj,3,jv⟩::X) wB)(hI:RnI w0 B (r.hp gr e (.slice (some ⟨gj,0,none⟩) 4 jc)::⟨some gj,3,jv⟩::X) r wB)(hjs:Row (some gj) 4 jc 1 (ints js) jv)(hq:q.ok wB)(hqn:q.no (r.hp gr e (.slice (some ⟨gj,0,none⟩) 4 jc)::⟨some gj,3,jv⟩::X))(hqv:q.val)(hqk:q.kin)(hst:q.stop=1)(ha:q.call=9):Ret Tryz.prog 113 [pt gr,q.v] wB (fun u w'=>∃(o':OV)(k':KS)(js':List Int)(jv':List Value)(x:RsV),u=x.v∧Row (some gj) 4 jc 1 (ints js') jv'∧RnI w0 B (RD.hp gr {r with o:=o',k:=k'} e (.slice (some ⟨gj,0,none⟩) 4 jc)::⟨some gj,3,jv'⟩::X) {r with o:=o',k:=k'} w'∧St (RD.hp gr {r with o:=o',k:=k'} e (.slice (some ⟨gj,0,none⟩) 4 jc)::⟨some gj,3,jv'⟩::X) x.ok w'∧x.fit∧Mm (own (r.hp gr e (.slice (some ⟨gj,0,none⟩) 4 jc)::⟨some gj,3,jv⟩::X)) wB (RD.hp gr {r with o:=o',k:=k'} e (.slice (some ⟨gj,0,none⟩) 4 jc)::⟨some gj,3,jv'⟩::X) w'):=by
 obtain⟨M0,hM0⟩:∃M0,r.hp gr e (.slice (some ⟨gj,0,none⟩) 4 jc)::⟨some gj,3,jv⟩::X=M0:=⟨_,rfl⟩
 rw[hM0]at hI hM hqn ⊢
 have hm0:Mm (own M0) wB (r.hp gr e (.slice (some ⟨gj,0,none⟩) 4 jc)::⟨some gj,3,jv⟩::X) wB:=by rw[hM0];exact hM
 unfold RD.hp RD.cs at hm0
 have hqth:0≤q.th∧q.th<4:=by have:=hqv.th;omega
 have kvl:∀(n:Int)(b:Bool)(w'':World),Ret Tryz.prog 123 [.int .i64 n,.bool b] w'' (fun u w'=>u= .agg #[.int .u8 0,.int .u16 (IntKind.u16.wrap (failF n b)),.int .i64 0,.int .i64 0,nS,.int .i64 (-1),.bool false]∧Pu w'' w'):=fun n b w''=>vlu_c n b w''
 have klk:∀(w:World)(M':List Hp)(k:Int),Mm (own M0) wB M' w→Ret Tryz.prog 112 [.agg #[.slice r.k.o.A r.k.o.n r.k.o.c,.slice r.k.qA r.k.qs.length r.k.qc],.int .i64 k,.int .i64 q.th] w (fun u w'=>∃(y:KS)(n:Int)(b:Bool),u= .tuple #[.agg #[.slice y.o.A y.o.n y.o.c,.slice y.qA y.qs.length y.qc],.int .i64 n,.bool b]∧LkR y w w'∧Pu w w'):=fun w M' k hm=>rgvA_c r.k k q.th w (hI.k.at_ hm) hI.kv
 obtain⟨th,stop,trap,cnt,pc,call,ra,rd⟩:=q
 have hra:ra.ok wB:=hq.a
 have hrav:∀c∈ra.xs,c.val:=hqv.av
 have hran:=hqk.n
 have hnra:∀b o n,ra.A=some ⟨b,o,n⟩→¬own M0 b:=fun b o n e=>hqn b o n (.inl e)
 dsimp only at hst ha hqth hran
 subst hst ha
 dsimp only at klk
 have hal:0<ra.xs.length:=by rw[hran];decide
 obtain⟨b1,o1,hA,hb1,r1⟩:=Rd.ro hra (by rw[cns_len];omega)
 have hnb1:=hnra b1 o1 none hA
 have r2:=r1.flat CN.cs_len hal
 have hcv:=(hrav _ (List.getElem_mem hal)).v
 generalize ra.xs[0]'hal=c0 at r2 hcv
 unfold CN.cs at r2
 have hwr:IntKind.i64.wrap c0.v=c0.v:=wrap_idP (by omega)
 clear r1
 unfold RqV.v
 dsimp only
 rw[hA]
 refine enterR Tryz.func113 rfl rfl rfl fun a hs hm=>?_
 clear hm
 have hm:=hm0
 refine gsc5af_ ?_;clear hs hm a;intros;rename_i a hm hs
 obtain⟨g3,rfl⟩:=hs.pp 3
 obtain⟨g4,rfl⟩:=hs.pp 4
 refine cMid (fun a w=>∃(z:KS)(n:Int)(b:Bool)(g5:Nat),RnI w0 B (⟨some g5,84,[.slice z.o.A z.o.n z.o.c,.slice z.qA z.qs.length z.qc]⟩::⟨some g4,175,[.int .u8 0,.int .u16 0,.int .i64 0,.int .i64 0,nS,.int .i64 0,.bool false]⟩::⟨some gr,87,(r.p.cl (r.y.cl (slv r.y.tA r.y.ts.length r.y.tc::r.o.cl (r.o.f.cl [.slice r.o.us.A r.o.us.us.length r.o.us.c,.slice r.k.o.A r.k.o.n r.k.o.c,.slice r.k.qA r.k.qs.length r.k.qc,e,.slice (some ⟨gj,0,none⟩) 4 jc]))))⟩::⟨some gj,3,jv⟩::X) {r with k:=z} w∧Sl Tryz.f113.ntmps [(0,pt gr),(4,pt g4),(8,pt g5),(10,.bool b)] a∧Mm (own M0) wB (⟨some g5,84,[.slice z.o.A z.o.n z.o.c,.slice z.qA z.qs.length z.qc]⟩::⟨some g4,175,[.int .u8 0,.int .u16 0,.int .i64 0,.int .i64 0,nS,.int .i64 0,.bool false]⟩::⟨some gr,87,(r.p.cl (r.y.cl (slv r.y.tA r.y.ts.length r.y.tc::r.o.cl (r.o.f.cl [.slice r.o.us.A r.o.us.us.length r.o.us.c,.slice r.k.o.A r.k.o.n r.k.o.c,.slice r.k.qA r.k.qs.length r.k.qc,e,.slice (some ⟨gj,0,none⟩) 4 jc]))))⟩::⟨some gj,3,jv⟩::X) w) ?_ ?_
 ·with_reducible repeat(first|apply gThen|apply wp_seq)
  refine cDrawT (n:=21) (.s [0,1,2,3,4,5,6,7,8,9,10,11]<| .e [(12,.x<| .s [13,14,15,16]<| .o 17<| .o 18<| .s [19,20]<| .d),(17,.o 12<| .x<| .s [13,14,15,16]<| .o 18<| .s [19,20]<| .d)]) [⟨some g3,173,[.int .i64 th,.int .i64 1,.int .i64 trap,.int .i64 cnt,.int .i64 pc,.int .i64 9,.slice (some ⟨b1,o1,none⟩) ra.xs.length ra.c,.slice rd.A rd.xs.length rd.c]⟩,⟨some gr,87,(r.p.cl (r.y.cl (slv r.y.tA r.y.ts.length r.y.tc::r.o.cl (r.o.f.cl [.slice r.o.us.A r.o.us.us.length r.o.us.c,.slice r.k.o.A r.k.o.n r.k.o.c,.slice r.k.qA r.k.qs.length r.k.qc,e,.slice (some ⟨gj,0,none⟩) 4 jc]))))⟩] hm rfl rfl ?_
  clear hm;intro t_ w1_ hm
  repeat' (first|(refine dgd799_ ?_;clear t_ hs hm a;intros;rename_i a hm hs t_)|refine tE t_ ?_|refine tC ?_ ?_|exact tN|intro t_|(refine oDo (i:=12) hs rfl (Wnt.none rfl) rfl rfl (by exact d_call hs rfl rfl rfl (pl 112 rfl) ((klk _ _ _ hm))) ?_;clear hs;rintro _ w1 ⟨z,n,b,rfl,hk,hf⟩ a hs;(have hI1:=(hI.step hm).set_k hm hf hk);(replace hm:=hm.pu hf);(clear hf hk);replace t_:=tX t_;refine⟨(hm.sub sub_),?_⟩;(refine hRebase hm ?_);(have hmB:=hm);(replace hm:=hmB.rebase))|(refine tD t_ ?_;(obtain⟨g5,rfl⟩:=hs.pp 8);(exact And.intro rfl ⟨z,n,b,g5,(hI1.step hm).sub sub_,(sb_ hs),(hmB.trans hm).sub sub_⟩))|fail)
 clear hs hm a
 rintro a w ⟨z,n,b,g5,hI1,hs,hm⟩
 have hmB:=hm
 replace hm:=hm.rebase
 refine gcShu0_ ?_;clear hs hm a;intros;rename_i a hm hs
 have hm':=(hmB.trans hm).sub (M':=⟨some gr,87,(r.p.cl (r.y.cl (slv r.y.tA r.y.ts.length r.y.tc::r.o.cl (r.o.f.cl [.slice r.o.us.A r.o.us.us.length r.o.us.c,.slice z.o.A z.o.n z.o.c,.slice z.qA z.qs.length z.qc,e,.slice (some ⟨gj,0,none⟩) 4 jc]))))⟩::⟨some gj,3,jv⟩::X) sub_
 exact gRetN tab hs rfl (.cons (.cells rfl rfl rfl rfl (hm.ro (k:=0) (n:=7) (g:=g4) mem_ (cutF_ok rfl))) .nil) ⟨r.o,z,js,jv,valR 0 b,rfl,hjs,(hI1.step hm).sub (M1:=⟨some gr,87,(r.p.cl (r.y.cl (slv r.y.tA r.y.ts.length r.y.tc::r.o.cl (r.o.f.cl [.slice r.o.us.A r.o.us.us.length r.o.us.c,.slice z.o.A z.o.n z.o.c,.slice z.qA z.qs.length z.qc,e,.slice (some ⟨gj,0,none⟩) 4 jc]))))⟩::⟨some gj,3,jv⟩::X) sub_,valR_st _ _ _ _,valR_fit _ _,hm'⟩
theorem perf10_c [HB](w0:World)(B:Int)(r:RD)(gr gj jc:Nat)(e:Value)(js:List Int)(jv:List Value)(X:List Hp)(q:RqV)(wB:World)(hM:Mm (own (r.hp gr e (.slice (some ⟨gj,0,none⟩) 4 jc)::⟨some gj,3,jv⟩::X)) wB (r.hp gr e (.slice (some ⟨gj,0,none⟩) 4 jc)::⟨some gj,3,jv⟩::X) wB)(hI:RnI w0 B (r.hp gr e (.slice (some ⟨gj,0,none⟩) 4 jc)::⟨some gj,3,jv⟩::X) r wB)(hjs:Row (some gj) 4 jc 1 (ints js) jv)(hq:q.ok wB)(hqn:q.no (r.hp gr e (.slice (some ⟨gj,0,none⟩) 4 jc)::⟨some gj,3,jv⟩::X))(hqv:q.val)(hqk:q.kin)(hst:q.stop=1)(ha:q.call=10):Ret Tryz.prog 113 [pt gr,q.v] wB (fun u w'=>∃(o':OV)(k':KS)(js':List Int)(jv':List Value)(x:RsV),u=x.v∧Row (some gj) 4 jc 1 (ints js') jv'∧RnI w0 B (RD.hp gr {r with o:=o',k:=k'} e (.slice (some ⟨gj,0,none⟩) 4 jc)::⟨some gj,3,jv'⟩::X) {r with o:=o',k:=k'} w'∧St (RD.hp gr {r with o:=o',k:=k'} e (.slice (some ⟨gj,0,none⟩) 4 jc)::⟨some gj,3,jv'⟩::X) x.ok w'∧x.fit∧Mm (own (r.hp gr e (.slice (some ⟨gj,0,none⟩) 4 jc)::⟨some gj,3,jv⟩::X)) wB (RD.hp gr {r with o:=o',k:=k'} e (.slice (some ⟨gj,0,none⟩) 4 jc)::⟨some gj,3,jv'⟩::X) w'):=by
 obtain⟨M0,hM0⟩:∃M0,r.hp gr e (.slice (some ⟨gj,0,none⟩) 4 jc)::⟨some gj,3,jv⟩::X=M0:=⟨_,rfl⟩
 rw[hM0]at hI hM hqn ⊢
 have hm0:Mm (own M0) wB (r.hp gr e (.slice (some ⟨gj,0,none⟩) 4 jc)::⟨some gj,3,jv⟩::X) wB:=by rw[hM0];exact hM
 unfold RD.hp RD.cs at hm0
 have hqth:0≤q.th∧q.th<4:=by have:=hqv.th;omega
 have kvl:∀(n:Int)(b:Bool)(w'':World),Ret Tryz.prog 123 [.int .i64 n,.bool b] w'' (fun u w'=>u= .agg #[.int .u8 0,.int .u16 (IntKind.u16.wrap (failF n b)),.int .i64 0,.int .i64 0,nS,.int .i64 (-1),.bool false]∧Pu w'' w'):=fun n b w''=>vlu_c n b w''
 obtain⟨th,stop,trap,cnt,pc,call,ra,rd⟩:=q
 have hra:ra.ok wB:=hq.a
 have hrav:∀c∈ra.xs,c.val:=hqv.av
 have hran:=hqk.n
 have hnra:∀b o n,ra.A=some ⟨b,o,n⟩→¬own M0 b:=fun b o n e=>hqn b o n (.inl e)
 dsimp only at hst ha hqth hran
 subst hst ha
 unfold RqV.v
 dsimp only
 obtain⟨h4,gt,hgt,hngt,hmv⟩:=hI.gt
 refine enterR Tryz.func113 rfl rfl rfl fun a hs hm=>?_
 clear hm
 have hm:=hm0
 refine gsc5af_ ?_;clear hs hm a;intros;rename_i a hm hs
 obtain⟨g4,rfl⟩:=hs.pp 4
 refine cLoop (X:=SpX) (fun Y a w=>Y.k≤r.y.ts.length∧Sl Tryz.f113.ntmps [(0,pt gr),(4,pt g4),(87,slv r.y.tA r.y.ts.length r.y.tc),(88,.int .i64 (r.y.ts.length:Int)),(89,.int .i64 (Y.k:Int))] a∧Mm (own M0) wB (⟨some g4,175,[.int .u8 0,.int .u16 0,.int .i64 0,.int .i64 0,nS,.int .i64 0,.bool false]⟩::⟨some gr,87,(r.p.cl (r.y.cl (slv r.y.tA r.y.ts.length r.y.tc::r.o.cl (r.o.f.cl [.slice r.o.us.A r.o.us.us.length r.o.us.c,.slice r.k.o.A r.k.o.n r.k.o.c,.slice r.k.qA r.k.qs.length r.k.qc,e,.slice (some ⟨gj,0,none⟩) 4 jc]))))⟩::⟨some gj,3,jv⟩::X) w) (fun Y=>r.y.ts.length-Y.k) ⟨0⟩ ⟨Nat.zero_le _,(sb_ hs),hm.sub sub_⟩ ?_
 clear hs hm a
 rintro⟨k⟩ a w ⟨hk,hs,hm⟩
 dsimp only at hk hs hm
 by_cases hlt:k<r.y.ts.length
 ·have r3:=MO.thr hmv hgt hlt
  generalize r.y.ts[k]=qk at r3
  unfold ThO.v at r3
  rw[hgt]at hs
  by_cases hz:qk.d.st=0
  ·rw[hz]at r3
   refine gcShu0_ ?_;clear hs hm a;intros;rename_i a hm hs
   have hm':=hm.sub (M':=⟨some gr,87,(r.p.cl (r.y.cl (slv r.y.tA r.y.ts.length r.y.tc::r.o.cl (r.o.f.cl [.slice r.o.us.A r.o.us.us.length r.o.us.c,.slice r.k.o.A r.k.o.n r.k.o.c,.slice r.k.qA r.k.qs.length r.k.qc,e,.slice (some ⟨gj,0,none⟩) 4 jc]))))⟩::⟨some gj,3,jv⟩::X) sub_
   exact gRetN tab hs rfl (.cons (.cells rfl rfl rfl rfl (hm.ro (k:=0) (n:=7) (g:=g4) mem_ (cutF_ok rfl))) .nil) ⟨r.o,r.k,js,jv,{valR (k:Int) true with spawn:=(k:Int)},rfl,hjs,hI.step hm',fun _ _ _=>valR_ok (k:Int) true _,⟨(valR_fit (k:Int) true).v,(valR_fit (k:Int) true).d,(valR_fit (k:Int) true).dv,by dsimp only;omega⟩,hm'⟩
  ·refine gsc5af_ ?_;clear hs hm a;intros;rename_i a hm hs
   rw[←hgt]at hs
   exact⟨⟨k+1⟩,by dsimp only;omega,⟨by dsimp only;omega,(sb_ hs),hm.sub sub_⟩⟩
 ·obtain rfl:k=r.y.ts.length:=by omega
  refine gcShu0_ ?_;clear hs hm a;intros;rename_i a hm hs
  have hm':=hm.sub (M':=⟨some gr,87,(r.p.cl (r.y.cl (slv r.y.tA r.y.ts.length r.y.tc::r.o.cl (r.o.f.cl [.slice r.o.us.A r.o.us.us.length r.o.us.c,.slice r.k.o.A r.k.o.n r.k.o.c,.slice r.k.qA r.k.qs.length r.k.qc,e,.slice (some ⟨gj,0,none⟩) 4 jc]))))⟩::⟨some gj,3,jv⟩::X) sub_
  exact z78f3_
theorem perf11_c [HB](w0:World)(B:Int)(r:RD)(gr gj jc:Nat)(e:Value)(js:List Int)(jv:List Value)(X:List Hp)(q:RqV)(wB:World)(hM:Mm (own (r.hp gr e (.slice (some ⟨gj,0,none⟩) 4 jc)::⟨some gj,3,jv⟩::X)) wB (r.hp gr e (.slice (some ⟨gj,0,none⟩) 4 jc)::⟨some gj,3,jv⟩::X) wB)(hI:RnI w0 B (r.hp gr e (.slice (some ⟨gj,0,none⟩) 4 jc)::⟨some gj,3,jv⟩::X) r wB)(hjs:Row (some gj) 4 jc 1 (ints js) jv)(hq:q.ok wB)(hqn:q.no (r.hp gr e (.slice (some ⟨gj,0,none⟩) 4 jc)::⟨some gj,3,jv⟩::X))(hqv:q.val)(hqk:q.kin)(hst:q.stop=1)(ha:q.call=11):Ret Tryz.prog 113 [pt gr,q.v] wB (fun u w'=>∃(o':OV)(k':KS)(js':List Int)(jv':List Value)(x:RsV),u=x.v∧Row (some gj) 4 jc 1 (ints js') jv'∧RnI w0 B (RD.hp gr {r with o:=o',k:=k'} e (.slice (some ⟨gj,0,none⟩) 4 jc)::⟨some gj,3,jv'⟩::X) {r with o:=o',k:=k'} w'∧St (RD.hp gr {r with o:=o',k:=k'} e (.slice (some ⟨gj,0,none⟩) 4 jc)::⟨some gj,3,jv'⟩::X) x.ok w'∧x.fit∧Mm (own (r.hp gr e (.slice (some ⟨gj,0,none⟩) 4 jc)::⟨some gj,3,jv⟩::X)) wB (RD.hp gr {r with o:=o',k:=k'} e (.slice (some ⟨gj,0,none⟩) 4 jc)::⟨some gj,3,jv'⟩::X) w'):=by
 obtain⟨M0,hM0⟩:∃M0,r.hp gr e (.slice (some ⟨gj,0,none⟩) 4 jc)::⟨some gj,3,jv⟩::X=M0:=⟨_,rfl⟩
 rw[hM0]at hI hM hqn ⊢
 have hm0:Mm (own M0) wB (r.hp gr e (.slice (some ⟨gj,0,none⟩) 4 jc)::⟨some gj,3,jv⟩::X) wB:=by rw[hM0];exact hM
 unfold RD.hp RD.cs at hm0
 have hqth:0≤q.th∧q.th<4:=by have:=hqv.th;omega
 have kvl:∀(n:Int)(b:Bool)(w'':World),Ret Tryz.prog 123 [.int .i64 n,.bool b] w'' (fun u w'=>u= .agg #[.int .u8 0,.int .u16 (IntKind.u16.wrap (failF n b)),.int .i64 0,.int .i64 0,nS,.int .i64 (-1),.bool false]∧Pu w'' w'):=fun n b w''=>vlu_c n b w''
 obtain⟨th,stop,trap,cnt,pc,call,ra,rd⟩:=q
 have hra:ra.ok wB:=hq.a
 have hrav:∀c∈ra.xs,c.val:=hqv.av
 have hran:=hqk.n
 have hnra:∀b o n,ra.A=some ⟨b,o,n⟩→¬own M0 b:=fun b o n e=>hqn b o n (.inl e)
 dsimp only at hst ha hqth hran
 subst hst ha
 have hal:0<ra.xs.length:=by rw[hran];decide
 obtain⟨b1,o1,hA,hb1,r1⟩:=Rd.ro hra (by rw[cns_len];omega)
 have hnb1:=hnra b1 o1 none hA
 have r2:=r1.flat CN.cs_len hal
 have hcv:=(hrav _ (List.getElem_mem hal)).v
 generalize ra.xs[0]'hal=c0 at r2 hcv
 unfold CN.cs at r2
 have hwr:IntKind.i64.wrap c0.v=c0.v:=wrap_idP (by omega)
 clear r1
 unfold RqV.v
 dsimp only
 rw[hA]
 obtain⟨h4,gt,hgt,hngt,hmv⟩:=hI.gt
 obtain⟨kk,hkk⟩:∃kk:Nat,c0.v=(kk:Int):=⟨c0.v.toNat,by omega⟩
 rw[hkk]at r2 hwr hcv
 obtain⟨tk,rfl⟩:∃tk:Nat,th=(tk:Int):=⟨th.toNat,by omega⟩
 have hjl:=hjs.len
 have hjc:=hjs.le
 by_cases e1:kk=tk
 ·subst e1
  refine enterR Tryz.func113 rfl rfl rfl fun a hs hm=>?_
  clear hm
  have hm:=hm0
  rw[hgt]at hm
  refine gcShu1_ ?_;clear hs hm a;intros;rename_i a hm hs
  try rw[hwr]at hs
  refine gcShu1_ ?_;clear hs hm a;intros;rename_i a hm hs
  obtain⟨g4,rfl⟩:=hs.pp 4
  rw[←hgt]at hm
  have hm':=hm.sub (M':=⟨some gr,87,(r.p.cl (r.y.cl (slv r.y.tA r.y.ts.length r.y.tc::r.o.cl (r.o.f.cl [.slice r.o.us.A r.o.us.us.length r.o.us.c,.slice r.k.o.A r.k.o.n r.k.o.c,.slice r.k.qA r.k.qs.length r.k.qc,e,.slice (some ⟨gj,0,none⟩) 4 jc]))))⟩::⟨some gj,3,jv⟩::X) sub_
  exact z78f3_
 by_cases e2:4≤kk
 ·skip
  refine enterR Tryz.func113 rfl rfl rfl fun a hs hm=>?_
  clear hm
  have hm:=hm0
  rw[hgt]at hm
  refine gcShu1_ ?_;clear hs hm a;intros;rename_i a hm hs
  try rw[hwr]at hs
  refine gcShu1_ ?_;clear hs hm a;intros;rename_i a hm hs
  obtain⟨g4,rfl⟩:=hs.pp 4
  rw[←hgt]at hm
  have hm':=hm.sub (M':=⟨some gr,87,(r.p.cl (r.y.cl (slv r.y.tA r.y.ts.length r.y.tc::r.o.cl (r.o.f.cl [.slice r.o.us.A r.o.us.us.length r.o.us.c,.slice r.k.o.A r.k.o.n r.k.o.c,.slice r.k.qA r.k.qs.length r.k.qc,e,.slice (some ⟨gj,0,none⟩) 4 jc]))))⟩::⟨some gj,3,jv⟩::X) sub_
  exact z78f3_
 have hlt:kk<r.y.ts.length:=by omega
 have r3:=MO.thr hmv hgt hlt
 generalize r.y.ts[kk]=qk at r3
 unfold ThO.v at r3
 by_cases e3:qk.d.st=0
 ·rw[e3]at r3
  refine enterR Tryz.func113 rfl rfl rfl fun a hs hm=>?_
  clear hm
  have hm:=hm0
  rw[hgt]at hm
  refine gcShu1_ ?_;clear hs hm a;intros;rename_i a hm hs
  try rw[hwr]at hs
  refine gcShu1_ ?_;clear hs hm a;intros;rename_i a hm hs
  obtain⟨g4,rfl⟩:=hs.pp 4
  rw[←hgt]at hm
  have hm':=hm.sub (M':=⟨some gr,87,(r.p.cl (r.y.cl (slv r.y.tA r.y.ts.length r.y.tc::r.o.cl (r.o.f.cl [.slice r.o.us.A r.o.us.us.length r.o.us.c,.slice r.k.o.A r.k.o.n r.k.o.c,.slice r.k.qA r.k.qs.length r.k.qc,e,.slice (some ⟨gj,0,none⟩) 4 jc]))))⟩::⟨some gj,3,jv⟩::X) sub_
  exact z78f3_
 by_cases e4:qk.d.st=4
 ·rw[e4]at r3
  refine enterR Tryz.func113 rfl rfl rfl fun a hs hm=>?_
  clear hm
  have hm:=hm0
  rw[hgt]at hm
  refine gcShu1_ ?_;clear hs hm a;intros;rename_i a hm hs
  try rw[hwr]at hs
  refine gcShu1_ ?_;clear hs hm a;intros;rename_i a hm hs
  obtain⟨g4,rfl⟩:=hs.pp 4
  rw[←hgt]at hm
  have hm':=hm.sub (M':=⟨some gr,87,(r.p.cl (r.y.cl (slv r.y.tA r.y.ts.length r.y.tc::r.o.cl (r.o.f.cl [.slice r.o.us.A r.o.us.us.length r.o.us.c,.slice r.k.o.A r.k.o.n r.k.o.c,.slice r.k.qA r.k.qs.length r.k.qc,e,.slice (some ⟨gj,0,none⟩) 4 jc]))))⟩::⟨some gj,3,jv⟩::X) sub_
  exact gRetN tab hs rfl (.cons (.cells rfl rfl rfl rfl (hm.ro (k:=0) (n:=7) (g:=g4) mem_ (cutF_ok rfl))) .nil) ⟨r.o,r.k,js,jv,valR (IntKind.i64.wrap qk.d.cod) true,rfl,hjs,hI.step hm',valR_st _ _ _ _,valR_fit _ _,hm'⟩
 refine enterR Tryz.func113 rfl rfl rfl fun a hs hm=>?_
 clear hm
 have hm:=hm0
 rw[hgt]at hm
 refine gq20dc_ ?_;clear hs hm a;intros;rename_i a hm hs
 try rw[hwr]at hs
 refine gq20dc_ ?_;clear hs hm a;intros;rename_i a hm hs
 obtain⟨g3,rfl⟩:=hs.pp 3
 obtain⟨g4,rfl⟩:=hs.pp 4
 refine cMid (fun a w=>Sl Tryz.f113.ntmps [(0,pt gr),(4,pt g4)] a∧Mm (own M0) wB (⟨some g4,175,[.int .u8 0,.int .u16 0,.int .i64 0,.int .i64 0,nS,.int .i64 0,.bool false]⟩::⟨some gr,87,(r.p.cl (r.y.cl (slv (some gt) r.y.ts.length r.y.tc::r.o.cl (r.o.f.cl [.slice r.o.us.A r.o.us.us.length r.o.us.c,.slice r.k.o.A r.k.o.n r.k.o.c,.slice r.k.qA r.k.qs.length r.k.qc,e,.slice (some ⟨gj,0,none⟩) 4 jc]))))⟩::⟨some gj,3,(jv.set tk (.int .i64 (kk:Int)))⟩::X) w) ?_ ?_
 ·with_reducible repeat(first|apply gThen|apply wp_seq)
  refine cDrawT (n:=9) (.s [0,1,2,3,4,5,6,7]<| .o 8<| .d) [⟨some g3,173,[.int .i64 (tk:Int),.int .i64 1,.int .i64 trap,.int .i64 cnt,.int .i64 pc,.int .i64 11,.slice (some ⟨b1,o1,none⟩) ra.xs.length ra.c,.slice rd.A rd.xs.length rd.c]⟩,⟨some gr,87,(r.p.cl (r.y.cl (slv (some gt) r.y.ts.length r.y.tc::r.o.cl (r.o.f.cl [.slice r.o.us.A r.o.us.us.length r.o.us.c,.slice r.k.o.A r.k.o.n r.k.o.c,.slice r.k.qA r.k.qs.length r.k.qc,e,.slice (some ⟨gj,0,none⟩) 4 jc]))))⟩] hm rfl rfl ?_
  clear hm;intro t_ w1_ hm
  repeat' (first|(refine dgd799_ ?_;clear t_ hs hm a;intros;rename_i a hm hs t_)|refine tE t_ ?_|refine tC ?_ ?_|exact tN|intro t_|(refine tD t_ ?_;(exact And.intro rfl ⟨(sb_ hs),hm.sub sub_⟩))|fail)
 clear hs hm a
 rintro a w ⟨hs,hm⟩
 rw[←hgt]at hm
 refine gcShu0_ ?_;clear hs hm a;intros;rename_i a hm hs
 have hm':=hm.sub (M':=⟨some gr,87,(r.p.cl (r.y.cl (slv r.y.tA r.y.ts.length r.y.tc::r.o.cl (r.o.f.cl [.slice r.o.us.A r.o.us.us.length r.o.us.c,.slice r.k.o.A r.k.o.n r.k.o.c,.slice r.k.qA r.k.qs.length r.k.qc,e,.slice (some ⟨gj,0,none⟩) 4 jc]))))⟩::⟨some gj,3,(jv.set tk (.int .i64 (kk:Int)))⟩::X) sub_
 exact gRetN tab hs rfl (.cons (.cells rfl rfl rfl rfl (hm.ro (k:=0) (n:=7) (g:=g4) mem_ (cutF_ok rfl))) .nil) ⟨r.o,r.k,js.set tk (kk:Int),jv.set tk (.int .i64 (kk:Int)),{valR 0 true with wait:=true},rfl,by rw[show ints (js.set tk (kk:Int))=(ints js).set tk (.int .i64 (kk:Int))from List.map_set];exact hjs.set _ _,hI.step hm',fun _ _ _=>valR_ok 0 true _,⟨(valR_fit 0 true).v,(valR_fit 0 true).d,(valR_fit 0 true).dv,(valR_fit 0 true).sp⟩,hm'⟩
theorem perfDo_c [HB](w0:World)(B:Int)(r:RD)(gr gj jc:Nat)(e:Value)(js:List Int)(jv:List Value)(X:List Hp)(q:RqV)(wB:World)(hM:Mm (own (r.hp gr e (.slice (some ⟨gj,0,none⟩) 4 jc)::⟨some gj,3,jv⟩::X)) wB (r.hp gr e (.slice (some ⟨gj,0,none⟩) 4 jc)::⟨some gj,3,jv⟩::X) wB)(hI:RnI w0 B (r.hp gr e (.slice (some ⟨gj,0,none⟩) 4 jc)::⟨some gj,3,jv⟩::X) r wB)(hjs:Row (some gj) 4 jc 1 (ints js) jv)(hq:q.ok wB)(hqn:q.no (r.hp gr e (.slice (some ⟨gj,0,none⟩) 4 jc)::⟨some gj,3,jv⟩::X))(hqv:q.val)(hqk:q.kin)(hst:q.stop=1)(ha:actsF q.call):Ret Tryz.prog 113 [pt gr,q.v] wB (fun u w'=>∃(o':OV)(k':KS)(js':List Int)(jv':List Value)(x:RsV),u=x.v∧Row (some gj) 4 jc 1 (ints js') jv'∧RnI w0 B (RD.hp gr {r with o:=o',k:=k'} e (.slice (some ⟨gj,0,none⟩) 4 jc)::⟨some gj,3,jv'⟩::X) {r with o:=o',k:=k'} w'∧St (RD.hp gr {r with o:=o',k:=k'} e (.slice (some ⟨gj,0,none⟩) 4 jc)::⟨some gj,3,jv'⟩::X) x.ok w'∧x.fit∧Mm (own (r.hp gr e (.slice (some ⟨gj,0,none⟩) 4 jc)::⟨some gj,3,jv⟩::X)) wB (RD.hp gr {r with o:=o',k:=k'} e (.slice (some ⟨gj,0,none⟩) 4 jc)::⟨some gj,3,jv'⟩::X) w'):=by
 obtain⟨M0,hM0⟩:∃M0,r.hp gr e (.slice (some ⟨gj,0,none⟩) 4 jc)::⟨some gj,3,jv⟩::X=M0:=⟨_,rfl⟩
 rw[hM0]at hI hM hqn ⊢
 have hm0:Mm (own M0) wB (r.hp gr e (.slice (some ⟨gj,0,none⟩) 4 jc)::⟨some gj,3,jv⟩::X) wB:=by rw[hM0];exact hM
 unfold RD.hp RD.cs at hm0
 have hqth:0≤q.th∧q.th<4:=by have:=hqv.th;omega
 have kvl:∀(n:Int)(b:Bool)(w'':World),Ret Tryz.prog 123 [.int .i64 n,.bool b] w'' (fun u w'=>u= .agg #[.int .u8 0,.int .u16 (IntKind.u16.wrap (failF n b)),.int .i64 0,.int .i64 0,nS,.int .i64 (-1),.bool false]∧Pu w'' w'):=fun n b w''=>vlu_c n b w''
 have kdo:=fun w (M':List Hp) (hm:Mm (own M0) wB M' w)=>do_c r.o q w (hI.o.at_ hm) hI.ov (hq.own hqn hm) hqv hqk hst ha
 have hac:q.call=1∨q.call=2∨q.call=3∨q.call=4∨q.call=5∨q.call=6∨q.call=7∨q.call=13∨q.call=14:=by unfold actsF at ha;omega
 obtain⟨th,stop,trap,cnt,pc,call,ra,rd⟩:=q
 have hra:ra.ok wB:=hq.a
 have hrav:∀c∈ra.xs,c.val:=hqv.av
 have hran:=hqk.n
 have hnra:∀b o n,ra.A=some ⟨b,o,n⟩→¬own M0 b:=fun b o n e=>hqn b o n (.inl e)
 dsimp only at hst ha hqth hran
 subst hst
 unfold RqV.v at kdo ⊢
 unfold OV.v RsV.v at kdo
 dsimp only at kdo ⊢
 dsimp only at hac
 have c0:call≠0:=by omega
 have c8:call≠8:=by omega
 have c9:call≠9:=by omega
 have c10:call≠10:=by omega
 have c11:call≠11:=by omega
 have c12:call≠12:=by omega
 have c15:call≠15:=by omega
 clear hac
 refine enterR Tryz.func113 rfl rfl rfl fun a hs hm=>?_
 clear hm
 have hm:=hm0
 refine gsc5af_ ?_;clear hs hm a;intros;rename_i a hm hs
 obtain⟨g3,rfl⟩:=hs.pp 3
 obtain⟨g4,rfl⟩:=hs.pp 4
 refine cMid (fun a w=>∃(y:OV)(z:RsV)(R:List Hp)(g17 g18:Nat),On R y.ok∧On R z.ok∧y.val∧z.fit∧Sl Tryz.f113.ntmps [(0,pt gr),(4,pt g4),(17,pt g17),(18,pt g18)] a∧Mm (own M0) wB (⟨some g18,175,[.int .u8 z.val.t,.int .u16 z.val.v,.int .i64 z.val.r,.int .i64 z.val.o,.slice z.d.A z.d.xs.length z.d.c,.int .i64 z.spawn,.bool z.wait]⟩::⟨some g17,81,(y.cl (y.f.cl [.slice y.us.A y.us.us.length y.us.c]))⟩::⟨some g4,175,[.int .u8 0,.int .u16 0,.int .i64 0,.int .i64 0,nS,.int .i64 0,.bool false]⟩::⟨some gr,87,(r.p.cl (r.y.cl (slv r.y.tA r.y.ts.length r.y.tc::r.o.cl (r.o.f.cl [.slice r.o.us.A r.o.us.us.length r.o.us.c,.slice r.k.o.A r.k.o.n r.k.o.c,.slice r.k.qA r.k.qs.length r.k.qc,e,.slice (some ⟨gj,0,none⟩) 4 jc]))))⟩::⟨some gj,3,jv⟩::(X++R)) w) ?_ ?_
 ·with_reducible repeat(first|apply gThen|apply wp_seq)
  refine cDrawT (n:=15) (.s [0,1,2,3,4]<| .e [(5,.x<| .s [6,7,8,9]<| .e [(10,.o 11<| .o 12<| .o 13<| .t 14<| .d),(11,.o 10<| .o 12<| .o 13<| .t 14<| .d)]),(10,.e [(5,.x<| .s [6,7,8,9]<| .o 11<| .o 12<| .o 13<| .t 14<| .d),(11,.o 5<| .x<| .s [6,7,8,9]<| .o 12<| .o 13<| .t 14<| .d)]),(11,.e [(5,.x<| .s [6,7,8,9]<| .o 10<| .o 12<| .o 13<| .t 14<| .d),(10,.o 5<| .x<| .s [6,7,8,9]<| .o 12<| .o 13<| .t 14<| .d)])]) [⟨some g3,173,[.int .i64 th,.int .i64 1,.int .i64 trap,.int .i64 cnt,.int .i64 pc,.int .i64 call,.slice ra.A ra.xs.length ra.c,.slice rd.A rd.xs.length rd.c]⟩,⟨some gr,87,(r.p.cl (r.y.cl (slv r.y.tA r.y.ts.length r.y.tc::r.o.cl (r.o.f.cl [.slice r.o.us.A r.o.us.us.length r.o.us.c,.slice r.k.o.A r.k.o.n r.k.o.c,.slice r.k.qA r.k.qs.length r.k.qc,e,.slice (some ⟨gj,0,none⟩) 4 jc]))))⟩] hm rfl rfl ?_
  clear hm;intro t_ w1_ hm
  repeat' (first|(refine dgd799_ ?_;clear t_ hs hm a;intros;rename_i a hm hs t_)|refine tE t_ ?_|refine tC ?_ ?_|exact tN|intro t_|(refine oDo (i:=5) hs rfl (Wnt.none rfl) rfl rfl (by exact d_call hs rfl rfl rfl (pl 125 rfl) ((kdo _ _ hm))) ?_;clear hs;rintro _ w1 ⟨y,z,R,rfl,hyo,hzo,hN,hyv,hzf,hsp,hwt,hf⟩ a hs;(replace hm:=gainE hm hf hN);(clear hf hN);(simp only[List.cons_append,List.nil_append]at hm);replace t_:=tX t_;refine⟨(hm.sub sub_),?_⟩)|(refine tD t_ ?_;(obtain⟨g17,rfl⟩:=hs.pp 17);(obtain⟨g18,rfl⟩:=hs.pp 18);(refine And.intro rfl ⟨y,z,R,g17,g18,hyo,hzo,hyv,hzf,(sb_ hs),?_⟩);(first|(apply Mm.sub hm;(repeat(first|exact List.Sublist.refl _|exact List.nil_sublist _|apply List.Sublist.cons_cons|apply List.Sublist.cons));done)|(apply Mm.sub (hm.perm (List.Perm.swap _ _ _));(repeat(first|exact List.Sublist.refl _|exact List.nil_sublist _|apply List.Sublist.cons_cons|apply List.Sublist.cons));done)))|fail)
 clear hs hm a
 rintro a w ⟨y,z,R,g17,g18,hyo,hzo,hyv,hzf,hs,hm⟩
 refine gsc5af_ ?_;clear hs hm a;intros;rename_i a hm hs
 have hmX:=hm.sub (M':=⟨some gr,87,(r.p.cl (r.y.cl (slv r.y.tA r.y.ts.length r.y.tc::y.cl (y.f.cl [.slice y.us.A y.us.us.length y.us.c,.slice r.k.o.A r.k.o.n r.k.o.c,.slice r.k.qA r.k.qs.length r.k.qc,e,.slice (some ⟨gj,0,none⟩) 4 jc]))))⟩::⟨some gj,3,jv⟩::(X++R)) sub_
 exact gRetN tab hs rfl (.cons (.cells rfl rfl rfl rfl (hm.ro (k:=0) (n:=7) (g:=g4) mem_ (cutF_ok rfl))) .nil) ⟨y,r.k,js,jv,z,rfl,hjs,hI.set_o2 (M:=⟨some gr,87,(r.p.cl (r.y.cl (slv r.y.tA r.y.ts.length r.y.tc::y.cl (y.f.cl [.slice y.us.A y.us.us.length y.us.c,.slice r.k.o.A r.k.o.n r.k.o.c,.slice r.k.qA r.k.qs.length r.k.qc,e,.slice (some ⟨gj,0,none⟩) 4 jc]))))⟩::⟨some gj,3,jv⟩::X) hmX hyo hyv,St.of_on (M:=⟨some gr,87,(r.p.cl (r.y.cl (slv r.y.tA r.y.ts.length r.y.tc::y.cl (y.f.cl [.slice y.us.A y.us.us.length y.us.c,.slice r.k.o.A r.k.o.n r.k.o.c,.slice r.k.qA r.k.qs.length r.k.qc,e,.slice (some ⟨gj,0,none⟩) 4 jc]))))⟩::⟨some gj,3,jv⟩::X) hmX hzo,hzf,hmX.sub (List.Sublist.cons_cons _ (List.Sublist.cons_cons _ (List.sublist_append_left _ _)))⟩
theorem perform_c [HB](w0:World)(B:Int)(r:RD)(gr gj jc:Nat)(e:Value)(js:List Int)(jv:List Value)(X:List Hp)(q:RqV)(wB:World)(hM:Mm (own (r.hp gr e (.slice (some ⟨gj,0,none⟩) 4 jc)::⟨some gj,3,jv⟩::X)) wB (r.hp gr e (.slice (some ⟨gj,0,none⟩) 4 jc)::⟨some gj,3,jv⟩::X) wB)(hI:RnI w0 B (r.hp gr e (.slice (some ⟨gj,0,none⟩) 4 jc)::⟨some gj,3,jv⟩::X) r wB)(hjs:Row (some gj) 4 jc 1 (ints js) jv)(hq:q.ok wB)(hqn:q.no (r.hp gr e (.slice (some ⟨gj,0,none⟩) 4 jc)::⟨some gj,3,jv⟩::X))(hqv:q.val)(hqk:q.kin)(hst:q.stop=1):Ret Tryz.prog 113 [pt gr,q.v] wB (fun u w'=>∃(o':OV)(k':KS)(js':List Int)(jv':List Value)(x:RsV),u=x.v∧Row (some gj) 4 jc 1 (ints js') jv'∧RnI w0 B (RD.hp gr {r with o:=o',k:=k'} e (.slice (some ⟨gj,0,none⟩) 4 jc)::⟨some gj,3,jv'⟩::X) {r with o:=o',k:=k'} w'∧St (RD.hp gr {r with o:=o',k:=k'} e (.slice (some ⟨gj,0,none⟩) 4 jc)::⟨some gj,3,jv'⟩::X) x.ok w'∧x.fit∧Mm (own (r.hp gr e (.slice (some ⟨gj,0,none⟩) 4 jc)::⟨some gj,3,jv⟩::X)) wB (RD.hp gr {r with o:=o',k:=k'} e (.slice (some ⟨gj,0,none⟩) 4 jc)::⟨some gj,3,jv'⟩::X) w'):=by
 have hcl:=hqv.call
 by_cases ha:actsF q.call
 ·exact perfDo_c w0 B r gr gj jc e js jv X q wB hM hI hjs hq hqn hqv hqk hst ha
 have hc:q.call=0∨q.call=12∨q.call=15∨q.call=8∨q.call=9∨q.call=10∨q.call=11:=by unfold actsF at ha;omega
 rcases hc with e1|e1|e1|e1|e1|e1|e1
 ·exact perf0_c w0 B r gr gj jc e js jv X q wB hM hI hjs hq hqn hqv hqk hst e1
 ·exact perf12_c w0 B r gr gj jc e js jv X q wB hM hI hjs hq hqn hqv hqk hst e1
 ·exact perf15_c w0 B r gr gj jc e js jv X q wB hM hI hjs hq hqn hqv hqk hst e1
 ·exact perf8_c w0 B r gr gj jc e js jv X q wB hM hI hjs hq hqn hqv hqk hst e1
 ·exact perf9_c w0 B r gr gj jc e js jv X q wB hM hI hjs hq hqn hqv hqk hst e1
 ·exact perf10_c w0 B r gr gj jc e js jv X q wB hM hI hjs hq hqn hqv hqk hst e1
 ·exact perf11_c w0 B r gr gj jc e js jv X q wB hM hI hjs hq hqn hqv hqk hst e1
theorem dgShv0_{G H:Prop}(k:H)(s:Bx H→G:=by intro k_;(repeat(first|(refine tTake t_ hs rfl (by kernel_rfl) gw_ rfl rfl (by intro w hm;replace hm:Mm _ _ _ w:=hm;(first|exact kvR_|exact kb2_|exact r_loadO hs rfl rfl tab rfl rfl rfl hm (by repeat(first|exact mH|apply mT)) (by assumption)|exact r_loadO hs rfl rfl tab rfl rfl rfl hm (by repeat(first|exact mH|apply mT)) (by assumption))) (hm.sub sub_) ?_;(try clear t_ hs a);intro t_ a hs)|(refine tTakeN t_ hs rfl (by kernel_rfl) rfl rfl rfl rfl rfl rfl rfl (hm.sub sub_) ?_;(try clear t_ hs a);intro t_ a hs)|(refine tTakeU t_ hs rfl (by kernel_rfl) rfl rfl rfl rfl rfl rfl (hm.sub sub_) ?_;(try clear t_ hs a);intro t_ a hs)|(refine tE1 t_ ?_;(try clear t_);intro t_)|(refine nx_ t_ rfl ?_;have t_:=t_;first|(refine oDo hs rfl gw_ rfl rfl da_ ?_;(try clear hs hm a);rintro _ w_ ⟨g_,rfl,-,hm⟩ a hs;refine⟨(hm.sub sub_),?_⟩)|(refine oDoN hs rfl gw_ rfl ds_ ?_;(try clear hs hm a);rintro-w_ hm a hs;refine⟨(hm.sub sub_),?_⟩)|(refine oDoV hs rfl gw_ rfl rfl (by(first|exact klR_|exact r_loadO hs rfl rfl tab rfl rfl rfl hm (by repeat(first|exact mH|apply mT)) (by assumption)|exact r_loadO hs rfl rfl tab rfl rfl rfl hm (by repeat(first|exact mH|apply mT)) (by assumption))) ?_;(try clear hs a);intro a hs;refine⟨(hm.sub sub_),?_⟩))));have y_:=t_;clear t_;(first|(have m_:=hm;have s_:=hs;have z_:=y_;clear hs;(try clear hm);revert m_ s_ z_ a)|((first|refine rexd_ hs hm ?_|refine rexb_ hs hm ?_);intro a hm hs;have z_:=y_;revert hm hs z_ a));(try revert w_);(repeat revert g_);exact k_.h):G:=s ⟨k⟩
theorem dgShv1_{G H:Prop}(k:H)(s:Bx H→G:=by intro k_;(repeat(first|(refine tTakeB false t_ hs rfl (by kernel_rfl) (by kernel_rfl) gw_ rfl rfl (by intro w _;(first|exact kvR_|exact kb2_|exact r_loadO hs rfl rfl tab rfl rfl rfl hm (by repeat(first|exact mH|apply mT)) (by assumption)|exact r_loadO hs rfl rfl tab rfl rfl rfl hm (by repeat(first|exact mH|apply mT)) (by assumption))) bu_ ?_;(try clear t_ hs a);intro t_ a hs)|(refine tTakeB true t_ hs rfl (by kernel_rfl) (by kernel_rfl) gw_ rfl rfl (by intro w hm;replace hm:Mm _ _ _ w:=hm rfl;(first|exact klR_|exact r_loadO hs rfl rfl tab rfl rfl rfl hm (by repeat(first|exact mH|apply mT)) (by assumption)|exact r_loadO hs rfl rfl tab rfl rfl rfl hm (by repeat(first|exact mH|apply mT)) (by assumption))) bu_ ?_;(try clear t_ hs a);intro t_ a hs)|(refine tE1B t_ ?_;(try clear t_);intro t_)|(refine nx_ t_ rfl ?_;have t_:=t_;first|(refine oDoB hs rfl gw_ rfl rfl da_ ?_;(try clear hs hm a);rintro _ w_ ⟨g_,rfl,-,hm⟩ a hs;refine⟨bu_,?_⟩)|(refine oDoNB hs rfl gw_ rfl ds_ ?_;(try clear hs hm a);rintro-w_ hm a hs;refine⟨bu_,?_⟩)|(refine oDoVB hs rfl gw_ rfl rfl (by(first|exact klR_|exact r_loadO hs rfl rfl tab rfl rfl rfl hm (by repeat(first|exact mH|apply mT)) (by assumption)|exact r_loadO hs rfl rfl tab rfl rfl rfl hm (by repeat(first|exact mH|apply mT)) (by assumption))) ?_;(try clear hs a);intro a hs;refine⟨bu_,?_⟩))));have y_:=t_;clear t_;(first|(have m_:=hm;have s_:=hs;have z_:=y_;clear hs;(try clear hm);revert m_ s_ z_ a)|((first|refine rexd_ hs hm ?_|refine rexb_ hs hm ?_);intro a hm hs;have z_:=y_;revert hm hs z_ a));(try revert w_);(repeat revert g_);exact k_.h):G:=s ⟨k⟩
theorem own_pm{A B:List Hp}(h:A.Perm B):own A=own B:=funext fun g=>propext ⟨fun⟨x,hx,e⟩=>⟨x,h.mem_iff.1 hx,e⟩,fun⟨x,hx,e⟩=>⟨x,h.mem_iff.2 hx,e⟩⟩
theorem RnI.pm [HB]{w0 w:World}{B:Int}{M M1:List Hp}{r:RD}(h:RnI w0 B M r w)(hp:M.Perm M1):RnI w0 B M1 r w:=h.mono fun g hg=>by rw[own_pm hp];exact hg
def RqV.bd(q:RqV)(w:World):Prop:=∀b o n,q.a.A=some ⟨b,o,n⟩∨q.d.A=some ⟨b,o,n⟩→b<w.heap.size
theorem RqV.no.step{q:RqV}{M M':List Hp}{w w':World}(h:q.no M)(hb:q.bd w)(hm:Mm (own M) w M' w'):q.no M':=fun b o n e hg=>by
 rcases hm.own_ hg with h1|h1
 ·have:=hb b o n e;omega
 ·exact h b o n e h1
structure RS where
 r:RD
 js:List Int
 jv:List Value
 rA:Option Nat
 n:Nat
 rc:Nat
 es:List Value
 rcs:List Value
def RS.M(z:RS)(gr gj jc:Nat)(X:List Hp):List Hp:=z.r.hp gr (slv z.rA z.n z.rc) (.slice (some ⟨gj,0,none⟩) 4 jc)::⟨some gj,3,z.jv⟩::⟨z.rA,177,z.rcs⟩::X
structure RS.inv [HB](z:RS)(w0:World)(B:Int)(gr gj jc:Nat)(X:List Hp)(w:World):Prop where
 j:Row (some gj) 4 jc 1 (ints z.js) z.jv
 i:RnI w0 B (z.M gr gj jc X) z.r w
 row:Row z.rA z.n z.rc 18 z.es z.rcs
 one:z.es.all (·.oneCell')=true
theorem wakeS_c [HB](w0:World)(B:Int)(z:RS)(gr gj jc:Nat)(X:List Hp)(t c:Int)(wB:World)(hM:Mm (own (z.M gr gj jc X)) wB (z.M gr gj jc X) wB)(hI:z.inv w0 B gr gj jc X wB)(hB:B≤1000000000)(hn:z.n≤1000):Ret Tryz.prog 115 [pt gr,.int .i64 t,.int .u16 c] wB (fun _ w'=>∃y:RS,y.inv w0 B gr gj jc X w'∧Mm (own (z.M gr gj jc X)) wB (y.M gr gj jc X) w'∧y.n=z.n+1∧y.js=z.js∧y.jv=z.jv∧y.r.p=z.r.p):=by
 obtain⟨r,js,jv,rA,n,rc,es,rcs⟩:=z
 obtain⟨hj,hi,hrow,h1c⟩:=hI
 unfold RS.M at*
 dsimp only at*
 have hp:∀(a b c:Hp),(a::b::c::X).Perm (a::c::b::X):=fun a b c=>List.Perm.cons a (List.Perm.swap c b X)
 rw[own_pm (hp _ _ _)]at hM ⊢
 refine(wake_c w0 B r gr rA n rc es rcs (.slice (some ⟨gj,0,none⟩) 4 jc) (⟨some gj,3,jv⟩::X) t c wB (hM.perm (hp _ _ _)) (hi.pm (hp _ _ _)) hB hrow hn).mono fun u w' h=>?_
 obtain⟨y,rA',rc',es',rcs',h1,h2,h2b,h3⟩:=h
 exact⟨⟨{r with y:=y},js,jv,rA',n+1,rc',es',rcs'⟩,⟨hj,h1.pm (hp _ _ _),h2,h2b h1c⟩,h3.perm (hp _ _ _),rfl,rfl,rfl,rfl⟩
theorem calledN_c [HB](w0:World)(B:Int)(z:RS)(gr gj jc:Nat)(X:List Hp)(q:RqV)(wB:World)(hM:Mm (own (z.M gr gj jc X)) wB (z.M gr gj jc X) wB)(hI:z.inv w0 B gr gj jc X wB)(hB:B≤1000000000)(hn:z.n≤900)(hq:q.ok wB)(hqn:q.no (z.M gr gj jc X))(hqb:q.bd wB)(hqv:q.val)(hqk:q.kin)(hst:q.stop=1)(ha:q.call≠9):Ret Tryz.prog 92 [pt gr,q.v] wB (fun _ w'=>∃y:RS,y.inv w0 B gr gj jc X w'∧Mm (own (z.M gr gj jc X)) wB (y.M gr gj jc X) w'∧y.n≤z.n+2∧y.r.p=z.r.p):=by
 obtain⟨r,js,jv,rA,n,rc,es,rcs⟩:=z
 obtain⟨hj,hi,hrow,h1c⟩:=hI
 unfold RS.M at*
 dsimp only at*
 have hm0:=hM
 obtain⟨M0,hM0⟩:∃M0,r.hp gr (slv rA n rc) (.slice (some ⟨gj,0,none⟩) 4 jc)::⟨some gj,3,jv⟩::⟨rA,177,rcs⟩::X=M0:=⟨_,rfl⟩
 rw[hM0]at hi hM hqn ⊢
 replace hm0:Mm (own M0) wB (r.hp gr (slv rA n rc) (.slice (some ⟨gj,0,none⟩) 4 jc)::⟨some gj,3,jv⟩::⟨rA,177,rcs⟩::X) wB:=by rw[hM0];exact hM
 unfold RD.hp RD.cs at hm0
 have kpf:∀(w:World)(P:Hp),Mm (own M0) wB (P::r.hp gr (slv rA n rc) (.slice (some ⟨gj,0,none⟩) 4 jc)::⟨some gj,3,jv⟩::⟨rA,177,rcs⟩::X) w→Ret Tryz.prog 113 [pt gr,q.v] w (fun u w'=>∃(o':OV)(k':KS)(js':List Int)(jv':List Value)(x:RsV),u=x.v∧Row (some gj) 4 jc 1 (ints js') jv'∧RnI w0 B (RD.hp gr {r with o:=o',k:=k'} (slv rA n rc) (.slice (some ⟨gj,0,none⟩) 4 jc)::⟨some gj,3,jv'⟩::⟨rA,177,rcs⟩::P::X) {r with o:=o',k:=k'} w'∧St (RD.hp gr {r with o:=o',k:=k'} (slv rA n rc) (.slice (some ⟨gj,0,none⟩) 4 jc)::⟨some gj,3,jv'⟩::⟨rA,177,rcs⟩::P::X) x.ok w'∧x.fit∧Mm (own M0) wB (RD.hp gr {r with o:=o',k:=k'} (slv rA n rc) (.slice (some ⟨gj,0,none⟩) 4 jc)::⟨some gj,3,jv'⟩::⟨rA,177,rcs⟩::P::X) w'):=fun w P hm=>by
  have hm':=hm.perm (M':=r.hp gr (slv rA n rc) (.slice (some ⟨gj,0,none⟩) 4 jc)::⟨some gj,3,jv⟩::⟨rA,177,rcs⟩::P::X) ((List.perm_middle (l₁:=[_,_,_])))
  refine(perform_c w0 B r gr gj jc (slv rA n rc) js jv (⟨rA,177,rcs⟩::P::X) q w hm'.rebase (hi.step hm') hj (hq.own hqn hm) (hqn.step hqb hm') hqv hqk hst).mono fun u w' h=>?_
  obtain⟨o',k',js',jv',x,h1,h2,h3,h4,h5,h6⟩:=h
  exact⟨o',k',js',jv',x,h1,h2,h3,h4,h5,hm'.trans h6⟩
 unfold RD.hp RD.cs RsV.v at kpf
 try dsimp only at kpf
 have kpt:=fun(r':RD) (hp:r'.p=r.p) (M':List Hp) (x:RsV) (w1:World) (hmB:Mm (own M0) wB M' w1) (hI1:RnI w0 B M' r' w1) (hx:St M' x.ok w1) (hxf:x.fit) (w:World) (M'':List Hp) (hm:Mm (own M') w1 M'' w)=>rput_c r'.p r'.y B q x w (hI1.p.at_ hm) hI1.pv (MO.of_new (hI1.y.at_ hm) hI1.yo) hI1.yo hI1.yv hB (hq.own hqn (hmB.trans hm)) hqv hqk hst (hx.at_ hm) hxf
 unfold PV.v MO.v RsV.v at kpt
 try dsimp only at kpt
 obtain⟨th,stop,trap,cnt,pc,call,ra,rd⟩:=q
 have hra:ra.ok wB:=hq.a
 have hrav:∀c∈ra.xs,c.val:=hqv.av
 have hran:=hqk.n
 have hnra:∀b o n,ra.A=some ⟨b,o,n⟩→¬own M0 b:=fun b o n e=>hqn b o n (.inl e)
 dsimp only at hst ha hran
 subst hst
 unfold RqV.v at kpf kpt ⊢
 try dsimp only at kpf kpt ⊢
 refine enterR Tryz.func92 rfl rfl rfl fun a hs hm=>?_
 clear hm
 have hm:=hm0
 refine gsc5af_ ?_;clear hs hm a;intros;rename_i a hm hs
 obtain⟨g3,rfl⟩:=hs.pp 3
 obtain⟨nx,hnx⟩:∃nx:Int,nx=-1:=⟨_,rfl⟩
 rw[←hnx]at hs
 replace hm:=hm.sub (M':=⟨some g3,173,[.int .i64 th,.int .i64 1,.int .i64 trap,.int .i64 cnt,.int .i64 pc,.int .i64 call,.slice ra.A ra.xs.length ra.c,.slice rd.A rd.xs.length rd.c]⟩::⟨some gr,87,(r.p.cl (r.y.cl (slv r.y.tA r.y.ts.length r.y.tc::r.o.cl (r.o.f.cl [.slice r.o.us.A r.o.us.us.length r.o.us.c,.slice r.k.o.A r.k.o.n r.k.o.c,.slice r.k.qA r.k.qs.length r.k.qc,slv rA n rc,.slice (some ⟨gj,0,none⟩) 4 jc]))))⟩::⟨some gj,3,jv⟩::⟨rA,177,rcs⟩::X) sub_
 refine st hs rfl rfl rfl (d_call hs rfl rfl rfl (pl 113 rfl) ((kpf _ _ hm))) ?_;clear hs a;rintro _ w1 ⟨o',k',js',jv',x,rfl,hj',hI1,hxo,hxf,hmB⟩ a hs
 have kput:=kpt {r with o:=o',k:=k'} rfl _ x w1 hmB hI1 hxo hxf
 try dsimp only at kput
 clear kpt kpf
 replace hm:=hmB.rebase
 refine gsc5af_ ?_;clear hs hm a;intros;rename_i a hm hs
 obtain⟨g5,rfl⟩:=hs.pp 5
 refine cMid (fun a w=>∃(y:MO)(R:List Hp),y.ok∧y.d.val r.p.ss B∧(y=r.y∨y.hps=R)∧(∀x∈R,∀g,x.g=some g→w0.heap.size≤g)∧Sl Tryz.f92.ntmps [(0,pt gr),(3,pt g3),(4,.int .i64 nx),(5,pt g5)] a∧Mm (own (⟨some gr,87,(r.p.cl (r.y.cl (slv r.y.tA r.y.ts.length r.y.tc::o'.cl (o'.f.cl [.slice o'.us.A o'.us.us.length o'.us.c,.slice k'.o.A k'.o.n k'.o.c,.slice k'.qA k'.qs.length k'.qc,slv rA n rc,.slice (some ⟨gj,0,none⟩) 4 jc]))))⟩::⟨some gj,3,jv'⟩::⟨rA,177,rcs⟩::⟨some g3,173,[.int .i64 th,.int .i64 1,.int .i64 trap,.int .i64 cnt,.int .i64 pc,.int .i64 call,.slice ra.A ra.xs.length ra.c,.slice rd.A rd.xs.length rd.c]⟩::X)) w1 (⟨some g5,175,[.int .u8 x.val.t,.int .u16 x.val.v,.int .i64 x.val.r,.int .i64 x.val.o,.slice x.d.A x.d.xs.length x.d.c,.int .i64 x.spawn,.bool x.wait]⟩::⟨some gr,87,(r.p.cl (y.cl (slv y.tA y.ts.length y.tc::o'.cl (o'.f.cl [.slice o'.us.A o'.us.us.length o'.us.c,.slice k'.o.A k'.o.n k'.o.c,.slice k'.qA k'.qs.length k'.qc,slv rA n rc,.slice (some ⟨gj,0,none⟩) 4 jc]))))⟩::⟨some gj,3,jv'⟩::⟨rA,177,rcs⟩::⟨some g3,173,[.int .i64 th,.int .i64 1,.int .i64 trap,.int .i64 cnt,.int .i64 pc,.int .i64 call,.slice ra.A ra.xs.length ra.c,.slice rd.A rd.xs.length rd.c]⟩::(X++R)) w) ?_ ?_
 ·with_reducible repeat(first|apply gThen|apply wp_seq)
  refine cDrawTB (n:=18) (.s [0,1,2,3,4,5,6,7,8,9,10]<| .o 11<| .x<| .s [12,13,14,15,16]<| .o 17<| .d) 17 [⟨some g5,175,[.int .u8 x.val.t,.int .u16 x.val.v,.int .i64 x.val.r,.int .i64 x.val.o,.slice x.d.A x.d.xs.length x.d.c,.int .i64 x.spawn,.bool x.wait]⟩,⟨some gr,87,(r.p.cl (r.y.cl (slv r.y.tA r.y.ts.length r.y.tc::o'.cl (o'.f.cl [.slice o'.us.A o'.us.us.length o'.us.c,.slice k'.o.A k'.o.n k'.o.c,.slice k'.qA k'.qs.length k'.qc,slv rA n rc,.slice (some ⟨gj,0,none⟩) 4 jc]))))⟩,⟨some g3,173,[.int .i64 th,.int .i64 1,.int .i64 trap,.int .i64 cnt,.int .i64 pc,.int .i64 call,.slice ra.A ra.xs.length ra.c,.slice rd.A rd.xs.length rd.c]⟩] hm rfl rfl ?_
  clear hm;intro t_ w1_ hm
  repeat' (first|(refine dg95fa_ ?_;clear t_ hs hm a;intros;rename_i a hm hs t_)|refine tEB t_ ?_|refine tCB ?_ ?_|exact tNB|intro t_|(refine oDoB (i:=11) hs rfl (Wnt.none rfl) rfl rfl (by exact d_call hs rfl rfl rfl (pl 114 rfl) ((kput _ _ hm))) ?_;clear hs;rintro _ w2 ⟨y,b,rfl,yo,yv,hz,hf⟩ a hs;(obtain⟨R,hN,hzR⟩:=zR hz);(have hRf:=fun x hx g hg=>Nat.le_trans hI1.sz (Nat.le_trans hm.fr.size (hN.fresh x hx g hg)));(replace hm:=gainE hm hf hN);(clear hf hN hz);(simp only[List.cons_append,List.nil_append]at hm);replace t_:=tX t_;refine⟨bu_,?_⟩)|(refine tDB t_ ?_;(exact And.intro rfl ⟨y,R,yo,yv,hzR,hRf,(sb_ hs),hm⟩))|fail)
 clear hs hm a kput
 rintro a w ⟨y,R,yo,yv,hzR,hRf,hs,hm⟩
 with_reducible repeat(first|apply gThen|apply wp_seq)
 refine cMid (fun a w=>∃(rA':Option Nat)(rc':Nat)(rcs':List Value),Row rA' (n+1) rc' 18 (es++[.int .i64 2,.int .i64 th,.int .i64 0,.int .i64 th,.int .i64 1,.int .i64 trap,.int .i64 cnt,.int .i64 pc,.int .i64 call,.slice ra.A ra.xs.length ra.c,.slice rd.A rd.xs.length rd.c,.int .u8 x.val.t,.int .u16 x.val.v,.int .i64 x.val.r,.int .i64 x.val.o,.slice x.d.A x.d.xs.length x.d.c,.int .i64 x.spawn,.bool x.wait]) rcs'∧Sl Tryz.f92.ntmps [(0,pt gr),(4,.int .i64 nx)] a∧Mm (own (⟨some gr,87,(r.p.cl (r.y.cl (slv r.y.tA r.y.ts.length r.y.tc::o'.cl (o'.f.cl [.slice o'.us.A o'.us.us.length o'.us.c,.slice k'.o.A k'.o.n k'.o.c,.slice k'.qA k'.qs.length k'.qc,slv rA n rc,.slice (some ⟨gj,0,none⟩) 4 jc]))))⟩::⟨some gj,3,jv'⟩::⟨rA,177,rcs⟩::⟨some g3,173,[.int .i64 th,.int .i64 1,.int .i64 trap,.int .i64 cnt,.int .i64 pc,.int .i64 call,.slice ra.A ra.xs.length ra.c,.slice rd.A rd.xs.length rd.c]⟩::X)) w1 (⟨some gr,87,(r.p.cl (y.cl (slv y.tA y.ts.length y.tc::o'.cl (o'.f.cl [.slice o'.us.A o'.us.us.length o'.us.c,.slice k'.o.A k'.o.n k'.o.c,.slice k'.qA k'.qs.length k'.qc,slv rA' (n+1) rc',.slice (some ⟨gj,0,none⟩) 4 jc]))))⟩::⟨some gj,3,jv'⟩::⟨rA',177,rcs'⟩::(X++R)) w) ?_ ?_
 ·with_reducible repeat(first|apply gThen|apply wp_seq)
  refine cDrawTB (n:=15) (.s [0,1,2,3,4,5,6,7,8,9]<| .o 10<| .o 11<| .x<| .s [12,13]<| .o 14<| .d) 14 [⟨some g5,175,[.int .u8 x.val.t,.int .u16 x.val.v,.int .i64 x.val.r,.int .i64 x.val.o,.slice x.d.A x.d.xs.length x.d.c,.int .i64 x.spawn,.bool x.wait]⟩,⟨some gr,87,(r.p.cl (y.cl (slv y.tA y.ts.length y.tc::o'.cl (o'.f.cl [.slice o'.us.A o'.us.us.length o'.us.c,.slice k'.o.A k'.o.n k'.o.c,.slice k'.qA k'.qs.length k'.qc,slv rA n rc,.slice (some ⟨gj,0,none⟩) 4 jc]))))⟩,⟨some g3,173,[.int .i64 th,.int .i64 1,.int .i64 trap,.int .i64 cnt,.int .i64 pc,.int .i64 call,.slice ra.A ra.xs.length ra.c,.slice rd.A rd.xs.length rd.c]⟩] hm rfl rfl ?_
  clear hm;intro t_ w1_ hm
  repeat' (first|(refine dg95fa_ ?_;clear t_ hs hm a;intros;rename_i a hm hs t_)|refine tEB t_ ?_|refine tCB ?_ ?_|exact tNB|intro t_|(refine oDoB (i:=11) hs rfl (Wnt.none rfl) rfl rfl (by exact d_append (A:=rA) (n:=n) (c:=rc) (news:=[.int .i64 2,.int .i64 th,.int .i64 0,.int .i64 th,.int .i64 1,.int .i64 trap,.int .i64 cnt,.int .i64 pc,.int .i64 call,.slice ra.A ra.xs.length ra.c,.slice rd.A rd.xs.length rd.c,.int .u8 x.val.t,.int .u16 x.val.v,.int .i64 x.val.r,.int .i64 x.val.o,.slice x.d.A x.d.xs.length x.d.c,.int .i64 x.spawn,.bool x.wait]) hs rfl rfl rfl rfl rfl tab rfl rfl rfl rfl rfl hm mem_ hrow rfl (hm.ro (n:=18) mem_ (cutF_ok rfl)) rfl (by show(n+1)*184≤_;omega) (by omega)) ?_;clear hs;rintro _ w2 ⟨rA',rc',rcs',rfl,hr',hM'⟩ a hs;(replace hm:=hM' _ rep_);(clear hM');replace t_:=tX t_;refine⟨bu_,?_⟩)|(refine tDB t_ ?_;(exact And.intro rfl ⟨rA',rc',rcs',hr',(sb_ hs),hm.sub sub_⟩))|fail)
 clear hs hm a
 rintro a w ⟨rA',rc',rcs',hr',hs,hm⟩
 have hI2:=hI1.set_y2 (M:=⟨some gr,87,(r.p.cl (y.cl (slv y.tA y.ts.length y.tc::o'.cl (o'.f.cl [.slice o'.us.A o'.us.us.length o'.us.c,.slice k'.o.A k'.o.n k'.o.c,.slice k'.qA k'.qs.length k'.qc,slv rA' (n+1) rc',.slice (some ⟨gj,0,none⟩) 4 jc]))))⟩::⟨some gj,3,jv'⟩::⟨rA',177,rcs'⟩::X) hm hRf hzR yo yv
 have hm2:=(hmB.trans hm).sub (M':=⟨some gr,87,(r.p.cl (y.cl (slv y.tA y.ts.length y.tc::o'.cl (o'.f.cl [.slice o'.us.A o'.us.us.length o'.us.c,.slice k'.o.A k'.o.n k'.o.c,.slice k'.qA k'.qs.length k'.qc,slv rA' (n+1) rc',.slice (some ⟨gj,0,none⟩) 4 jc]))))⟩::⟨some gj,3,jv'⟩::⟨rA',177,rcs'⟩::X) (List.Sublist.cons_cons _ (List.Sublist.cons_cons _ (List.Sublist.cons_cons _ (List.sublist_append_left _ _))))
 obtain⟨Z,hZ⟩:∃Z:RS,Z=⟨{r with o:=o',k:=k',y:=y},js',jv',rA',n+1,rc',es++[.int .i64 2,.int .i64 th,.int .i64 0,.int .i64 th,.int .i64 1,.int .i64 trap,.int .i64 cnt,.int .i64 pc,.int .i64 call,.slice ra.A ra.xs.length ra.c,.slice rd.A rd.xs.length rd.c,.int .u8 x.val.t,.int .u16 x.val.v,.int .i64 x.val.r,.int .i64 x.val.o,.slice x.d.A x.d.xs.length x.d.c,.int .i64 x.spawn,.bool x.wait],rcs'⟩:=⟨_,rfl⟩
 have hZM:Mm (own M0) wB (Z.M gr gj jc X) w:=by rw[hZ];exact hm2
 have hZi:Z.inv w0 B gr gj jc X w:=by rw[hZ];exact⟨hj',hI2,hr',by rw[List.all_append,h1c];rfl⟩
 have hZn:Z.n=n+1:=by rw[hZ]
 have hZp:Z.r.p=r.p:=by rw[hZ]
 clear hm2 hI2 hZ
 refine gsc5af_ ?_;clear hs hm a;intros;rename_i w a hm hs
 refine gEnd tab hs rfl .nil ?_
 exact⟨Z,hZi,hZM,by omega,hZp⟩
theorem called9_c [HB](w0:World)(B:Int)(z:RS)(gr gj jc:Nat)(X:List Hp)(q:RqV)(wB:World)(hM:Mm (own (z.M gr gj jc X)) wB (z.M gr gj jc X) wB)(hI:z.inv w0 B gr gj jc X wB)(hB:B≤1000000000)(hn:z.n≤900)(hq:q.ok wB)(hqn:q.no (z.M gr gj jc X))(hqb:q.bd wB)(hqv:q.val)(hqk:q.kin)(hst:q.stop=1)(ha:q.call=9):Ret Tryz.prog 92 [pt gr,q.v] wB (fun _ w'=>∃y:RS,y.inv w0 B gr gj jc X w'∧Mm (own (z.M gr gj jc X)) wB (y.M gr gj jc X) w'∧y.n≤z.n+2∧y.r.p=z.r.p):=by
 obtain⟨r,js,jv,rA,n,rc,es,rcs⟩:=z
 obtain⟨hj,hi,hrow,h1c⟩:=hI
 unfold RS.M at*
 dsimp only at*
 have hm0:=hM
 obtain⟨M0,hM0⟩:∃M0,r.hp gr (slv rA n rc) (.slice (some ⟨gj,0,none⟩) 4 jc)::⟨some gj,3,jv⟩::⟨rA,177,rcs⟩::X=M0:=⟨_,rfl⟩
 rw[hM0]at hi hM hqn ⊢
 replace hm0:Mm (own M0) wB (r.hp gr (slv rA n rc) (.slice (some ⟨gj,0,none⟩) 4 jc)::⟨some gj,3,jv⟩::⟨rA,177,rcs⟩::X) wB:=by rw[hM0];exact hM
 unfold RD.hp RD.cs at hm0
 have kpf:∀(w:World)(P:Hp),Mm (own M0) wB (P::r.hp gr (slv rA n rc) (.slice (some ⟨gj,0,none⟩) 4 jc)::⟨some gj,3,jv⟩::⟨rA,177,rcs⟩::X) w→Ret Tryz.prog 113 [pt gr,q.v] w (fun u w'=>∃(o':OV)(k':KS)(js':List Int)(jv':List Value)(x:RsV),u=x.v∧Row (some gj) 4 jc 1 (ints js') jv'∧RnI w0 B (RD.hp gr {r with o:=o',k:=k'} (slv rA n rc) (.slice (some ⟨gj,0,none⟩) 4 jc)::⟨some gj,3,jv'⟩::⟨rA,177,rcs⟩::P::X) {r with o:=o',k:=k'} w'∧St (RD.hp gr {r with o:=o',k:=k'} (slv rA n rc) (.slice (some ⟨gj,0,none⟩) 4 jc)::⟨some gj,3,jv'⟩::⟨rA,177,rcs⟩::P::X) x.ok w'∧x.fit∧Mm (own M0) wB (RD.hp gr {r with o:=o',k:=k'} (slv rA n rc) (.slice (some ⟨gj,0,none⟩) 4 jc)::⟨some gj,3,jv'⟩::⟨rA,177,rcs⟩::P::X) w'):=fun w P hm=>by
  have hm':=hm.perm (M':=r.hp gr (slv rA n rc) (.slice (some ⟨gj,0,none⟩) 4 jc)::⟨some gj,3,jv⟩::⟨rA,177,rcs⟩::P::X) ((List.perm_middle (l₁:=[_,_,_])))
  refine(perform_c w0 B r gr gj jc (slv rA n rc) js jv (⟨rA,177,rcs⟩::P::X) q w hm'.rebase (hi.step hm') hj (hq.own hqn hm) (hqn.step hqb hm') hqv hqk hst).mono fun u w' h=>?_
  obtain⟨o',k',js',jv',x,h1,h2,h3,h4,h5,h6⟩:=h
  exact⟨o',k',js',jv',x,h1,h2,h3,h4,h5,hm'.trans h6⟩
 unfold RD.hp RD.cs RsV.v at kpf
 try dsimp only at kpf
 have kpt:=fun(r':RD) (hp:r'.p=r.p) (M':List Hp) (x:RsV) (w1:World) (hmB:Mm (own M0) wB M' w1) (hI1:RnI w0 B M' r' w1) (hx:St M' x.ok w1) (hxf:x.fit) (w:World) (M'':List Hp) (hm:Mm (own M') w1 M'' w)=>rput_c r'.p r'.y B q x w (hI1.p.at_ hm) hI1.pv (MO.of_new (hI1.y.at_ hm) hI1.yo) hI1.yo hI1.yv hB (hq.own hqn (hmB.trans hm)) hqv hqk hst (hx.at_ hm) hxf
 unfold PV.v MO.v RsV.v at kpt
 try dsimp only at kpt
 have klk:∀(w:World)(M':List Hp)(k:Int),Mm (own M0) wB M' w→Ret Tryz.prog 112 [.agg #[.slice r.k.o.A r.k.o.n r.k.o.c,.slice r.k.qA r.k.qs.length r.k.qc],.int .i64 k,.int .i64 q.th] w (fun u w'=>∃(y:KS)(n:Int)(b:Bool),u= .tuple #[.agg #[.slice y.o.A y.o.n y.o.c,.slice y.qA y.qs.length y.qc],.int .i64 n,.bool b]∧LkR y w w'∧Pu w w'):=fun w M' k hm=>rgvA_c r.k k q.th w (hi.k.at_ hm) hi.kv
 obtain⟨th,stop,trap,cnt,pc,call,ra,rd⟩:=q
 have hra:ra.ok wB:=hq.a
 have hrav:∀c∈ra.xs,c.val:=hqv.av
 have hran:=hqk.n
 have hnra:∀b o n,ra.A=some ⟨b,o,n⟩→¬own M0 b:=fun b o n e=>hqn b o n (.inl e)
 dsimp only at hst ha hran klk
 subst hst ha
 have hal:0<ra.xs.length:=by rw[hran];decide
 obtain⟨b1,o1,hA,hb1,r1⟩:=Rd.ro hra (by rw[cns_len];omega)
 have hnb1:=hnra b1 o1 none hA
 have r2:=r1.flat CN.cs_len hal
 have hcv:=(hrav _ (List.getElem_mem hal)).v
 generalize ra.xs[0]'hal=c0 at r2 hcv
 unfold CN.cs at r2
 clear r1
 unfold RqV.v at kpf kpt ⊢
 try dsimp only at kpf kpt ⊢
 rw[hA]at kpf kpt ⊢
 refine enterR Tryz.func92 rfl rfl rfl fun a hs hm=>?_
 clear hm
 have hm:=hm0
 refine gsc5af_ ?_;clear hs hm a;intros;rename_i a hm hs
 obtain⟨g3,rfl⟩:=hs.pp 3
 refine cMid (fun a w=>∃nx:Int,Sl Tryz.f92.ntmps [(0,pt gr),(3,pt g3),(4,.int .i64 nx)] a∧Mm (own M0) wB (⟨some g3,173,[.int .i64 th,.int .i64 1,.int .i64 trap,.int .i64 cnt,.int .i64 pc,.int .i64 9,.slice (some ⟨b1,o1,none⟩) ra.xs.length ra.c,.slice rd.A rd.xs.length rd.c]⟩::⟨some gr,87,(r.p.cl (r.y.cl (slv r.y.tA r.y.ts.length r.y.tc::r.o.cl (r.o.f.cl [.slice r.o.us.A r.o.us.us.length r.o.us.c,.slice r.k.o.A r.k.o.n r.k.o.c,.slice r.k.qA r.k.qs.length r.k.qc,slv rA n rc,.slice (some ⟨gj,0,none⟩) 4 jc]))))⟩::⟨some gj,3,jv⟩::⟨rA,177,rcs⟩::X) w) ?_ ?_
 ·with_reducible repeat(first|apply gThen|apply wp_seq)
  refine cDrawT (n:=18) (.s [0,1,2,3,4,5,6,7,8,9,10,11]<| .o 12<| .x<| .s [13,14,15,16,17]<| .d) [⟨some g3,173,[.int .i64 th,.int .i64 1,.int .i64 trap,.int .i64 cnt,.int .i64 pc,.int .i64 9,.slice (some ⟨b1,o1,none⟩) ra.xs.length ra.c,.slice rd.A rd.xs.length rd.c]⟩,⟨some gr,87,(r.p.cl (r.y.cl (slv r.y.tA r.y.ts.length r.y.tc::r.o.cl (r.o.f.cl [.slice r.o.us.A r.o.us.us.length r.o.us.c,.slice r.k.o.A r.k.o.n r.k.o.c,.slice r.k.qA r.k.qs.length r.k.qc,slv rA n rc,.slice (some ⟨gj,0,none⟩) 4 jc]))))⟩] hm rfl rfl ?_
  clear hm;intro t_ w1_ hm
  repeat' (first|(refine dgShv0_ ?_;clear t_ hs hm a;intros;rename_i a hm hs t_)|refine tE t_ ?_|refine tC ?_ ?_|exact tN|intro t_|(refine oDo (i:=12) hs rfl (Wnt.none rfl) rfl rfl (by exact d_call hs rfl rfl rfl (pl 112 rfl) ((klk _ _ _ hm))) ?_;clear hs;rintro _ w1 ⟨z,nx,b,rfl,hk,hf⟩ a hs;(replace hm:=hm.pu hf);(clear hf hk);replace t_:=tX t_;refine⟨(hm.sub sub_),?_⟩)|(refine tD t_ ?_;(exact And.intro rfl ⟨nx,(sb_ hs),hm⟩))|fail)
 clear hs hm a
 rintro a w ⟨nx,hs,hm⟩
 refine gsc5af_ ?_;clear hs hm a;intros;rename_i a hm hs
 replace hm:=hm.sub (M':=⟨some g3,173,[.int .i64 th,.int .i64 1,.int .i64 trap,.int .i64 cnt,.int .i64 pc,.int .i64 9,.slice (some ⟨b1,o1,none⟩) ra.xs.length ra.c,.slice rd.A rd.xs.length rd.c]⟩::⟨some gr,87,(r.p.cl (r.y.cl (slv r.y.tA r.y.ts.length r.y.tc::r.o.cl (r.o.f.cl [.slice r.o.us.A r.o.us.us.length r.o.us.c,.slice r.k.o.A r.k.o.n r.k.o.c,.slice r.k.qA r.k.qs.length r.k.qc,slv rA n rc,.slice (some ⟨gj,0,none⟩) 4 jc]))))⟩::⟨some gj,3,jv⟩::⟨rA,177,rcs⟩::X) sub_
 refine st hs rfl rfl rfl (d_call hs rfl rfl rfl (pl 113 rfl) ((kpf _ _ hm))) ?_;clear hs a;rintro _ w1 ⟨o',k',js',jv',x,rfl,hj',hI1,hxo,hxf,hmB⟩ a hs
 have kput:=kpt {r with o:=o',k:=k'} rfl _ x w1 hmB hI1 hxo hxf
 try dsimp only at kput
 clear kpt kpf
 replace hm:=hmB.rebase
 refine gsc5af_ ?_;clear hs hm a;intros;rename_i a hm hs
 obtain⟨g5,rfl⟩:=hs.pp 5
 refine cMid (fun a w=>∃(y:MO)(R:List Hp),y.ok∧y.d.val r.p.ss B∧(y=r.y∨y.hps=R)∧(∀x∈R,∀g,x.g=some g→w0.heap.size≤g)∧Sl Tryz.f92.ntmps [(0,pt gr),(3,pt g3),(4,.int .i64 nx),(5,pt g5)] a∧Mm (own (⟨some gr,87,(r.p.cl (r.y.cl (slv r.y.tA r.y.ts.length r.y.tc::o'.cl (o'.f.cl [.slice o'.us.A o'.us.us.length o'.us.c,.slice k'.o.A k'.o.n k'.o.c,.slice k'.qA k'.qs.length k'.qc,slv rA n rc,.slice (some ⟨gj,0,none⟩) 4 jc]))))⟩::⟨some gj,3,jv'⟩::⟨rA,177,rcs⟩::⟨some g3,173,[.int .i64 th,.int .i64 1,.int .i64 trap,.int .i64 cnt,.int .i64 pc,.int .i64 9,.slice (some ⟨b1,o1,none⟩) ra.xs.length ra.c,.slice rd.A rd.xs.length rd.c]⟩::X)) w1 (⟨some g5,175,[.int .u8 x.val.t,.int .u16 x.val.v,.int .i64 x.val.r,.int .i64 x.val.o,.slice x.d.A x.d.xs.length x.d.c,.int .i64 x.spawn,.bool x.wait]⟩::⟨some gr,87,(r.p.cl (y.cl (slv y.tA y.ts.length y.tc::o'.cl (o'.f.cl [.slice o'.us.A o'.us.us.length o'.us.c,.slice k'.o.A k'.o.n k'.o.c,.slice k'.qA k'.qs.length k'.qc,slv rA n rc,.slice (some ⟨gj,0,none⟩) 4 jc]))))⟩::⟨some gj,3,jv'⟩::⟨rA,177,rcs⟩::⟨some g3,173,[.int .i64 th,.int .i64 1,.int .i64 trap,.int .i64 cnt,.int .i64 pc,.int .i64 9,.slice (some ⟨b1,o1,none⟩) ra.xs.length ra.c,.slice rd.A rd.xs.length rd.c]⟩::(X++R)) w) ?_ ?_
 ·with_reducible repeat(first|apply gThen|apply wp_seq)
  refine cDrawTB (n:=18) (.s [0,1,2,3,4,5,6,7,8,9,10]<| .o 11<| .x<| .s [12,13,14,15,16]<| .o 17<| .d) 17 [⟨some g5,175,[.int .u8 x.val.t,.int .u16 x.val.v,.int .i64 x.val.r,.int .i64 x.val.o,.slice x.d.A x.d.xs.length x.d.c,.int .i64 x.spawn,.bool x.wait]⟩,⟨some gr,87,(r.p.cl (r.y.cl (slv r.y.tA r.y.ts.length r.y.tc::o'.cl (o'.f.cl [.slice o'.us.A o'.us.us.length o'.us.c,.slice k'.o.A k'.o.n k'.o.c,.slice k'.qA k'.qs.length k'.qc,slv rA n rc,.slice (some ⟨gj,0,none⟩) 4 jc]))))⟩,⟨some g3,173,[.int .i64 th,.int .i64 1,.int .i64 trap,.int .i64 cnt,.int .i64 pc,.int .i64 9,.slice (some ⟨b1,o1,none⟩) ra.xs.length ra.c,.slice rd.A rd.xs.length rd.c]⟩] hm rfl rfl ?_
  clear hm;intro t_ w1_ hm
  repeat' (first|(refine dgShv1_ ?_;clear t_ hs hm a;intros;rename_i a hm hs t_)|refine tEB t_ ?_|refine tCB ?_ ?_|exact tNB|intro t_|(refine oDoB (i:=11) hs rfl (Wnt.none rfl) rfl rfl (by exact d_call hs rfl rfl rfl (pl 114 rfl) ((kput _ _ hm))) ?_;clear hs;rintro _ w2 ⟨y,b,rfl,yo,yv,hz,hf⟩ a hs;(obtain⟨R,hN,hzR⟩:=zR hz);(have hRf:=fun x hx g hg=>Nat.le_trans hI1.sz (Nat.le_trans hm.fr.size (hN.fresh x hx g hg)));(replace hm:=gainE hm hf hN);(clear hf hN hz);(simp only[List.cons_append,List.nil_append]at hm);replace t_:=tX t_;refine⟨bu_,?_⟩)|(refine tDB t_ ?_;(exact And.intro rfl ⟨y,R,yo,yv,hzR,hRf,(sb_ hs),hm⟩))|fail)
 clear hs hm a kput
 rintro a w ⟨y,R,yo,yv,hzR,hRf,hs,hm⟩
 with_reducible repeat(first|apply gThen|apply wp_seq)
 refine cMid (fun a w=>∃(rA':Option Nat)(rc':Nat)(rcs':List Value),Row rA' (n+1) rc' 18 (es++[.int .i64 2,.int .i64 th,.int .i64 0,.int .i64 th,.int .i64 1,.int .i64 trap,.int .i64 cnt,.int .i64 pc,.int .i64 9,.slice (some ⟨b1,o1,none⟩) ra.xs.length ra.c,.slice rd.A rd.xs.length rd.c,.int .u8 x.val.t,.int .u16 x.val.v,.int .i64 x.val.r,.int .i64 x.val.o,.slice x.d.A x.d.xs.length x.d.c,.int .i64 x.spawn,.bool x.wait]) rcs'∧Sl Tryz.f92.ntmps [(0,pt gr),(4,.int .i64 nx)] a∧Mm (own (⟨some gr,87,(r.p.cl (r.y.cl (slv r.y.tA r.y.ts.length r.y.tc::o'.cl (o'.f.cl [.slice o'.us.A o'.us.us.length o'.us.c,.slice k'.o.A k'.o.n k'.o.c,.slice k'.qA k'.qs.length k'.qc,slv rA n rc,.slice (some ⟨gj,0,none⟩) 4 jc]))))⟩::⟨some gj,3,jv'⟩::⟨rA,177,rcs⟩::⟨some g3,173,[.int .i64 th,.int .i64 1,.int .i64 trap,.int .i64 cnt,.int .i64 pc,.int .i64 9,.slice (some ⟨b1,o1,none⟩) ra.xs.length ra.c,.slice rd.A rd.xs.length rd.c]⟩::X)) w1 (⟨some gr,87,(r.p.cl (y.cl (slv y.tA y.ts.length y.tc::o'.cl (o'.f.cl [.slice o'.us.A o'.us.us.length o'.us.c,.slice k'.o.A k'.o.n k'.o.c,.slice k'.qA k'.qs.length k'.qc,slv rA' (n+1) rc',.slice (some ⟨gj,0,none⟩) 4 jc]))))⟩::⟨some gj,3,jv'⟩::⟨rA',177,rcs'⟩::(X++R)) w) ?_ ?_
 ·with_reducible repeat(first|apply gThen|apply wp_seq)
  refine cDrawTB (n:=15) (.s [0,1,2,3,4,5,6,7,8,9]<| .o 10<| .o 11<| .x<| .s [12,13]<| .o 14<| .d) 14 [⟨some g5,175,[.int .u8 x.val.t,.int .u16 x.val.v,.int .i64 x.val.r,.int .i64 x.val.o,.slice x.d.A x.d.xs.length x.d.c,.int .i64 x.spawn,.bool x.wait]⟩,⟨some gr,87,(r.p.cl (y.cl (slv y.tA y.ts.length y.tc::o'.cl (o'.f.cl [.slice o'.us.A o'.us.us.length o'.us.c,.slice k'.o.A k'.o.n k'.o.c,.slice k'.qA k'.qs.length k'.qc,slv rA n rc,.slice (some ⟨gj,0,none⟩) 4 jc]))))⟩,⟨some g3,173,[.int .i64 th,.int .i64 1,.int .i64 trap,.int .i64 cnt,.int .i64 pc,.int .i64 9,.slice (some ⟨b1,o1,none⟩) ra.xs.length ra.c,.slice rd.A rd.xs.length rd.c]⟩] hm rfl rfl ?_
  clear hm;intro t_ w1_ hm
  repeat' (first|(refine dgShv1_ ?_;clear t_ hs hm a;intros;rename_i a hm hs t_)|refine tEB t_ ?_|refine tCB ?_ ?_|exact tNB|intro t_|(refine oDoB (i:=11) hs rfl (Wnt.none rfl) rfl rfl (by exact d_append (A:=rA) (n:=n) (c:=rc) (news:=[.int .i64 2,.int .i64 th,.int .i64 0,.int .i64 th,.int .i64 1,.int .i64 trap,.int .i64 cnt,.int .i64 pc,.int .i64 9,.slice (some ⟨b1,o1,none⟩) ra.xs.length ra.c,.slice rd.A rd.xs.length rd.c,.int .u8 x.val.t,.int .u16 x.val.v,.int .i64 x.val.r,.int .i64 x.val.o,.slice x.d.A x.d.xs.length x.d.c,.int .i64 x.spawn,.bool x.wait]) hs rfl rfl rfl rfl rfl tab rfl rfl rfl rfl rfl hm mem_ hrow rfl (hm.ro (n:=18) mem_ (cutF_ok rfl)) rfl (by show(n+1)*184≤_;omega) (by omega)) ?_;clear hs;rintro _ w2 ⟨rA',rc',rcs',rfl,hr',hM'⟩ a hs;(replace hm:=hM' _ rep_);(clear hM');replace t_:=tX t_;refine⟨bu_,?_⟩)|(refine tDB t_ ?_;(exact And.intro rfl ⟨rA',rc',rcs',hr',(sb_ hs),hm.sub sub_⟩))|fail)
 clear hs hm a
 rintro a w ⟨rA',rc',rcs',hr',hs,hm⟩
 have hI2:=hI1.set_y2 (M:=⟨some gr,87,(r.p.cl (y.cl (slv y.tA y.ts.length y.tc::o'.cl (o'.f.cl [.slice o'.us.A o'.us.us.length o'.us.c,.slice k'.o.A k'.o.n k'.o.c,.slice k'.qA k'.qs.length k'.qc,slv rA' (n+1) rc',.slice (some ⟨gj,0,none⟩) 4 jc]))))⟩::⟨some gj,3,jv'⟩::⟨rA',177,rcs'⟩::X) hm hRf hzR yo yv
 have hm2:=(hmB.trans hm).sub (M':=⟨some gr,87,(r.p.cl (y.cl (slv y.tA y.ts.length y.tc::o'.cl (o'.f.cl [.slice o'.us.A o'.us.us.length o'.us.c,.slice k'.o.A k'.o.n k'.o.c,.slice k'.qA k'.qs.length k'.qc,slv rA' (n+1) rc',.slice (some ⟨gj,0,none⟩) 4 jc]))))⟩::⟨some gj,3,jv'⟩::⟨rA',177,rcs'⟩::X) (List.Sublist.cons_cons _ (List.Sublist.cons_cons _ (List.Sublist.cons_cons _ (List.sublist_append_left _ _))))
 obtain⟨Z,hZ⟩:∃Z:RS,Z=⟨{r with o:=o',k:=k',y:=y},js',jv',rA',n+1,rc',es++[.int .i64 2,.int .i64 th,.int .i64 0,.int .i64 th,.int .i64 1,.int .i64 trap,.int .i64 cnt,.int .i64 pc,.int .i64 9,.slice (some ⟨b1,o1,none⟩) ra.xs.length ra.c,.slice rd.A rd.xs.length rd.c,.int .u8 x.val.t,.int .u16 x.val.v,.int .i64 x.val.r,.int .i64 x.val.o,.slice x.d.A x.d.xs.length x.d.c,.int .i64 x.spawn,.bool x.wait],rcs'⟩:=⟨_,rfl⟩
 have hZM:Mm (own M0) wB (Z.M gr gj jc X) w:=by rw[hZ];exact hm2
 have hZi:Z.inv w0 B gr gj jc X w:=by rw[hZ];exact⟨hj',hI2,hr',by rw[List.all_append,h1c];rfl⟩
 have hZn:Z.n=n+1:=by rw[hZ]
 have hZp:Z.r.p=r.p:=by rw[hZ]
 clear hm2 hI2 hZ
 by_cases hx0:0≤nx
 ·refine gsc5af_ ?_;clear hs hm a;intros;rename_i a hm hs
  refine st hs rfl rfl rfl (d_call hs rfl rfl rfl (pl 115 rfl) ((wakeS_c w0 B Z gr gj jc X nx 0 _ hZM.rebase hZi hB (by omega)))) ?_;clear hs a;rintro _ w3 ⟨y2,hy1,hy2,hn2,hjs2,hjv2,hp2⟩ a hs
  repeat refine sc_ ?_
  refine gEnd tab hs rfl .nil ?_
  exact⟨y2,hy1,hZM.trans hy2,by omega,hp2.trans hZp⟩
 ·refine gsc5af_ ?_;clear hs hm a;intros;rename_i a hm hs
  refine gEnd tab hs rfl .nil ?_
  exact⟨Z,hZi,hZM,by omega,hZp⟩
theorem called_c [HB](w0:World)(B:Int)(z:RS)(gr gj jc:Nat)(X:List Hp)(q:RqV)(wB:World)(hM:Mm (own (z.M gr gj jc X)) wB (z.M gr gj jc X) wB)(hI:z.inv w0 B gr gj jc X wB)(hB:B≤1000000000)(hn:z.n≤900)(hq:q.ok wB)(hqn:q.no (z.M gr gj jc X))(hqb:q.bd wB)(hqv:q.val)(hqk:q.kin)(hst:q.stop=1):Ret Tryz.prog 92 [pt gr,q.v] wB (fun _ w'=>∃y:RS,y.inv w0 B gr gj jc X w'∧Mm (own (z.M gr gj jc X)) wB (y.M gr gj jc X) w'∧y.n≤z.n+2∧y.r.p=z.r.p):=by
 by_cases ha:q.call=9
 ·exact called9_c w0 B z gr gj jc X q wB hM hI hB hn hq hqn hqb hqv hqk hst ha
 ·exact calledN_c w0 B z gr gj jc X q wB hM hI hB hn hq hqn hqb hqv hqk hst ha
theorem RS.inv.step [HB]{z:RS}{w0 w w':World}{B:Int}{gr gj jc:Nat}{X:List Hp}(h:z.inv w0 B gr gj jc X w)(hm:Mm (own (z.M gr gj jc X)) w (z.M gr gj jc X) w'):z.inv w0 B gr gj jc X w':=⟨h.j,h.i.step hm,h.row,h.one⟩
theorem Mm.nown{M M':List Hp}{w w':World}{g:Nat}(hm:Mm (own M) w M' w')(h:g<w.heap.size∧¬own M g):g<w'.heap.size∧¬own M' g:=⟨Nat.lt_of_lt_of_le h.1 hm.fr.size,fun hg=>by
 rcases hm.own_ hg with h1|h1
 ·have:=h.1;omega
 ·exact h.2 h1⟩
structure EdX where
 i:Nat
 z:RS
theorem ended_c [HB](w0:World)(B:Int)(z:RS)(gr gj jc:Nat)(X:List Hp)(t:Nat)(wB:World)(hM:Mm (own (z.M gr gj jc X)) wB (z.M gr gj jc X) wB)(hI:z.inv w0 B gr gj jc X wB)(hB:B≤1000000000)(hn:z.n≤900)(ht:t<4):Ret Tryz.prog 93 [pt gr,.int .i64 (t:Int)] wB (fun _ w'=>∃y:RS,y.inv w0 B gr gj jc X w'∧Mm (own (z.M gr gj jc X)) wB (y.M gr gj jc X) w'∧y.n≤z.n+8∧y.r.p=z.r.p):=by
 obtain⟨r,js,jv,rA,n,rc,es,rcs⟩:=z
 obtain⟨hj,hi,hrow,h1c⟩:=hI
 unfold RS.M at*
 dsimp only at*
 have hm0:=hM
 obtain⟨M0,hM0⟩:∃M0,r.hp gr (slv rA n rc) (.slice (some ⟨gj,0,none⟩) 4 jc)::⟨some gj,3,jv⟩::⟨rA,177,rcs⟩::X=M0:=⟨_,rfl⟩
 rw[hM0]at hi hM ⊢
 replace hm0:Mm (own M0) wB (r.hp gr (slv rA n rc) (.slice (some ⟨gj,0,none⟩) 4 jc)::⟨some gj,3,jv⟩::⟨rA,177,rcs⟩::X) wB:=by rw[hM0];exact hM
 have kdr:∀(w:World)(M':List Hp),Mm (own M0) wB M' w→Ret Tryz.prog 116 [.agg #[.slice r.k.o.A r.k.o.n r.k.o.c,.slice r.k.qA r.k.qs.length r.k.qc],.int .i64 (t:Int)] w (fun u w'=>∃(y:KS)(nA:Option Nat)(nc:Nat)(ncs:List Value)(l:List Int),u= .tuple #[.agg #[.slice y.o.A y.o.n y.o.c,.slice y.qA y.qs.length y.qc],slv nA l.length nc]∧Row nA l.length nc 1 (ints l) ncs∧New w w' [⟨nA,3,ncs⟩]∧l.length≤4∧LkR y w w'∧Pu w w'):=fun w M' hm=>rdrop_c r.k t w (hi.k.at_ hm) hi.kv
 unfold RD.hp RD.cs at hm0
 refine enterR Tryz.func93 rfl rfl rfl fun a hs hm=>?_
 clear hm
 have hm:=hm0
 refine gsce98_ ?_;clear hs hm a;intros;rename_i a hm hs
 refine st hs rfl rfl rfl (d_call hs rfl rfl rfl (pl 116 rfl) ((kdr _ _ hm))) ?_;clear hs a;rintro _ w1 ⟨y,nA,nc,ncs,l,rfl,hlr,hN,hl4,hk,hf⟩ a hs
 have hI1:=(hi.step hm).set_k hm hf hk
 have hRl:St (⟨some gr,87,(r.p.cl (r.y.cl (slv r.y.tA r.y.ts.length r.y.tc::r.o.cl (r.o.f.cl [.slice r.o.us.A r.o.us.us.length r.o.us.c,.slice r.k.o.A r.k.o.n r.k.o.c,.slice r.k.qA r.k.qs.length r.k.qc,slv rA n rc,.slice (some ⟨gj,0,none⟩) 4 jc]))))⟩::⟨some gj,3,jv⟩::⟨rA,177,rcs⟩::X) (fun v=>Rd v v.heap.size (ad nA) (ints l)) w1:=St.of_new hm hf hN (fun S w0 w M hm hM=>hm.rd_row (hM _ (List.mem_singleton.2 rfl)) hlr)
 have hnl:∀gn,nA=some gn→gn<w1.heap.size∧¬own (⟨some gr,87,(r.p.cl (r.y.cl (slv r.y.tA r.y.ts.length r.y.tc::r.o.cl (r.o.f.cl [.slice r.o.us.A r.o.us.us.length r.o.us.c,.slice r.k.o.A r.k.o.n r.k.o.c,.slice r.k.qA r.k.qs.length r.k.qc,slv rA n rc,.slice (some ⟨gj,0,none⟩) 4 jc]))))⟩::⟨some gj,3,jv⟩::⟨rA,177,rcs⟩::X) gn:=fun gn e=>⟨Hp.lt (hN.me _ (List.mem_singleton.2 rfl)) e,fun hg=>by
  have h1:=hm.own_lt hg
  have h2:=hN.fresh _ (List.mem_singleton.2 rfl) gn e
  omega⟩
 have hmB:=hm.pu hf
 clear hN hf hk hm kdr
 have hm:=hmB.rebase
 refine gsce98_ ?_;clear hs hm a;intros;rename_i w a hm hs
 obtain⟨g4,rfl⟩:=hs.pp 4
 have hmK:Mm (own (⟨some gr,87,(r.p.cl (r.y.cl (slv r.y.tA r.y.ts.length r.y.tc::r.o.cl (r.o.f.cl [.slice r.o.us.A r.o.us.us.length r.o.us.c,.slice r.k.o.A r.k.o.n r.k.o.c,.slice r.k.qA r.k.qs.length r.k.qc,slv rA n rc,.slice (some ⟨gj,0,none⟩) 4 jc]))))⟩::⟨some gj,3,jv⟩::⟨rA,177,rcs⟩::X)) w1 (⟨some gr,87,(r.p.cl (r.y.cl (slv r.y.tA r.y.ts.length r.y.tc::r.o.cl (r.o.f.cl [.slice r.o.us.A r.o.us.us.length r.o.us.c,.slice y.o.A y.o.n y.o.c,.slice y.qA y.qs.length y.qc,slv rA n rc,.slice (some ⟨gj,0,none⟩) 4 jc]))))⟩::⟨some gj,3,jv⟩::⟨rA,177,rcs⟩::X) w:=hm.sub sub_
 obtain⟨Z,hZ⟩:∃Z:RS,Z=⟨{r with k:=y},js,jv,rA,n,rc,es,rcs⟩:=⟨_,rfl⟩
 have hZe:Z.M gr gj jc X=⟨some gr,87,(r.p.cl (r.y.cl (slv r.y.tA r.y.ts.length r.y.tc::r.o.cl (r.o.f.cl [.slice r.o.us.A r.o.us.us.length r.o.us.c,.slice y.o.A y.o.n y.o.c,.slice y.qA y.qs.length y.qc,slv rA n rc,.slice (some ⟨gj,0,none⟩) 4 jc]))))⟩::⟨some gj,3,jv⟩::⟨rA,177,rcs⟩::X:=by rw[hZ];rfl
 have hZi:Z.inv w0 B gr gj jc X w:=by rw[hZ];exact⟨hj,hI1.step hmK,hrow,h1c⟩
 have hZm:Mm (own M0) wB (Z.M gr gj jc X) w:=by rw[hZe];exact hmB.trans hmK
 have hZl:St (Z.M gr gj jc X) (fun v=>Rd v v.heap.size (ad nA) (ints l)) w:=by rw[hZe];exact hRl.step hmK
 have hZn:∀gn,nA=some gn→gn<w.heap.size∧¬own (Z.M gr gj jc X) gn:=fun gn e=>by rw[hZe];exact hmK.nown (hnl gn e)
 have hZ1:Z.n=n:=by rw[hZ]
 have hZ2:Z.r.p=r.p:=by rw[hZ]
 clear hRl hnl hm hmK hZe hZ hI1
 refine cMidE (.exit 0) (fun a w=>∃Y:RS,Y.inv w0 B gr gj jc X w∧Y.n≤n+4∧Y.r.p=r.p∧Sl Tryz.f93.ntmps [(0,pt gr),(1,.int .i64 (t:Int))] a∧Mm (own M0) wB (Y.M gr gj jc X) w) ?_ ?_
 ·refine cLoop (X:=EdX) (fun Y a w=>Y.i≤l.length∧Y.z.inv w0 B gr gj jc X w∧Y.z.n=n+Y.i∧Y.z.r.p=r.p∧St (Y.z.M gr gj jc X) (fun v=>Rd v v.heap.size (ad nA) (ints l)) w∧(∀gn,nA=some gn→gn<w.heap.size∧¬own (Y.z.M gr gj jc X) gn)∧Sl Tryz.f93.ntmps [(0,pt gr),(1,.int .i64 (t:Int)),(23,slv nA l.length nc),(24,.int .i64 (l.length:Int)),(25,.int .i64 (Y.i:Int))] a∧Mm (own M0) wB (Y.z.M gr gj jc X) w) (fun Y=>l.length-Y.i) ⟨0,Z⟩ ⟨Nat.zero_le _,hZi,hZ1,hZ2,hZl,hZn,(sb_ hs),hZm⟩ ?_
  clear hs hZm hZl hZn hZi hZ1 hZ2 hmB a
  rintro⟨i,Y⟩ a w ⟨hil,hYi,hYn,hYp,hYl,hYo,hs,hmB⟩
  dsimp only at hil hYi hYn hYp hYl hYo hs hmB
  by_cases hlt:i<l.length
  ·obtain⟨b,o,hA,hb,r4⟩:=Rd.ro hYl.now (by rw[ints_len];omega)
   have hA2:nA=some b∧0=o:=by
    cases nA with
    |none=>simp[ad]at hA
    |some g=>simpa[ad]using hA
   obtain⟨hA3,rfl⟩:=hA2
   have hno:=(hYo b hA3).2
   have e1:=ints_some (xs:=l) (k:=i) hlt
   have hm:=hmB.rebase
   rw[hA3]at hs
   refine gsce98_ ?_;clear hs hm a;intros;rename_i a hm hs
   refine st hs rfl rfl rfl (d_call hs rfl rfl rfl (pl 115 rfl) ((wakeS_c w0 B Y gr gj jc X _ 0 _ hm.rebase (hYi.step hm) hB (by omega)))) ?_;clear hs a;rintro _ w3 ⟨y2,hy1,hy2,hn2,hjs2,hjv2,hp2⟩ a hs
   replace hm:=hm.trans hy2
   refine gsce98_ ?_;clear hs hm a;intros;rename_i a hm hs
   rw[←hA3]at hs
   have hm3:=hm
   exact⟨⟨i+1,y2⟩,by dsimp only;omega,⟨by dsimp only;omega,hy1,by dsimp only;omega,hp2.trans hYp,hYl.step hm3,fun gn e=>hm3.nown (hYo gn e),(sb_ hs),hmB.trans hm3⟩⟩
  ·obtain rfl:i=l.length:=by omega
   have hm:=hmB
   refine gsce98_ ?_;clear hs hm a;intros;rename_i w a hm hs
   exact And.intro rfl ⟨Y,hYi,by omega,hYp,(sb_ hs),hmB⟩
 clear hs hZm hZl hZn hZi hZ1 hZ2 hmB a
 rintro a w ⟨Z2,hZi,hZn,hZp,hs,hmB⟩
 obtain⟨M1,hM1⟩:∃M1,Z2.M gr gj jc X=M1:=⟨_,rfl⟩
 have hm:Mm (own M1) w (Z2.M gr gj jc X) w:=by rw[←hM1];exact hmB.rebase
 unfold RS.M RD.hp RD.cs at hm
 refine gsce98_ ?_;clear hs hm a;intros;rename_i a hm hs
 refine cLoop (X:=EdX) (fun Y a w=>Y.i≤4∧Y.z.inv w0 B gr gj jc X w∧Y.z.n≤n+4+Y.i∧Y.z.r.p=r.p∧Sl Tryz.f93.ntmps [(0,pt gr),(1,.int .i64 (t:Int)),(36,.slice (some ⟨gj,0,none⟩) 4 jc),(37,.int .i64 ((4:Nat):Int)),(38,.int .i64 (Y.i:Int))] a∧Mm (own M0) wB (Y.z.M gr gj jc X) w) (fun Y=>4-Y.i) ⟨0,Z2⟩ ⟨Nat.zero_le _,hZi,by dsimp only;omega,hZp,(sb_ hs),hmB⟩ ?_
 clear hs hm hmB hZi hZn hZp hM1 a
 rintro⟨i,Y⟩ a w ⟨hil,hYi,hYn,hYp,hs,hmB⟩
 dsimp only at hil hYi hYn hYp hs hmB
 obtain⟨M1,hM1⟩:∃M1,Y.M gr gj jc X=M1:=⟨_,rfl⟩
 have hm:Mm (own M1) w (Y.M gr gj jc X) w:=by rw[←hM1];exact hmB.rebase
 unfold RS.M RD.hp RD.cs at hm
 by_cases hlt:i<4
 ·obtain⟨v,hv⟩:∃v,Y.js[i]?=some v:=⟨_,List.getElem?_eq_getElem (by have:=hYi.j.xl;rw[ints_len]at this;omega)⟩
  have hcell:Y.jv[i]?=some (.int .i64 v):=hYi.j.get (by unfold ints;rw[List.getElem?_map,hv];rfl)
  have hjl:=hYi.j.len
  have hjc:=hYi.j.le
  by_cases hvt:v=(t:Int)
  ·obtain⟨h4,gt,hgt,hngt,hmv⟩:=hYi.i.gt
   rw[hM1]at hngt
   have r3:=MO.thr hmv hgt (k:=t) (by omega)
   generalize Y.r.y.ts[t]'_=qk at r3
   unfold ThO.v at r3
   rw[hgt]at hm
   refine gsce98_ ?_;clear hs hm a;intros;rename_i w a hm hs
   rw[←hgt]at hm
   have hmM:Mm (own (Y.M gr gj jc X)) w (Y.M gr gj jc X) w:=by
    have h:Mm (own M1) w (Y.M gr gj jc X) w:=hm
    rw[←hM1]at h
    exact h
   refine st hs rfl rfl rfl (d_call hs rfl rfl rfl (pl 115 rfl) ((wakeS_c w0 B Y gr gj jc X _ _ _ hmM.rebase (hYi.step hmM) hB (by omega)))) ?_;clear hs a;rintro _ w3 ⟨y2,hy1,hy2,hn2,hjs2,hjv2,hp2⟩ a hs
   have hm3:=(hmB.trans hmM).trans hy2
   obtain⟨M2,hM2⟩:∃M2,y2.M gr gj jc X=M2:=⟨_,rfl⟩
   clear hm
   have hm:Mm (own M2) w3 (y2.M gr gj jc X) w3:=by rw[←hM2];exact hm3.rebase
   unfold RS.M RD.hp RD.cs at hm
   rw[hjv2]at hm
   refine gsce98_ ?_;clear hs hm a;intros;rename_i w a hm hs
   have hmF:Mm (own M2) w3 (RS.M {y2 with js:=Y.js.set i (-1),jv:=Y.jv.set i (.int .i64 (-1))} gr gj jc X) w:=by
    exact hm
   have hmG:Mm (own (y2.M gr gj jc X)) w3 (RS.M {y2 with js:=Y.js.set i (-1),jv:=Y.jv.set i (.int .i64 (-1))} gr gj jc X) w:=by
    have h:=hmF
    rw[←hM2]at h
    exact h
   exact⟨⟨i+1,{y2 with js:=Y.js.set i (-1),jv:=Y.jv.set i (.int .i64 (-1))}⟩,by dsimp only;omega,⟨by dsimp only;omega,⟨by dsimp only;rw[show ints (Y.js.set i (-1))=(ints Y.js).set i (.int .i64 (-1))from List.map_set];exact hYi.j.set _ _,hy1.i.step hmG,hy1.row,hy1.one⟩,by dsimp only;omega,hp2.trans hYp,(sb_ hs),hm3.trans hmG⟩⟩
  ·refine gsce98_ ?_;clear hs hm a;intros;rename_i a hm hs
   exact⟨⟨i+1,Y⟩,by dsimp only;omega,⟨by dsimp only;omega,hYi,by dsimp only;omega,hYp,(sb_ hs),hmB⟩⟩
 ·obtain rfl:i=4:=by omega
  refine gsce98_ ?_;clear hs hm a;intros;rename_i a hm hs
  refine gEnd tab hs rfl .nil ?_
  exact⟨Y,hYi,hmB,by omega,hYp⟩
end Go.Proofs.YtbjffoojenpmfaaGreat
