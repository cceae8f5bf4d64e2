/- Texts put together: Tac4, Tab, Sga, Eng14, Dck, Dck2. -/
import Derived.Test.YtbjffoojenpmfaaGreatRows
import Derived.Laws.StructEq
import Derived.Test.YtbjffoojenpmfaaGreatMgSOb
set_option maxRecDepth 20000
set_option maxHeartbeats 64000000
namespace Go.Proofs.YtbjffoojenpmfaaGreat
open Go.RowKit
theorem dg149e_{G H:Prop}(k:H)(s:Bx H→G:=by intro k_;(repeat(first|(refine tTake t_ hs rfl (by kernel_rfl) gw_ rfl rfl (by intro w hm;replace hm:Mm _ _ _ w:=hm;(first|exact kvR_|exact kb2_)) (hm.sub sub_) ?_;(try clear t_ hs a);intro t_ a hs)|(refine tTakeN t_ hs rfl (by kernel_rfl) rfl rfl rfl rfl rfl rfl rfl (hm.sub sub_) ?_;(try clear t_ hs a);intro t_ a hs)|(refine tTakeU t_ hs rfl (by kernel_rfl) rfl rfl rfl rfl rfl rfl (hm.sub sub_) ?_;(try clear t_ hs a);intro t_ a hs)|(refine tE1 t_ ?_;(try clear t_);intro t_)|(refine nx_ t_ rfl ?_;have t_:=t_;first|(refine oDo hs rfl gw_ rfl rfl da_ ?_;(try clear hs hm a);rintro _ w_ ⟨g_,rfl,-,hm⟩ a hs;refine⟨(hm.sub sub_),?_⟩)|(refine oDoN hs rfl gw_ rfl ds_ ?_;(try clear hs hm a);rintro-w_ hm a hs;refine⟨(hm.sub sub_),?_⟩)|(refine oDoV hs rfl gw_ rfl rfl (by exact klR_) ?_;(try clear hs a);intro a hs;refine⟨(hm.sub sub_),?_⟩))));have y_:=t_;clear t_;(first|(have m_:=hm;have s_:=hs;have z_:=y_;clear hs;(try clear hm);revert m_ s_ z_ a)|((first|refine rexd_ hs hm ?_|refine rexb_ hs hm ?_);intro a hm hs;have z_:=y_;revert hm hs z_ a));(try revert w_);(repeat revert g_);exact k_.h):G:=s ⟨k⟩
theorem dg2657_{G H:Prop}(k:H)(s:Bx H→G:=by intro k_;(repeat(first|(refine tTakeB false t_ hs rfl (by kernel_rfl) (by kernel_rfl) gw_ rfl rfl (by intro w _;exact kv_) bu_ ?_;(try clear t_ hs a);intro t_ a hs)|(refine tTakeB true t_ hs rfl (by kernel_rfl) (by kernel_rfl) gw_ rfl rfl (by intro w hm;replace hm:Mm _ _ _ w:=hm rfl;exact kl_) bu_ ?_;(try clear t_ hs a);intro t_ a hs)|(refine tE1B t_ ?_;(try clear t_);intro t_)|(refine nx_ t_ rfl ?_;have t_:=t_;first|(refine oDoB hs rfl gw_ rfl rfl da_ ?_;(try clear hs hm a);rintro _ w_ ⟨g_,rfl,-,hm⟩ a hs;refine⟨bu_,?_⟩)|(refine oDoNB hs rfl gw_ rfl ds_ ?_;(try clear hs hm a);rintro-w_ hm a hs;refine⟨bu_,?_⟩)|(refine oDoVB hs rfl gw_ rfl rfl (by exact kl_) ?_;(try clear hs a);intro a hs;refine⟨bu_,?_⟩))));have y_:=t_;clear t_;(first|(have m_:=hm;have s_:=hs;have z_:=y_;clear hs;(try clear hm);revert m_ s_ z_ a)|((first|refine rexd_ hs hm ?_|refine rexb_ hs hm ?_);intro a hm hs;have z_:=y_;revert hm hs z_ a));(try revert w_);(repeat revert g_);exact k_.h):G:=s ⟨k⟩
theorem dg2c00_{G H:Prop}(k:H)(s:Bx H→G:=by intro k_;(repeat(first|(refine tTake t_ hs rfl (by kernel_rfl) gw_ rfl rfl (by intro w hm;replace hm:Mm _ _ _ w:=hm;(first|exact kvR_|exact r_min hs rfl rfl rfl|exact kb2_)) (hm.sub sub_) ?_;(try clear t_ hs a);intro t_ a hs)|(refine tTakeN t_ hs rfl (by kernel_rfl) rfl rfl rfl rfl rfl rfl rfl (hm.sub sub_) ?_;(try clear t_ hs a);intro t_ a hs)|(refine tTakeU t_ hs rfl (by kernel_rfl) rfl rfl rfl rfl rfl rfl (hm.sub sub_) ?_;(try clear t_ hs a);intro t_ a hs)|(refine tE1 t_ ?_;(try clear t_);intro t_)|(refine nx_ t_ rfl ?_;have t_:=t_;first|(refine oDo hs rfl gw_ rfl rfl da_ ?_;(try clear hs hm a);rintro _ w_ ⟨g_,rfl,-,hm⟩ a hs;refine⟨(hm.sub sub_),?_⟩)|(refine oDoN hs rfl gw_ rfl ds_ ?_;(try clear hs hm a);rintro-w_ hm a hs;refine⟨(hm.sub sub_),?_⟩)|(refine oDoV hs rfl gw_ rfl rfl (by exact klR_) ?_;(try clear hs a);intro a hs;refine⟨(hm.sub sub_),?_⟩))));have y_:=t_;clear t_;(first|(have m_:=hm;have s_:=hs;have z_:=y_;clear hs;(try clear hm);revert m_ s_ z_ a)|((first|refine rexd_ hs hm ?_|refine rexb_ hs hm ?_);intro a hm hs;have z_:=y_;revert hm hs z_ a));(try revert w_);(repeat revert g_);exact k_.h):G:=s ⟨k⟩
theorem dg6140_{G H:Prop}(k:H)(s:Bx H→G:=by intro k_;(repeat(first|(refine tTake t_ hs rfl (by kernel_rfl) gw_ rfl rfl (by intro w hm;replace hm:Mm _ _ _ w:=hm;(first|exact kvR_|exact r_quo64 hs rfl rfl rfl (by omega) (by omega)|exact r_quo hs rfl rfl rfl (by omega)|exact r_remH hs rfl rfl rfl (by assumption) (by omega) (by omega)|exact r_rem64 hs rfl rfl rfl (by omega) (by omega)|exact r_rem hs rfl rfl rfl (by omega)|exact kb2_|exact r_sliceArr hs rfl rfl tab rfl rfl rfl|exact r_sliceArrTo hs rfl rfl rfl tab rfl rfl rfl (by omega) (by omega)|exact r_sliceTo hs rfl rfl rfl tab rfl rfl rfl (by omega) (by omega)|exact r_sliceN2 hs rfl rfl rfl rfl tab rfl rfl rfl (by omega) (by omega) (by omega)|exact r_sliceF2 hs rfl rfl rfl tab rfl rfl rfl (by omega) (by omega))) (hm.sub sub_) ?_;(try clear t_ hs a);intro t_ a hs)|(refine tTakeN t_ hs rfl (by kernel_rfl) rfl rfl rfl rfl rfl rfl rfl (hm.sub sub_) ?_;(try clear t_ hs a);intro t_ a hs)|(refine tTakeU t_ hs rfl (by kernel_rfl) rfl rfl rfl rfl rfl rfl (hm.sub sub_) ?_;(try clear t_ hs a);intro t_ a hs)|(refine tE1 t_ ?_;(try clear t_);intro t_)|(refine nx_ t_ rfl ?_;have t_:=t_;first|(refine oDo hs rfl gw_ rfl rfl da_ ?_;(try clear hs hm a);rintro _ w_ ⟨g_,rfl,-,hm⟩ a hs;refine⟨(hm.sub sub_),?_⟩)|(refine oDoN hs rfl gw_ rfl ds_ ?_;(try clear hs hm a);rintro-w_ hm a hs;refine⟨(hm.sub sub_),?_⟩)|(refine oDoV hs rfl gw_ rfl rfl (by exact klR_) ?_;(try clear hs a);intro a hs;refine⟨(hm.sub sub_),?_⟩))));have y_:=t_;clear t_;(first|(have m_:=hm;have s_:=hs;have z_:=y_;clear hs;(try clear hm);revert m_ s_ z_ a)|((first|refine rexd_ hs hm ?_|refine rexb_ hs hm ?_);intro a hm hs;have z_:=y_;revert hm hs z_ a));(try revert w_);(repeat revert g_);exact k_.h):G:=s ⟨k⟩
theorem dg6d05_{G H:Prop}(k:H)(s:Bx H→G:=by intro k_;(repeat(first|(refine tTake t_ hs rfl (by kernel_rfl) gw_ rfl rfl (by intro w hm;replace hm:Mm _ _ _ w:=hm;(first|exact kvR_|exact ksl_)) (hm.sub sub_) ?_;(try clear t_ hs a);intro t_ a hs)|(refine tTakeN t_ hs rfl (by kernel_rfl) rfl rfl rfl rfl rfl rfl rfl (hm.sub sub_) ?_;(try clear t_ hs a);intro t_ a hs)|(refine tTakeU t_ hs rfl (by kernel_rfl) rfl rfl rfl rfl rfl rfl (hm.sub sub_) ?_;(try clear t_ hs a);intro t_ a hs)|(refine tE1 t_ ?_;(try clear t_);intro t_)|(refine nx_ t_ rfl ?_;have t_:=t_;first|(refine oDo hs rfl gw_ rfl rfl da_ ?_;(try clear hs hm a);rintro _ w_ ⟨g_,rfl,-,hm⟩ a hs;refine⟨(hm.sub sub_),?_⟩)|(refine oDoN hs rfl gw_ rfl ds_ ?_;(try clear hs hm a);rintro-w_ hm a hs;refine⟨(hm.sub sub_),?_⟩)|(refine oDoV hs rfl gw_ rfl rfl (by exact klR_) ?_;(try clear hs a);intro a hs;refine⟨(hm.sub sub_),?_⟩))));have y_:=t_;clear t_;(first|(have m_:=hm;have s_:=hs;have z_:=y_;clear hs;(try clear hm);revert m_ s_ z_ a)|((first|refine rexd_ hs hm ?_|refine rexb_ hs hm ?_);intro a hm hs;have z_:=y_;revert hm hs z_ a));(try revert w_);(repeat revert g_);exact k_.h):G:=s ⟨k⟩
theorem dg75f8_{G H:Prop}(k:H)(s:Bx H→G:=by intro k_;(repeat(first|(refine tTake t_ hs rfl (by kernel_rfl) gw_ rfl rfl (by intro w hm;replace hm:Mm _ _ _ w:=hm;(first|exact kv_|exact kb2_)) (hm.sub sub_) ?_;(try clear t_ hs a);intro t_ a hs)|(refine tTakeN t_ hs rfl (by kernel_rfl) rfl rfl rfl rfl rfl rfl rfl (hm.sub sub_) ?_;(try clear t_ hs a);intro t_ a hs)|(refine tTakeU t_ hs rfl (by kernel_rfl) rfl rfl rfl rfl rfl rfl (hm.sub sub_) ?_;(try clear t_ hs a);intro t_ a hs)|(refine tE1 t_ ?_;(try clear t_);intro t_)|(refine nx_ t_ rfl ?_;have t_:=t_;first|(refine oDo hs rfl gw_ rfl rfl da_ ?_;(try clear hs hm a);rintro _ w_ ⟨g_,rfl,-,hm⟩ a hs;refine⟨(hm.sub sub_),?_⟩)|(refine oDoN hs rfl gw_ rfl ds_ ?_;(try clear hs hm a);rintro-w_ hm a hs;refine⟨(hm.sub sub_),?_⟩)|(refine oDoV hs rfl gw_ rfl rfl (by exact kl_) ?_;(try clear hs a);intro a hs;refine⟨(hm.sub sub_),?_⟩))));have y_:=t_;clear t_;(first|(have m_:=hm;have s_:=hs;have z_:=y_;clear hs;(try clear hm);revert m_ s_ z_ a)|((first|refine rexd_ hs hm ?_|refine rexb_ hs hm ?_);intro a hm hs;have z_:=y_;revert hm hs z_ a));(try revert w_);(repeat revert g_);exact k_.h):G:=s ⟨k⟩
theorem dg7dd6_{G H:Prop}(k:H)(s:Bx H→G:=by intro k_;(repeat(first|(refine tTake t_ hs rfl (by kernel_rfl) gw_ rfl rfl (by intro w hm;replace hm:Mm _ _ _ w:=hm;(first|exact kvR_|exact kb2_|exact ksl_)) (hm.sub sub_) ?_;(try clear t_ hs a);intro t_ a hs)|(refine tTakeN t_ hs rfl (by kernel_rfl) rfl rfl rfl rfl rfl rfl rfl (hm.sub sub_) ?_;(try clear t_ hs a);intro t_ a hs)|(refine tTakeU t_ hs rfl (by kernel_rfl) rfl rfl rfl rfl rfl rfl (hm.sub sub_) ?_;(try clear t_ hs a);intro t_ a hs)|(refine tE1 t_ ?_;(try clear t_);intro t_)|(refine nx_ t_ rfl ?_;have t_:=t_;first|(refine oDo hs rfl gw_ rfl rfl da_ ?_;(try clear hs hm a);rintro _ w_ ⟨g_,rfl,-,hm⟩ a hs;refine⟨(hm.sub sub_),?_⟩)|(refine oDoN hs rfl gw_ rfl ds_ ?_;(try clear hs hm a);rintro-w_ hm a hs;refine⟨(hm.sub sub_),?_⟩)|(refine oDoV hs rfl gw_ rfl rfl (by exact klR_) ?_;(try clear hs a);intro a hs;refine⟨(hm.sub sub_),?_⟩))));have y_:=t_;clear t_;(first|(have m_:=hm;have s_:=hs;have z_:=y_;clear hs;(try clear hm);revert m_ s_ z_ a)|((first|refine rexd_ hs hm ?_|refine rexb_ hs hm ?_);intro a hm hs;have z_:=y_;revert hm hs z_ a));(try revert w_);(repeat revert g_);exact k_.h):G:=s ⟨k⟩
theorem dg81ac_{G H:Prop}(k:H)(s:Bx H→G:=by intro k_;(repeat(first|(refine tTake t_ hs rfl (by kernel_rfl) gw_ rfl rfl (by intro w hm;replace hm:Mm _ _ _ w:=hm;(first|exact kvR_|exact r_neqSt (fl:=[(true,0,5),(true,1,23)]) hs rfl rfl rfl tab (by kernel_rfl) (by kernel_rfl) (by kernel_rfl) (by kernel_rfl) rfl)) (hm.sub sub_) ?_;(try clear t_ hs a);intro t_ a hs)|(refine tTakeN t_ hs rfl (by kernel_rfl) rfl rfl rfl rfl rfl rfl rfl (hm.sub sub_) ?_;(try clear t_ hs a);intro t_ a hs)|(refine tTakeU t_ hs rfl (by kernel_rfl) rfl rfl rfl rfl rfl rfl (hm.sub sub_) ?_;(try clear t_ hs a);intro t_ a hs)|(refine tE1 t_ ?_;(try clear t_);intro t_)|(refine nx_ t_ rfl ?_;have t_:=t_;first|(refine oDo hs rfl gw_ rfl rfl da_ ?_;(try clear hs hm a);rintro _ w_ ⟨g_,rfl,-,hm⟩ a hs;refine⟨(hm.sub sub_),?_⟩)|(refine oDoN hs rfl gw_ rfl ds_ ?_;(try clear hs hm a);rintro-w_ hm a hs;refine⟨(hm.sub sub_),?_⟩)|(refine oDoV hs rfl gw_ rfl rfl (by exact klR_) ?_;(try clear hs a);intro a hs;refine⟨(hm.sub sub_),?_⟩))));have y_:=t_;clear t_;(first|(have m_:=hm;have s_:=hs;have z_:=y_;clear hs;(try clear hm);revert m_ s_ z_ a)|((first|refine rexd_ hs hm ?_|refine rexb_ hs hm ?_);intro a hm hs;have z_:=y_;revert hm hs z_ a));(try revert w_);(repeat revert g_);exact k_.h):G:=s ⟨k⟩
theorem dg9546_{G H:Prop}(k:H)(s:Bx H→G:=by intro k_;(repeat(first|(refine tTake t_ hs rfl (by kernel_rfl) gw_ rfl rfl (by intro w hm;replace hm:Mm _ _ _ w:=hm;exact kvR_) (hm.sub sub_) ?_;(try clear t_ hs a);intro t_ a hs)|(refine tTakeN t_ hs rfl (by kernel_rfl) rfl rfl rfl rfl rfl rfl rfl (hm.sub sub_) ?_;(try clear t_ hs a);intro t_ a hs)|(refine tTakeU t_ hs rfl (by kernel_rfl) rfl rfl rfl rfl rfl rfl (hm.sub sub_) ?_;(try clear t_ hs a);intro t_ a hs)|(refine tE1 t_ ?_;(try clear t_);intro t_)|(refine nx_ t_ rfl ?_;have t_:=t_;first|(refine oDo hs rfl gw_ rfl rfl da_ ?_;(try clear hs hm a);rintro _ w_ ⟨g_,rfl,-,hm⟩ a hs;refine⟨(hm.sub sub_),?_⟩)|(refine oDoN hs rfl gw_ rfl ds_ ?_;(try clear hs hm a);rintro-w_ hm a hs;refine⟨(hm.sub sub_),?_⟩)|(refine oDoV hs rfl gw_ rfl rfl (by exact klR_) ?_;(try clear hs a);intro a hs;refine⟨(hm.sub sub_),?_⟩))));have y_:=t_;clear t_;(first|(have m_:=hm;have s_:=hs;have z_:=y_;clear hs;(try clear hm);revert m_ s_ z_ a)|((first|refine rexd_ hs hm ?_|refine rexb_ hs hm ?_);intro a hm hs;have z_:=y_;revert hm hs z_ a));(try revert w_);(repeat revert g_);exact k_.h):G:=s ⟨k⟩
theorem dg95fa_{G H:Prop}(k:H)(s:Bx H→G:=by intro k_;(repeat(first|(refine tTakeB false t_ hs rfl (by kernel_rfl) (by kernel_rfl) gw_ rfl rfl (by intro w _;(first|exact kvR_|exact kb2_|exact r_loadO hs rfl rfl tab rfl rfl rfl hm (by repeat(first|exact mH|apply mT)) (by assumption))) bu_ ?_;(try clear t_ hs a);intro t_ a hs)|(refine tTakeB true t_ hs rfl (by kernel_rfl) (by kernel_rfl) gw_ rfl rfl (by intro w hm;replace hm:Mm _ _ _ w:=hm rfl;(first|exact klR_|exact r_loadO hs rfl rfl tab rfl rfl rfl hm (by repeat(first|exact mH|apply mT)) (by assumption))) bu_ ?_;(try clear t_ hs a);intro t_ a hs)|(refine tE1B t_ ?_;(try clear t_);intro t_)|(refine nx_ t_ rfl ?_;have t_:=t_;first|(refine oDoB hs rfl gw_ rfl rfl da_ ?_;(try clear hs hm a);rintro _ w_ ⟨g_,rfl,-,hm⟩ a hs;refine⟨bu_,?_⟩)|(refine oDoNB hs rfl gw_ rfl ds_ ?_;(try clear hs hm a);rintro-w_ hm a hs;refine⟨bu_,?_⟩)|(refine oDoVB hs rfl gw_ rfl rfl (by(first|exact klR_|exact r_loadO hs rfl rfl tab rfl rfl rfl hm (by repeat(first|exact mH|apply mT)) (by assumption))) ?_;(try clear hs a);intro a hs;refine⟨bu_,?_⟩))));have y_:=t_;clear t_;(first|(have m_:=hm;have s_:=hs;have z_:=y_;clear hs;(try clear hm);revert m_ s_ z_ a)|((first|refine rexd_ hs hm ?_|refine rexb_ hs hm ?_);intro a hm hs;have z_:=y_;revert hm hs z_ a));(try revert w_);(repeat revert g_);exact k_.h):G:=s ⟨k⟩
theorem dgc949_{G H:Prop}(k:H)(s:Bx H→G:=by intro k_;(repeat(first|(refine tTakeB false t_ hs rfl (by kernel_rfl) (by kernel_rfl) gw_ rfl rfl (by intro w _;(first|exact kvR_|exact r_remH hs rfl rfl rfl (by assumption) (by omega) (by omega)|exact r_rem64 hs rfl rfl rfl (by omega) (by omega)|exact r_rem hs rfl rfl rfl (by omega)|exact r_loadO hs rfl rfl tab rfl rfl rfl hm (by repeat(first|exact mH|apply mT)) (by assumption))) bu_ ?_;(try clear t_ hs a);intro t_ a hs)|(refine tTakeB true t_ hs rfl (by kernel_rfl) (by kernel_rfl) gw_ rfl rfl (by intro w hm;replace hm:Mm _ _ _ w:=hm rfl;exact klR_) bu_ ?_;(try clear t_ hs a);intro t_ a hs)|(refine tE1B t_ ?_;(try clear t_);intro t_)|(refine nx_ t_ rfl ?_;have t_:=t_;first|(refine oDoB hs rfl gw_ rfl rfl da_ ?_;(try clear hs hm a);rintro _ w_ ⟨g_,rfl,-,hm⟩ a hs;refine⟨bu_,?_⟩)|(refine oDoNB hs rfl gw_ rfl ds_ ?_;(try clear hs hm a);rintro-w_ hm a hs;refine⟨bu_,?_⟩)|(refine oDoVB hs rfl gw_ rfl rfl (by exact klR_) ?_;(try clear hs a);intro a hs;refine⟨bu_,?_⟩))));have y_:=t_;clear t_;(first|(have m_:=hm;have s_:=hs;have z_:=y_;clear hs;(try clear hm);revert m_ s_ z_ a)|((first|refine rexd_ hs hm ?_|refine rexb_ hs hm ?_);intro a hm hs;have z_:=y_;revert hm hs z_ a));(try revert w_);(repeat revert g_);exact k_.h):G:=s ⟨k⟩
theorem dgca31_{G H:Prop}(k:H)(s:Bx H→G:=by intro k_;(repeat(first|(refine tTake t_ hs rfl (by kernel_rfl) gw_ rfl rfl (by intro w hm;replace hm:Mm _ _ _ w:=hm;(first|exact kvR_|exact r_loadO hs rfl rfl tab rfl rfl rfl hm (by repeat(first|exact mH|apply mT)) (by assumption))) (hm.sub sub_) ?_;(try clear t_ hs a);intro t_ a hs)|(refine tTakeN t_ hs rfl (by kernel_rfl) rfl rfl rfl rfl rfl rfl rfl (hm.sub sub_) ?_;(try clear t_ hs a);intro t_ a hs)|(refine tTakeU t_ hs rfl (by kernel_rfl) rfl rfl rfl rfl rfl rfl (hm.sub sub_) ?_;(try clear t_ hs a);intro t_ a hs)|(refine tE1 t_ ?_;(try clear t_);intro t_)|(refine nx_ t_ rfl ?_;have t_:=t_;first|(refine oDo hs rfl gw_ rfl rfl da_ ?_;(try clear hs hm a);rintro _ w_ ⟨g_,rfl,-,hm⟩ a hs;refine⟨(hm.sub sub_),?_⟩)|(refine oDoN hs rfl gw_ rfl ds_ ?_;(try clear hs hm a);rintro-w_ hm a hs;refine⟨(hm.sub sub_),?_⟩)|(refine oDoV hs rfl gw_ rfl rfl (by exact klR_) ?_;(try clear hs a);intro a hs;refine⟨(hm.sub sub_),?_⟩))));have y_:=t_;clear t_;(first|(have m_:=hm;have s_:=hs;have z_:=y_;clear hs;(try clear hm);revert m_ s_ z_ a)|((first|refine rexd_ hs hm ?_|refine rexb_ hs hm ?_);intro a hm hs;have z_:=y_;revert hm hs z_ a));(try revert w_);(repeat revert g_);exact k_.h):G:=s ⟨k⟩
theorem dgd265_{G H:Prop}(k:H)(s:Bx H→G:=by intro k_;(repeat(first|(refine tTakeB false t_ hs rfl (by kernel_rfl) (by kernel_rfl) gw_ rfl rfl (by intro w _;(first|exact kvR_|exact kb2_|exact ksl_)) bu_ ?_;(try clear t_ hs a);intro t_ a hs)|(refine tTakeB true t_ hs rfl (by kernel_rfl) (by kernel_rfl) gw_ rfl rfl (by intro w hm;replace hm:Mm _ _ _ w:=hm rfl;exact klR_) bu_ ?_;(try clear t_ hs a);intro t_ a hs)|(refine tE1B t_ ?_;(try clear t_);intro t_)|(refine nx_ t_ rfl ?_;have t_:=t_;first|(refine oDoB hs rfl gw_ rfl rfl da_ ?_;(try clear hs hm a);rintro _ w_ ⟨g_,rfl,-,hm⟩ a hs;refine⟨bu_,?_⟩)|(refine oDoNB hs rfl gw_ rfl ds_ ?_;(try clear hs hm a);rintro-w_ hm a hs;refine⟨bu_,?_⟩)|(refine oDoVB hs rfl gw_ rfl rfl (by exact klR_) ?_;(try clear hs a);intro a hs;refine⟨bu_,?_⟩))));have y_:=t_;clear t_;(first|(have m_:=hm;have s_:=hs;have z_:=y_;clear hs;(try clear hm);revert m_ s_ z_ a)|((first|refine rexd_ hs hm ?_|refine rexb_ hs hm ?_);intro a hm hs;have z_:=y_;revert hm hs z_ a));(try revert w_);(repeat revert g_);exact k_.h):G:=s ⟨k⟩
theorem dgd799_{G H:Prop}(k:H)(s:Bx H→G:=by intro k_;(repeat(first|(refine tTake t_ hs rfl (by kernel_rfl) gw_ rfl rfl (by intro w hm;replace hm:Mm _ _ _ w:=hm;(first|exact kvR_|exact kb2_|exact r_loadO hs rfl rfl tab rfl rfl rfl hm (by repeat(first|exact mH|apply mT)) (by assumption))) (hm.sub sub_) ?_;(try clear t_ hs a);intro t_ a hs)|(refine tTakeN t_ hs rfl (by kernel_rfl) rfl rfl rfl rfl rfl rfl rfl (hm.sub sub_) ?_;(try clear t_ hs a);intro t_ a hs)|(refine tTakeU t_ hs rfl (by kernel_rfl) rfl rfl rfl rfl rfl rfl (hm.sub sub_) ?_;(try clear t_ hs a);intro t_ a hs)|(refine tE1 t_ ?_;(try clear t_);intro t_)|(refine nx_ t_ rfl ?_;have t_:=t_;first|(refine oDo hs rfl gw_ rfl rfl da_ ?_;(try clear hs hm a);rintro _ w_ ⟨g_,rfl,-,hm⟩ a hs;refine⟨(hm.sub sub_),?_⟩)|(refine oDoN hs rfl gw_ rfl ds_ ?_;(try clear hs hm a);rintro-w_ hm a hs;refine⟨(hm.sub sub_),?_⟩)|(refine oDoV hs rfl gw_ rfl rfl (by(first|exact klR_|exact r_loadO hs rfl rfl tab rfl rfl rfl hm (by repeat(first|exact mH|apply mT)) (by assumption))) ?_;(try clear hs a);intro a hs;refine⟨(hm.sub sub_),?_⟩))));have y_:=t_;clear t_;(first|(have m_:=hm;have s_:=hs;have z_:=y_;clear hs;(try clear hm);revert m_ s_ z_ a)|((first|refine rexd_ hs hm ?_|refine rexb_ hs hm ?_);intro a hm hs;have z_:=y_;revert hm hs z_ a));(try revert w_);(repeat revert g_);exact k_.h):G:=s ⟨k⟩
theorem dgdadf_{G H:Prop}(k:H)(s:Bx H→G:=by intro k_;(repeat(first|(refine tTake t_ hs rfl (by kernel_rfl) gw_ rfl rfl (by intro w hm;replace hm:Mm _ _ _ w:=hm;exact kv_) (hm.sub sub_) ?_;(try clear t_ hs a);intro t_ a hs)|(refine tTakeN t_ hs rfl (by kernel_rfl) rfl rfl rfl rfl rfl rfl rfl (hm.sub sub_) ?_;(try clear t_ hs a);intro t_ a hs)|(refine tTakeU t_ hs rfl (by kernel_rfl) rfl rfl rfl rfl rfl rfl (hm.sub sub_) ?_;(try clear t_ hs a);intro t_ a hs)|(refine tE1 t_ ?_;(try clear t_);intro t_)|(refine nx_ t_ rfl ?_;have t_:=t_;first|(refine oDo hs rfl gw_ rfl rfl da_ ?_;(try clear hs hm a);rintro _ w_ ⟨g_,rfl,-,hm⟩ a hs;refine⟨(hm.sub sub_),?_⟩)|(refine oDoN hs rfl gw_ rfl ds_ ?_;(try clear hs hm a);rintro-w_ hm a hs;refine⟨(hm.sub sub_),?_⟩)|(refine oDoV hs rfl gw_ rfl rfl (by exact kl_) ?_;(try clear hs a);intro a hs;refine⟨(hm.sub sub_),?_⟩))));have y_:=t_;clear t_;(first|(have m_:=hm;have s_:=hs;have z_:=y_;clear hs;(try clear hm);revert m_ s_ z_ a)|((first|refine rexd_ hs hm ?_|refine rexb_ hs hm ?_);intro a hm hs;have z_:=y_;revert hm hs z_ a));(try revert w_);(repeat revert g_);exact k_.h):G:=s ⟨k⟩
theorem dge39a_{G H:Prop}(k:H)(s:Bx H→G:=by intro k_;(repeat(first|(refine tTake t_ hs rfl (by kernel_rfl) gw_ rfl rfl (by intro w hm;replace hm:Mm _ _ _ w:=hm;(first|exact kv_|exact ksl_)) (hm.sub sub_) ?_;(try clear t_ hs a);intro t_ a hs)|(refine tTakeN t_ hs rfl (by kernel_rfl) rfl rfl rfl rfl rfl rfl rfl (hm.sub sub_) ?_;(try clear t_ hs a);intro t_ a hs)|(refine tTakeU t_ hs rfl (by kernel_rfl) rfl rfl rfl rfl rfl rfl (hm.sub sub_) ?_;(try clear t_ hs a);intro t_ a hs)|(refine tE1 t_ ?_;(try clear t_);intro t_)|(refine nx_ t_ rfl ?_;have t_:=t_;first|(refine oDo hs rfl gw_ rfl rfl da_ ?_;(try clear hs hm a);rintro _ w_ ⟨g_,rfl,-,hm⟩ a hs;refine⟨(hm.sub sub_),?_⟩)|(refine oDoN hs rfl gw_ rfl ds_ ?_;(try clear hs hm a);rintro-w_ hm a hs;refine⟨(hm.sub sub_),?_⟩)|(refine oDoV hs rfl gw_ rfl rfl (by exact kl_) ?_;(try clear hs a);intro a hs;refine⟨(hm.sub sub_),?_⟩))));have y_:=t_;clear t_;(first|(have m_:=hm;have s_:=hs;have z_:=y_;clear hs;(try clear hm);revert m_ s_ z_ a)|((first|refine rexd_ hs hm ?_|refine rexb_ hs hm ?_);intro a hm hs;have z_:=y_;revert hm hs z_ a));(try revert w_);(repeat revert g_);exact k_.h):G:=s ⟨k⟩
theorem gq0ba6_{G H:Prop}(k:H)(s:Bx H→G:=by intro k_;(repeat(first|(refine oq_ ?_;(try clear hs a);intro a hs)|((with_reducible apply lCons);first|(refine dv hs gw_ rfl rfl da_ ?_;(try clear hs hm a);rintro _ w_ ⟨g_,rfl,-,hm⟩ a hs)|(refine stn hs rfl rfl ds_ ?_;(try clear hs hm a);rintro-w_ hm a hs))|((with_reducible apply qNil);(try clear hm);intro w_ hm)|refine cQ_ ?_|refine sc_ ?_));(first|(have m_:=hm;have s_:=hs;clear hs;(try clear hm);revert m_ s_ a)|((first|refine rexc_ hs hm ?_|refine rexl_ hs hm ?_|refine rexg_ hs hm ?_|refine rexq_ hs hm ?_);intro a hm hs;revert hm hs a));(try revert w_);(repeat revert g_);exact k_.h):G:=s ⟨k⟩
theorem gq20dc_{G H:Prop}(k:H)(s:Bx H→G:=by intro k_;(repeat(first|(refine oq8d44_ ?_;(try clear hs a);intro a hs)|((with_reducible apply lCons);first|(refine dv hs gw_ rfl rfl da_ ?_;(try clear hs hm a);rintro _ w_ ⟨g_,rfl,-,hm⟩ a hs)|(refine stn hs rfl rfl ds_ ?_;(try clear hs hm a);rintro-w_ hm a hs))|((with_reducible apply qNil);(try clear hm);intro w_ hm)|refine cQ_ ?_|refine sc_ ?_));(first|(have m_:=hm;have s_:=hs;clear hs;(try clear hm);revert m_ s_ a)|((first|refine rexc_ hs hm ?_|refine rexl_ hs hm ?_|refine rexg_ hs hm ?_|refine rexq_ hs hm ?_);intro a hm hs;revert hm hs a));(try revert w_);(repeat revert g_);exact k_.h):G:=s ⟨k⟩
theorem gqb0e8_{G H:Prop}(k:H)(s:Bx H→G:=by intro k_;(repeat(first|(refine oqR_ ?_;(try clear hs a);intro a hs)|((with_reducible apply lCons);first|(refine dv hs gw_ rfl rfl da_ ?_;(try clear hs hm a);rintro _ w_ ⟨g_,rfl,-,hm⟩ a hs)|(refine stn hs rfl rfl ds_ ?_;(try clear hs hm a);rintro-w_ hm a hs))|((with_reducible apply qNil);(try clear hm);intro w_ hm)|refine cQ_ ?_|refine sc_ ?_));(first|(have m_:=hm;have s_:=hs;clear hs;(try clear hm);revert m_ s_ a)|((first|refine rexc_ hs hm ?_|refine rexl_ hs hm ?_|refine rexg_ hs hm ?_|refine rexq_ hs hm ?_);intro a hm hs;revert hm hs a));(try revert w_);(repeat revert g_);exact k_.h):G:=s ⟨k⟩
theorem gqb114_{G H:Prop}(k:H)(s:Bx H→G:=by intro k_;(repeat(first|(refine oqc4ee_ ?_;(try clear hs a);intro a hs)|((with_reducible apply lCons);first|(refine dv hs gw_ rfl rfl da_ ?_;(try clear hs hm a);rintro _ w_ ⟨g_,rfl,-,hm⟩ a hs)|(refine stn hs rfl rfl ds_ ?_;(try clear hs hm a);rintro-w_ hm a hs))|((with_reducible apply qNil);(try clear hm);intro w_ hm)|refine cQ_ ?_|refine sc_ ?_));(first|(have m_:=hm;have s_:=hs;clear hs;(try clear hm);revert m_ s_ a)|((first|refine rexc_ hs hm ?_|refine rexl_ hs hm ?_|refine rexg_ hs hm ?_|refine rexq_ hs hm ?_);intro a hm hs;revert hm hs a));(try revert w_);(repeat revert g_);exact k_.h):G:=s ⟨k⟩
theorem gs088d_{G H:Prop}(k:H)(s:Bx H→G:=by intro k_;(repeat(first|(refine ov701a_ ?_;(try clear hs a);intro a hs)|((with_reducible apply lCons);first|(refine dv hs gw_ rfl rfl (by first|exact da_|exact d_makeSlice hs rfl rfl rfl tab rfl rfl rfl rfl rfl (by omega) rfl hm) ?_;(try clear hs hm a);rintro _ w_ ⟨g_,rfl,-,hm⟩ a hs)|(refine stn hs rfl rfl ds_ ?_;(try clear hs hm a);rintro-w_ hm a hs))|refine sc_ ?_));(first|(have m_:=hm;have s_:=hs;clear hs;(try clear hm);revert m_ s_ a)|((first|refine rexc_ hs hm ?_|refine rexl_ hs hm ?_|refine rexg_ hs hm ?_|refine rexq_ hs hm ?_);intro a hm hs;revert hm hs a));(try revert w_);(repeat revert g_);exact k_.h):G:=s ⟨k⟩
theorem gs0d2a_{G H:Prop}(k:H)(s:Bx H→G:=by intro k_;(repeat(first|(refine ovd7a0_ ?_;(try clear hs a);intro a hs)|((with_reducible apply lCons);first|(refine dv hs gw_ rfl rfl da_ ?_;(try clear hs hm a);rintro _ w_ ⟨g_,rfl,-,hm⟩ a hs)|(refine stn hs rfl rfl ds_ ?_;(try clear hs hm a);rintro-w_ hm a hs))|refine sc_ ?_));(first|(have m_:=hm;have s_:=hs;clear hs;(try clear hm);revert m_ s_ a)|((first|refine rexc_ hs hm ?_|refine rexl_ hs hm ?_|refine rexg_ hs hm ?_|refine rexq_ hs hm ?_);intro a hm hs;revert hm hs a));(try revert w_);(repeat revert g_);exact k_.h):G:=s ⟨k⟩
theorem gs3375_{G H:Prop}(k:H)(s:Bx H→G:=by intro k_;(repeat(first|(refine ov2663_ ?_;(try clear hs a);intro a hs)|((with_reducible apply lCons);first|(refine dv hs gw_ rfl rfl da_ ?_;(try clear hs hm a);rintro _ w_ ⟨g_,rfl,-,hm⟩ a hs)|(refine stn hs rfl rfl ds_ ?_;(try clear hs hm a);rintro-w_ hm a hs))|refine sc_ ?_));(first|(have m_:=hm;have s_:=hs;clear hs;(try clear hm);revert m_ s_ a)|((first|refine rexc_ hs hm ?_|refine rexl_ hs hm ?_|refine rexg_ hs hm ?_|refine rexq_ hs hm ?_);intro a hm hs;revert hm hs a));(try revert w_);(repeat revert g_);exact k_.h):G:=s ⟨k⟩
theorem gs377c_{G H:Prop}(k:H)(s:Bx H→G:=by intro k_;(repeat(first|(refine ovaca9_ ?_;(try clear hs a);intro a hs)|((with_reducible apply lCons);first|(refine dv hs gw_ rfl rfl da_ ?_;(try clear hs hm a);rintro _ w_ ⟨g_,rfl,-,hm⟩ a hs)|(refine stn hs rfl rfl ds_ ?_;(try clear hs hm a);rintro-w_ hm a hs))|refine sc_ ?_));(first|(have m_:=hm;have s_:=hs;clear hs;(try clear hm);revert m_ s_ a)|((first|refine rexc_ hs hm ?_|refine rexl_ hs hm ?_|refine rexg_ hs hm ?_|refine rexq_ hs hm ?_);intro a hm hs;revert hm hs a));(try revert w_);(repeat revert g_);exact k_.h):G:=s ⟨k⟩
theorem gs575d_{G H:Prop}(k:H)(s:Bx H→G:=by intro k_;(repeat(first|(refine ov6211_ ?_;(try clear hs a);intro a hs)|((with_reducible apply lCons);first|(refine dv hs gw_ rfl rfl da_ ?_;(try clear hs hm a);rintro _ w_ ⟨g_,rfl,-,hm⟩ a hs)|(refine stn hs rfl rfl ds_ ?_;(try clear hs hm a);rintro-w_ hm a hs))|refine sc_ ?_));(first|(have m_:=hm;have s_:=hs;clear hs;(try clear hm);revert m_ s_ a)|((first|refine rexc_ hs hm ?_|refine rexl_ hs hm ?_|refine rexg_ hs hm ?_|refine rexq_ hs hm ?_);intro a hm hs;revert hm hs a));(try revert w_);(repeat revert g_);exact k_.h):G:=s ⟨k⟩
theorem gs5c3d_{G H:Prop}(k:H)(s:Bx H→G:=by intro k_;(repeat(first|(refine ov169a_ ?_;(try clear hs a);intro a hs)|((with_reducible apply lCons);first|(refine dv hs gw_ rfl rfl da_ ?_;(try clear hs hm a);rintro _ w_ ⟨g_,rfl,-,hm⟩ a hs)|(refine stn hs rfl rfl ds_ ?_;(try clear hs hm a);rintro-w_ hm a hs))|refine sc_ ?_));(first|(have m_:=hm;have s_:=hs;clear hs;(try clear hm);revert m_ s_ a)|((first|refine rexc_ hs hm ?_|refine rexl_ hs hm ?_|refine rexg_ hs hm ?_|refine rexq_ hs hm ?_);intro a hm hs;revert hm hs a));(try revert w_);(repeat revert g_);exact k_.h):G:=s ⟨k⟩
theorem gs5eea_{G H:Prop}(k:H)(s:Bx H→G:=by intro k_;(repeat(first|(refine oveb52_ ?_;(try clear hs a);intro a hs)|((with_reducible apply lCons);first|(refine dv hs gw_ rfl rfl da_ ?_;(try clear hs hm a);rintro _ w_ ⟨g_,rfl,-,hm⟩ a hs)|(refine stn hs rfl rfl ds_ ?_;(try clear hs hm a);rintro-w_ hm a hs))|refine sc_ ?_));(first|(have m_:=hm;have s_:=hs;clear hs;(try clear hm);revert m_ s_ a)|((first|refine rexc_ hs hm ?_|refine rexl_ hs hm ?_|refine rexg_ hs hm ?_|refine rexq_ hs hm ?_);intro a hm hs;revert hm hs a));(try revert w_);(repeat revert g_);exact k_.h):G:=s ⟨k⟩
theorem gs6b74_{G H:Prop}(k:H)(s:Bx H→G:=by intro k_;(repeat(first|(refine ov6fb2_ ?_;(try clear hs a);intro a hs)|((with_reducible apply lCons);first|(refine dv hs gw_ rfl rfl da_ ?_;(try clear hs hm a);rintro _ w_ ⟨g_,rfl,-,hm⟩ a hs)|(refine stn hs rfl rfl ds_ ?_;(try clear hs hm a);rintro-w_ hm a hs))|refine sc_ ?_));(first|(have m_:=hm;have s_:=hs;clear hs;(try clear hm);revert m_ s_ a)|((first|refine rexc_ hs hm ?_|refine rexl_ hs hm ?_|refine rexg_ hs hm ?_|refine rexq_ hs hm ?_);intro a hm hs;revert hm hs a));(try revert w_);(repeat revert g_);exact k_.h):G:=s ⟨k⟩
theorem gs730d_{G H:Prop}(k:H)(s:Bx H→G:=by intro k_;(repeat(first|(refine ovR_ ?_;(try clear hs a);intro a hs)|((with_reducible apply lCons);first|(refine dv hs gw_ rfl rfl da_ ?_;(try clear hs hm a);rintro _ w_ ⟨g_,rfl,-,hm⟩ a hs)|(refine stn hs rfl rfl ds_ ?_;(try clear hs hm a);rintro-w_ hm a hs))));(first|(have m_:=hm;have s_:=hs;clear hs;(try clear hm);revert m_ s_ a)|((first|refine rexc_ hs hm ?_|refine rexl_ hs hm ?_|refine rexg_ hs hm ?_|refine rexq_ hs hm ?_);intro a hm hs;revert hm hs a));(try revert w_);(repeat revert g_);exact k_.h):G:=s ⟨k⟩
theorem gs76db_{G H:Prop}(k:H)(s:Bx H→G:=by intro k_;(repeat(first|(refine ov9ea5_ ?_;(try clear hs a);intro a hs)|((with_reducible apply lCons);first|(refine dv hs gw_ rfl rfl da_ ?_;(try clear hs hm a);rintro _ w_ ⟨g_,rfl,-,hm⟩ a hs)|(refine stn hs rfl rfl ds_ ?_;(try clear hs hm a);rintro-w_ hm a hs))|refine sc_ ?_));(first|(have m_:=hm;have s_:=hs;clear hs;(try clear hm);revert m_ s_ a)|((first|refine rexc_ hs hm ?_|refine rexl_ hs hm ?_|refine rexg_ hs hm ?_|refine rexq_ hs hm ?_);intro a hm hs;revert hm hs a));(try revert w_);(repeat revert g_);exact k_.h):G:=s ⟨k⟩
theorem gs87a7_{G H:Prop}(k:H)(s:Bx H→G:=by intro k_;(repeat(first|(refine ov_ ?_;(try clear hs a);intro a hs)|((with_reducible apply lCons);first|(refine dv hs gw_ rfl rfl da_ ?_;(try clear hs hm a);rintro _ w_ ⟨g_,rfl,-,hm⟩ a hs)|(refine stn hs rfl rfl ds_ ?_;(try clear hs hm a);rintro-w_ hm a hs))|refine sc_ ?_));(first|(have m_:=hm;have s_:=hs;clear hs;(try clear hm);revert m_ s_ a)|((first|refine rexc_ hs hm ?_|refine rexl_ hs hm ?_|refine rexg_ hs hm ?_|refine rexq_ hs hm ?_);intro a hm hs;revert hm hs a));(try revert w_);(repeat revert g_);exact k_.h):G:=s ⟨k⟩
theorem gs9a29_{G H:Prop}(k:H)(s:Bx H→G:=by intro k_;(repeat(first|(refine ov79a8_ ?_;(try clear hs a);intro a hs)|((with_reducible apply lCons);first|(refine dv hs gw_ rfl rfl da_ ?_;(try clear hs hm a);rintro _ w_ ⟨g_,rfl,-,hm⟩ a hs)|(refine stn hs rfl rfl ds_ ?_;(try clear hs hm a);rintro-w_ hm a hs))|refine sc_ ?_));(first|(have m_:=hm;have s_:=hs;clear hs;(try clear hm);revert m_ s_ a)|((first|refine rexc_ hs hm ?_|refine rexl_ hs hm ?_|refine rexg_ hs hm ?_|refine rexq_ hs hm ?_);intro a hm hs;revert hm hs a));(try revert w_);(repeat revert g_);exact k_.h):G:=s ⟨k⟩
theorem gs9cbd_{G H:Prop}(k:H)(s:Bx H→G:=by intro k_;(repeat(first|(refine ovb8aa_ ?_;(try clear hs a);intro a hs)|((with_reducible apply lCons);first|(refine dv hs gw_ rfl rfl da_ ?_;(try clear hs hm a);rintro _ w_ ⟨g_,rfl,-,hm⟩ a hs)|(refine stn hs rfl rfl ds_ ?_;(try clear hs hm a);rintro-w_ hm a hs))|refine sc_ ?_));(first|(have m_:=hm;have s_:=hs;clear hs;(try clear hm);revert m_ s_ a)|((first|refine rexc_ hs hm ?_|refine rexl_ hs hm ?_|refine rexg_ hs hm ?_|refine rexq_ hs hm ?_);intro a hm hs;revert hm hs a));(try revert w_);(repeat revert g_);exact k_.h):G:=s ⟨k⟩
theorem gsab4d_{G H:Prop}(k:H)(s:Bx H→G:=by intro k_;(repeat(first|(refine ove28a_ ?_;(try clear hs a);intro a hs)|((with_reducible apply lCons);first|(refine dv hs gw_ rfl rfl da_ ?_;(try clear hs hm a);rintro _ w_ ⟨g_,rfl,-,hm⟩ a hs)|(refine stn hs rfl rfl ds_ ?_;(try clear hs hm a);rintro-w_ hm a hs))|refine sc_ ?_));(first|(have m_:=hm;have s_:=hs;clear hs;(try clear hm);revert m_ s_ a)|((first|refine rexc_ hs hm ?_|refine rexl_ hs hm ?_|refine rexg_ hs hm ?_|refine rexq_ hs hm ?_);intro a hm hs;revert hm hs a));(try revert w_);(repeat revert g_);exact k_.h):G:=s ⟨k⟩
theorem gsac6a_{G H:Prop}(k:H)(s:Bx H→G:=by intro k_;(repeat(first|(refine ovadf2_ ?_;(try clear hs a);intro a hs)|((with_reducible apply lCons);first|(refine dv hs gw_ rfl rfl da_ ?_;(try clear hs hm a);rintro _ w_ ⟨g_,rfl,-,hm⟩ a hs)|(refine stn hs rfl rfl ds_ ?_;(try clear hs hm a);rintro-w_ hm a hs))|refine sc_ ?_));(first|(have m_:=hm;have s_:=hs;clear hs;(try clear hm);revert m_ s_ a)|((first|refine rexc_ hs hm ?_|refine rexl_ hs hm ?_|refine rexg_ hs hm ?_|refine rexq_ hs hm ?_);intro a hm hs;revert hm hs a));(try revert w_);(repeat revert g_);exact k_.h):G:=s ⟨k⟩
theorem gsb147_{G H:Prop}(k:H)(s:Bx H→G:=by intro k_;(repeat(first|(refine ovf6da_ ?_;(try clear hs a);intro a hs)|((with_reducible apply lCons);first|(refine dv hs gw_ rfl rfl da_ ?_;(try clear hs hm a);rintro _ w_ ⟨g_,rfl,-,hm⟩ a hs)|(refine stn hs rfl rfl ds_ ?_;(try clear hs hm a);rintro-w_ hm a hs))|refine sc_ ?_));(first|(have m_:=hm;have s_:=hs;clear hs;(try clear hm);revert m_ s_ a)|((first|refine rexc_ hs hm ?_|refine rexl_ hs hm ?_|refine rexg_ hs hm ?_|refine rexq_ hs hm ?_);intro a hm hs;revert hm hs a));(try revert w_);(repeat revert g_);exact k_.h):G:=s ⟨k⟩
theorem gsb5fb_{G H:Prop}(k:H)(s:Bx H→G:=by intro k_;(repeat(first|(refine ov2c7d_ ?_;(try clear hs a);intro a hs)|((with_reducible apply lCons);first|(refine dv hs gw_ rfl rfl da_ ?_;(try clear hs hm a);rintro _ w_ ⟨g_,rfl,-,hm⟩ a hs)|(refine stn hs rfl rfl ds_ ?_;(try clear hs hm a);rintro-w_ hm a hs))|refine sc_ ?_));(first|(have m_:=hm;have s_:=hs;clear hs;(try clear hm);revert m_ s_ a)|((first|refine rexc_ hs hm ?_|refine rexl_ hs hm ?_|refine rexg_ hs hm ?_|refine rexq_ hs hm ?_);intro a hm hs;revert hm hs a));(try revert w_);(repeat revert g_);exact k_.h):G:=s ⟨k⟩
theorem gsb785_{G H:Prop}(k:H)(s:Bx H→G:=by intro k_;(repeat(first|(refine ov47e8_ ?_;(try clear hs a);intro a hs)|((with_reducible apply lCons);first|(refine dv hs gw_ rfl rfl da_ ?_;(try clear hs hm a);rintro _ w_ ⟨g_,rfl,-,hm⟩ a hs)|(refine stn hs rfl rfl ds_ ?_;(try clear hs hm a);rintro-w_ hm a hs))|refine sc_ ?_));(first|(have m_:=hm;have s_:=hs;clear hs;(try clear hm);revert m_ s_ a)|((first|refine rexc_ hs hm ?_|refine rexl_ hs hm ?_|refine rexg_ hs hm ?_|refine rexq_ hs hm ?_);intro a hm hs;revert hm hs a));(try revert w_);(repeat revert g_);exact k_.h):G:=s ⟨k⟩
theorem gsc373_{G H:Prop}(k:H)(s:Bx H→G:=by intro k_;(repeat(first|(refine ov_ ?_;(try clear hs a);intro a hs)|((with_reducible apply lCons);first|(refine dv hs gw_ rfl rfl (by first|exact da_|exact d_makeSlice hs rfl rfl rfl tab rfl rfl rfl rfl rfl (by omega) rfl hm) ?_;(try clear hs hm a);rintro _ w_ ⟨g_,rfl,-,hm⟩ a hs)|(refine stn hs rfl rfl ds_ ?_;(try clear hs hm a);rintro-w_ hm a hs))|refine sc_ ?_));(first|(have m_:=hm;have s_:=hs;clear hs;(try clear hm);revert m_ s_ a)|((first|refine rexc_ hs hm ?_|refine rexl_ hs hm ?_|refine rexg_ hs hm ?_|refine rexq_ hs hm ?_);intro a hm hs;revert hm hs a));(try revert w_);(repeat revert g_);exact k_.h):G:=s ⟨k⟩
theorem gsc5af_{G H:Prop}(k:H)(s:Bx H→G:=by intro k_;(repeat(first|(refine ov701a_ ?_;(try clear hs a);intro a hs)|((with_reducible apply lCons);first|(refine dv hs gw_ rfl rfl da_ ?_;(try clear hs hm a);rintro _ w_ ⟨g_,rfl,-,hm⟩ a hs)|(refine stn hs rfl rfl ds_ ?_;(try clear hs hm a);rintro-w_ hm a hs))|refine sc_ ?_));(first|(have m_:=hm;have s_:=hs;clear hs;(try clear hm);revert m_ s_ a)|((first|refine rexc_ hs hm ?_|refine rexl_ hs hm ?_|refine rexg_ hs hm ?_|refine rexq_ hs hm ?_);intro a hm hs;revert hm hs a));(try revert w_);(repeat revert g_);exact k_.h):G:=s ⟨k⟩
theorem gsce98_{G H:Prop}(k:H)(s:Bx H→G:=by intro k_;(repeat(first|(refine ovR_ ?_;(try clear hs a);intro a hs)|((with_reducible apply lCons);first|(refine dv hs gw_ rfl rfl da_ ?_;(try clear hs hm a);rintro _ w_ ⟨g_,rfl,-,hm⟩ a hs)|(refine stn hs rfl rfl ds_ ?_;(try clear hs hm a);rintro-w_ hm a hs))|refine sc_ ?_));(first|(have m_:=hm;have s_:=hs;clear hs;(try clear hm);revert m_ s_ a)|((first|refine rexc_ hs hm ?_|refine rexl_ hs hm ?_|refine rexg_ hs hm ?_|refine rexq_ hs hm ?_);intro a hm hs;revert hm hs a));(try revert w_);(repeat revert g_);exact k_.h):G:=s ⟨k⟩
theorem gsd389_{G H:Prop}(k:H)(s:Bx H→G:=by intro k_;(repeat(first|(refine ovdc5f_ ?_;(try clear hs a);intro a hs)|((with_reducible apply lCons);first|(refine dv hs gw_ rfl rfl da_ ?_;(try clear hs hm a);rintro _ w_ ⟨g_,rfl,-,hm⟩ a hs)|(refine stn hs rfl rfl ds_ ?_;(try clear hs hm a);rintro-w_ hm a hs))|refine sc_ ?_));(first|(have m_:=hm;have s_:=hs;clear hs;(try clear hm);revert m_ s_ a)|((first|refine rexc_ hs hm ?_|refine rexl_ hs hm ?_|refine rexg_ hs hm ?_|refine rexq_ hs hm ?_);intro a hm hs;revert hm hs a));(try revert w_);(repeat revert g_);exact k_.h):G:=s ⟨k⟩
theorem gsdfd4_{G H:Prop}(k:H)(s:Bx H→G:=by intro k_;(repeat(first|(refine ovR_ ?_;(try clear hs a);intro a hs)|((with_reducible apply lCons);first|(refine dv hs gw_ rfl rfl (by first|exact da_|exact d_makeSlice hs rfl rfl rfl tab rfl rfl rfl rfl rfl (by omega) rfl hm) ?_;(try clear hs hm a);rintro _ w_ ⟨g_,rfl,-,hm⟩ a hs)|(refine stn hs rfl rfl ds_ ?_;(try clear hs hm a);rintro-w_ hm a hs))|refine sc_ ?_));(first|(have m_:=hm;have s_:=hs;clear hs;(try clear hm);revert m_ s_ a)|((first|refine rexc_ hs hm ?_|refine rexl_ hs hm ?_|refine rexg_ hs hm ?_|refine rexq_ hs hm ?_);intro a hm hs;revert hm hs a));(try revert w_);(repeat revert g_);exact k_.h):G:=s ⟨k⟩
theorem gsf098_{G H:Prop}(k:H)(s:Bx H→G:=by intro k_;(repeat(first|(refine ov1015_ ?_;(try clear hs a);intro a hs)|((with_reducible apply lCons);first|(refine dv hs gw_ rfl rfl da_ ?_;(try clear hs hm a);rintro _ w_ ⟨g_,rfl,-,hm⟩ a hs)|(refine stn hs rfl rfl ds_ ?_;(try clear hs hm a);rintro-w_ hm a hs))|refine sc_ ?_));(first|(have m_:=hm;have s_:=hs;clear hs;(try clear hm);revert m_ s_ a)|((first|refine rexc_ hs hm ?_|refine rexl_ hs hm ?_|refine rexg_ hs hm ?_|refine rexq_ hs hm ?_);intro a hm hs;revert hm hs a));(try revert w_);(repeat revert g_);exact k_.h):G:=s ⟨k⟩
theorem oq227d_{G H:Prop}(k:H)(s:H→G:=by intro k;(with_reducible first|refine toL hm ?_|refine toQ ?_);first|exact oneV hs gw_ rfl rfl (by intro w hm;(first|exact kvR_|exact r_min hs rfl rfl rfl)) k|exact oneN hs rfl rfl rfl rfl rfl rfl rfl k|exact oneU hs rfl rfl rfl rfl rfl rfl k):G:=s k
theorem oq2d6d_{G H:Prop}(k:H)(s:H→G:=by intro k;(with_reducible first|refine toL hm ?_|refine toQ ?_);first|exact oneV hs gw_ rfl rfl (by intro w hm;(first|exact kvR_|exact kb2_|exact r_sidx hs rfl rfl rfl tab rfl rfl (by assumption))) k|exact oneN hs rfl rfl rfl rfl rfl rfl rfl k|exact oneU hs rfl rfl rfl rfl rfl rfl k):G:=s k
theorem oq8d44_{G H:Prop}(k:H)(s:H→G:=by intro k;(with_reducible first|refine toL hm ?_|refine toQ ?_);first|exact oneV hs gw_ rfl rfl (by intro w hm;(first|exact kvR_|exact kb2_)) k|exact oneN hs rfl rfl rfl rfl rfl rfl rfl k|exact oneU hs rfl rfl rfl rfl rfl rfl k):G:=s k
theorem oqa646_{G H:Prop}(k:H)(s:H→G:=by intro k;(with_reducible first|refine toL hm ?_|refine toQ ?_);first|exact oneV hs gw_ rfl rfl (by intro w hm;(first|exact kvR_|exact r_min hs rfl rfl rfl|exact kb2_|exact ksl_|exact r_sliceGN hs rfl rfl rfl rfl tab rfl rfl rfl (by omega) (by omega))) k|exact oneN hs rfl rfl rfl rfl rfl rfl rfl k|exact oneU hs rfl rfl rfl rfl rfl rfl k):G:=s k
theorem oqa85c_{G H:Prop}(k:H)(s:H→G:=by intro k;(with_reducible first|refine toL hm ?_|refine toQ ?_);first|exact oneV hs gw_ rfl rfl (by intro w hm;(first|exact kvR_|exact r_sidx hs rfl rfl rfl tab rfl rfl (by assumption))) k|exact oneN hs rfl rfl rfl rfl rfl rfl rfl k|exact oneU hs rfl rfl rfl rfl rfl rfl k):G:=s k
theorem oqc4ee_{G H:Prop}(k:H)(s:H→G:=by intro k;(with_reducible first|refine toL hm ?_|refine toQ ?_);first|exact oneV hs gw_ rfl rfl (by intro w hm;(first|exact kvR_|exact r_neqSt (fl:=[(true,0,5),(true,1,23)]) hs rfl rfl rfl tab (by kernel_rfl) (by kernel_rfl) (by kernel_rfl) (by kernel_rfl) rfl)) k|exact oneN hs rfl rfl rfl rfl rfl rfl rfl k|exact oneU hs rfl rfl rfl rfl rfl rfl k):G:=s k
theorem oqde87_{G H:Prop}(k:H)(s:H→G:=by intro k;(with_reducible first|refine toL hm ?_|refine toQ ?_);first|exact oneV hs gw_ rfl rfl (by intro w hm;(first|exact kvR_|exact r_remH hs rfl rfl rfl (by assumption) (by omega) (by omega)|exact r_rem64 hs rfl rfl rfl (by omega) (by omega)|exact r_rem hs rfl rfl rfl (by omega))) k|exact oneN hs rfl rfl rfl rfl rfl rfl rfl k|exact oneU hs rfl rfl rfl rfl rfl rfl k):G:=s k
theorem ov1015_{G H:Prop}(k:H)(s:H→G:=by intro k;(with_reducible refine toL hm ?_);first|exact oneV hs gw_ rfl rfl (by intro w hm;(first|exact kvR_|exact r_quo64 hs rfl rfl rfl (by omega) (by omega)|exact r_quo hs rfl rfl rfl (by omega)|exact r_remH hs rfl rfl rfl (by assumption) (by omega) (by omega)|exact r_rem64 hs rfl rfl rfl (by omega) (by omega)|exact r_rem hs rfl rfl rfl (by omega)|exact kb2_|exact r_sliceArr hs rfl rfl tab rfl rfl rfl|exact r_sliceArrTo hs rfl rfl rfl tab rfl rfl rfl (by omega) (by omega)|exact r_sliceTo hs rfl rfl rfl tab rfl rfl rfl (by omega) (by omega)|exact r_sliceN2 hs rfl rfl rfl rfl tab rfl rfl rfl (by omega) (by omega) (by omega)|exact r_sliceF2 hs rfl rfl rfl tab rfl rfl rfl (by omega) (by omega))) k|exact oneN hs rfl rfl rfl rfl rfl rfl rfl k|exact oneU hs rfl rfl rfl rfl rfl rfl k):G:=s k
theorem ov169a_{G H:Prop}(k:H)(s:H→G:=by intro k;(with_reducible refine toL hm ?_);first|exact oneV hs gw_ rfl rfl (by intro w hm;(first|exact kvR_|exact r_min hs rfl rfl rfl|exact r_cutFG hs rfl rfl rfl tab rfl rfl rfl (by omega)|exact r_cutTG hs rfl rfl rfl tab rfl rfl rfl (by omega))) k|exact oneN hs rfl rfl rfl rfl rfl rfl rfl k|exact oneU hs rfl rfl rfl rfl rfl rfl k):G:=s k
theorem ov1817_{G H:Prop}(k:H)(s:H→G:=by intro k;(with_reducible refine toL hm ?_);first|exact oneV hs gw_ rfl rfl (by intro w hm;(first|exact kvR_|exact kb2_|exact r_sidx hs rfl rfl rfl tab rfl rfl (by assumption))) k|exact oneN hs rfl rfl rfl rfl rfl rfl rfl k|exact oneU hs rfl rfl rfl rfl rfl rfl k):G:=s k
theorem ov2663_{G H:Prop}(k:H)(s:H→G:=by intro k;(with_reducible refine toL hm ?_);first|exact oneV hs gw_ rfl rfl (by intro w hm;(first|exact kvR_|exact kb2_|exact r_loadO hs rfl rfl tab rfl rfl rfl hm (by repeat(first|exact mH|apply mT)) (by assumption))) k|exact oneN hs rfl rfl rfl rfl rfl rfl rfl k|exact oneU hs rfl rfl rfl rfl rfl rfl k):G:=s k
theorem ov2c7d_{G H:Prop}(k:H)(s:H→G:=by intro k;(with_reducible refine toL hm ?_);first|exact oneV hs gw_ rfl rfl (by intro w hm;(first|exact kvR_|exact r_loadO hs rfl rfl tab rfl rfl rfl hm (by repeat(first|exact mH|apply mT)) (by assumption))) k|exact oneN hs rfl rfl rfl rfl rfl rfl rfl k|exact oneU hs rfl rfl rfl rfl rfl rfl k):G:=s k
theorem ov47e8_{G H:Prop}(k:H)(s:H→G:=by intro k;(with_reducible refine toL hm ?_);first|exact oneV hs gw_ rfl rfl (by intro w hm;(first|exact kvR_|exact r_min hs rfl rfl rfl|exact kb2_)) k|exact oneN hs rfl rfl rfl rfl rfl rfl rfl k|exact oneU hs rfl rfl rfl rfl rfl rfl k):G:=s k
theorem ov5a1a_{G H:Prop}(k:H)(s:H→G:=by intro k;(with_reducible refine toL hm ?_);first|exact oneV hs gw_ rfl rfl (by intro w hm;(first|exact kvR_|exact r_quo64 hs rfl rfl rfl (by omega) (by omega)|exact r_quo hs rfl rfl rfl (by omega)|exact r_shl hs rfl rfl rfl (by omega)|exact r_shr hs rfl rfl rfl (by omega)|exact r_remH hs rfl rfl rfl (by assumption) (by omega) (by omega)|exact r_rem64 hs rfl rfl rfl (by omega) (by omega)|exact r_rem hs rfl rfl rfl (by omega))) k|exact oneN hs rfl rfl rfl rfl rfl rfl rfl k|exact oneU hs rfl rfl rfl rfl rfl rfl k):G:=s k
theorem ov6211_{G H:Prop}(k:H)(s:H→G:=by intro k;(with_reducible refine toL hm ?_);first|exact oneV hs gw_ rfl rfl (by intro w hm;(first|exact kvR_|exact r_min hs rfl rfl rfl)) k|exact oneN hs rfl rfl rfl rfl rfl rfl rfl k|exact oneU hs rfl rfl rfl rfl rfl rfl k):G:=s k
theorem ov6fb2_{G H:Prop}(k:H)(s:H→G:=by intro k;(with_reducible refine toL hm ?_);first|exact oneV hs gw_ rfl rfl (by intro w hm;(first|exact kvR_|exact ksl_)) k|exact oneN hs rfl rfl rfl rfl rfl rfl rfl k|exact oneU hs rfl rfl rfl rfl rfl rfl k):G:=s k
theorem ov701a_{G H:Prop}(k:H)(s:H→G:=by intro k;(with_reducible refine toL hm ?_);first|exact oneV hs gw_ rfl rfl (by intro w hm;(first|exact kvR_|exact kb2_)) k|exact oneN hs rfl rfl rfl rfl rfl rfl rfl k|exact oneU hs rfl rfl rfl rfl rfl rfl k):G:=s k
theorem ov79a8_{G H:Prop}(k:H)(s:H→G:=by intro k;(with_reducible refine toL hm ?_);first|exact oneV hs gw_ rfl rfl (by intro w hm;(first|exact kvR_|exact r_sidx hs rfl rfl rfl tab rfl rfl (by assumption))) k|exact oneN hs rfl rfl rfl rfl rfl rfl rfl k|exact oneU hs rfl rfl rfl rfl rfl rfl k):G:=s k
theorem ov9ea5_{G H:Prop}(k:H)(s:H→G:=by intro k;(with_reducible refine toL hm ?_);first|exact oneV hs gw_ rfl rfl (by intro w hm;(first|exact kvR_|exact r_min hs rfl rfl rfl|exact kb2_|exact ksl_|exact r_sliceGN hs rfl rfl rfl rfl tab rfl rfl rfl (by omega) (by omega))) k|exact oneN hs rfl rfl rfl rfl rfl rfl rfl k|exact oneU hs rfl rfl rfl rfl rfl rfl k):G:=s k
theorem ovaca9_{G H:Prop}(k:H)(s:H→G:=by intro k;(with_reducible refine toL hm ?_);first|exact oneV hs gw_ rfl rfl (by intro w hm;(first|exact kvR_|exact r_quo64 hs rfl rfl rfl (by omega) (by omega)|exact r_quo hs rfl rfl rfl (by omega)|exact r_remH hs rfl rfl rfl (by assumption) (by omega) (by omega)|exact r_rem64 hs rfl rfl rfl (by omega) (by omega)|exact r_rem hs rfl rfl rfl (by omega)|exact r_loadO hs rfl rfl tab rfl rfl rfl hm (by repeat(first|exact mH|apply mT)) (by assumption))) k|exact oneN hs rfl rfl rfl rfl rfl rfl rfl k|exact oneU hs rfl rfl rfl rfl rfl rfl k):G:=s k
theorem ovadf2_{G H:Prop}(k:H)(s:H→G:=by intro k;(with_reducible refine toL hm ?_);first|exact oneV hs gw_ rfl rfl (by intro w hm;(first|exact kvR_|exact r_remH hs rfl rfl rfl (by assumption) (by omega) (by omega)|exact r_rem64 hs rfl rfl rfl (by omega) (by omega)|exact r_rem hs rfl rfl rfl (by omega))) k|exact oneN hs rfl rfl rfl rfl rfl rfl rfl k|exact oneU hs rfl rfl rfl rfl rfl rfl k):G:=s k
theorem ovb8aa_{G H:Prop}(k:H)(s:H→G:=by intro k;(with_reducible refine toL hm ?_);first|exact oneV hs gw_ rfl rfl (by intro w hm;(first|exact kv_|exact r_remH hs rfl rfl rfl (by assumption) (by omega) (by omega)|exact r_rem64 hs rfl rfl rfl (by omega) (by omega)|exact r_rem hs rfl rfl rfl (by omega))) k|exact oneN hs rfl rfl rfl rfl rfl rfl rfl k|exact oneU hs rfl rfl rfl rfl rfl rfl k):G:=s k
theorem ovd7a0_{G H:Prop}(k:H)(s:H→G:=by intro k;(with_reducible refine toL hm ?_);first|exact oneV hs gw_ rfl rfl (by intro w hm;(first|exact kv_|exact ksl_)) k|exact oneN hs rfl rfl rfl rfl rfl rfl rfl k|exact oneU hs rfl rfl rfl rfl rfl rfl k):G:=s k
theorem ovdc5f_{G H:Prop}(k:H)(s:H→G:=by intro k;(with_reducible refine toL hm ?_);first|exact oneV hs gw_ rfl rfl (by intro w hm;(first|exact kvR_|exact r_neqSt (fl:=[(true,0,5),(true,1,23)]) hs rfl rfl rfl tab (by kernel_rfl) (by kernel_rfl) (by kernel_rfl) (by kernel_rfl) rfl)) k|exact oneN hs rfl rfl rfl rfl rfl rfl rfl k|exact oneU hs rfl rfl rfl rfl rfl rfl k):G:=s k
theorem ove28a_{G H:Prop}(k:H)(s:H→G:=by intro k;(with_reducible refine toL hm ?_);first|exact oneV hs gw_ rfl rfl (by intro w hm;(first|exact kvR_|exact kb2_|exact ksl_)) k|exact oneN hs rfl rfl rfl rfl rfl rfl rfl k|exact oneU hs rfl rfl rfl rfl rfl rfl k):G:=s k
theorem oveb52_{G H:Prop}(k:H)(s:H→G:=by intro k;(with_reducible refine toL hm ?_);first|exact oneV hs gw_ rfl rfl (by intro w hm;(first|exact kv_|exact kb2_)) k|exact oneN hs rfl rfl rfl rfl rfl rfl rfl k|exact oneU hs rfl rfl rfl rfl rfl rfl k):G:=s k
theorem ovf6da_{G H:Prop}(k:H)(s:H→G:=by intro k;(with_reducible refine toL hm ?_);first|exact oneV hs gw_ rfl rfl (by intro w hm;(first|exact kvR_|exact r_remH hs rfl rfl rfl (by assumption) (by omega) (by omega)|exact r_rem64 hs rfl rfl rfl (by omega) (by omega)|exact r_rem hs rfl rfl rfl (by omega)|exact r_loadO hs rfl rfl tab rfl rfl rfl hm (by repeat(first|exact mH|apply mT)) (by assumption))) k|exact oneN hs rfl rfl rfl rfl rfl rfl rfl k|exact oneU hs rfl rfl rfl rfl rfl rfl k):G:=s k
theorem z0359_{G:Prop}(h:G:=by exact⟨k+1,by omega,(sb_ hs),hm,by omega⟩):G:=h
theorem z12c7_{G:Prop}(h:G:=by exact gRetN tab hs rfl (.cons (.cells rfl rfl rfl rfl (hm.ro (k:=0) (n:=2) mem_ (cutF_ok rfl))) (.cons (.tmp rfl) .nil)) ⟨rfl,hm.fr⟩):G:=h
theorem z12cd_{G:Prop}(h:G:=by exact List.Sublist.cons _ (List.Sublist.cons _ (List.Sublist.cons _ (List.Sublist.refl _)))):G:=h
theorem z27a2_{G:Prop}(h:G:=by exact gRetN tab hs rfl (.cons (.tmp rfl) (.cons (.tmp rfl) (.cons (.tmp rfl) .nil))) (hno _ hm)):G:=h
theorem z3a12_{G:Prop}(h:G:=by exact gRetN tab hs rfl (.cons (.cells rfl rfl rfl rfl (hm.ro (k:=0) (n:=5) (g:=g8) mem_ (cutF_ok rfl))) (.cons (.tmp rfl) .nil)) (hno _ hm.fr)):G:=h
theorem z4ca6_{G:Prop}(h:G:=by exact gRetN tab hs rfl (.cons (.tmp rfl) (.cons (.tmp rfl) .nil)) ⟨rfl,hm.fr⟩):G:=h
theorem z5095_{G:Prop}(h:G:=by exact gRetN tab hs rfl (.cons (.cells rfl rfl rfl rfl (hm.ro (k:=0) (n:=2) (g:=g6) mem_ (cutF_ok rfl))) (.cons (.tmp rfl) .nil)) (hfin dcs ds ocs os (-1) _ (by omega) rfl hdr hyo.dd hor hyv (hm.sub sub_))):G:=h
theorem z78f3_{G:Prop}(h:G:=by exact gRetN tab hs rfl (.cons (.cells rfl rfl rfl rfl (hm.ro (k:=0) (n:=7) (g:=g4) mem_ (cutF_ok rfl))) .nil) ⟨r.o,r.k,js,jv,valR 0 false,rfl,hjs,hI.step hm',valR_st _ _ _ _,valR_fit _ _,hm'⟩):G:=h
theorem zb443_{G:Prop}(h:G:=by exact gRetN tab hs rfl (.cons (.cells rfl rfl rfl rfl (hm.ro (k:=0) (n:=4) mem_ (cutF_ok rfl))) .nil) ⟨rfl,hm.fr⟩):G:=h
theorem zb7e7_{G:Prop}(h:G:=by exact⟨k+1,by omega,by omega,(sb_ hs),hm⟩):G:=h
theorem zbd11_{G:Prop}(h:G:=by exact List.Sublist.cons _ (List.Sublist.cons_cons _ (List.Sublist.cons_cons _ (List.Sublist.cons _ (List.Sublist.refl _))))):G:=h
theorem zc137_{G:Prop}(h:G:=by exact do_g0 x r wB hx h hr hrv hrk hst (by omega)):G:=h
theorem zd36a_{G:Prop}(h:G:=by exact⟨k+1,by omega,(sb_ hs),hm.sub sub_,by omega⟩):G:=h
theorem zdde0_{G:Prop}(h:G:=by exact gRet1 hs rfl rfl ⟨a9,some g8,2,cs,l,by rw[hln];rfl,by rw[hln,←hcs];exact row_lit (by rw[hcs,flat_len inV 5 inV_len,hln]) (by omega),by omega,by omega,hiv,hm⟩):G:=h
theorem ze382_{G:Prop}(h:G:=by exact⟨k+1,by omega,(sb_ hs),hm.sub (List.nil_sublist _),by omega⟩):G:=h
theorem zfe81_{G:Prop}(h:G:=by exact⟨k+1,by omega,by omega,(sb_ hs),hm.sub sub_⟩):G:=h
end Go.Proofs.YtbjffoojenpmfaaGreat
namespace Go.Proofs.YtbjffoojenpmfaaGreat
def TAB:List (Nat × TI):=[(3,⟨1,8,.int .i64 0,.int .i64⟩),
 (4,⟨1,1,.bool false,.bool⟩),
 (5,⟨1,1,.int .u8 0,.int .u8⟩),
 (9,⟨1,16,.string .empty,.str⟩),
 (22,⟨1,24,.slice none 0 0,.sl 3⟩),
 (23,⟨1,2,.int .u16 0,.int .u16⟩),
 (74,⟨1,24,.slice none 0 0,.sl 23⟩),
 (25,⟨2,32,.agg #[.slice none 0 0,.int .u16 0],.st [(0,22),(1,23)]⟩),
 (26,⟨1,24,.slice none 0 0,.sl 103⟩),
 (27,⟨1,24,.slice none 0 0,.sl 61⟩),
 (29,⟨2,48,.agg #[.slice none 0 0,.slice none 0 0],.st [(0,26),(1,27)]⟩),
 (30,⟨1,24,.slice none 0 0,.sl 52⟩),
 (32,⟨5,104,.agg #[.slice none 0 0,.int .u16 0,.slice none 0 0,.slice none 0 0,.slice none 0 0],.st [(0,25),(2,29),(4,30)]⟩),
 (35,⟨1,24,.slice none 0 0,.sl 54⟩),
 (36,⟨1,24,.slice none 0 0,.sl 74⟩),
 (38,⟨3,72,.agg #[.slice none 0 0,.slice none 0 0,.slice none 0 0],.st [(0,35),(1,22),(2,36)]⟩),
 (41,⟨1,8,.pointer none,.ptr 65⟩),
 (43,⟨1,24,.slice none 0 0,.sl 32⟩),
 (52,⟨8,80,.agg #[.int .i64 0,.slice none 0 0,.int .i64 0,.int .i64 0,.int .i64 0,.int .i64 0,.int .i64 0,.int .u16 0],.st [(0,3),(1,26),(2,3),(3,3),(4,3),(5,3),(6,3),(7,23)]⟩),
 (54,⟨5,40,.agg #[.int .i64 0,.int .i64 0,.int .i64 0,.int .i64 0,.int .i64 0],.st [(0,3),(1,3),(2,3),(3,3),(4,3)]⟩),
 (55,⟨1,8,.int .i64 0,.int .i64⟩),
 (61,⟨3,40,.agg #[.int .i64 0,.bool false,.slice none 0 0],.st [(0,3),(1,4),(2,26)]⟩),
 (65,⟨2,32,.agg #[.slice none 0 0,.int .i64 0],.st [(0,22),(1,3)]⟩),
 (66,⟨1,8,.pointer none,.ptr 52⟩),
 (72,⟨1,8,.pointer none,.ptr 32⟩),
 (75,⟨1,24,.slice none 0 0,.sl 93⟩),
 (76,⟨1,24,.slice none 0 0,.sl 212⟩),
 (78,⟨2,48,.agg #[.slice none 0 0,.slice none 0 0],.st [(0,75),(1,76)]⟩),
 (79,⟨1,24,.slice none 0 0,.sl 192⟩),
 (81,⟨6,144,.agg #[.slice none 0 0,.slice none 0 0,.slice none 0 0,.slice none 0 0,.slice none 0 0,.slice none 0 0],.st [(0,74),(1,74),(2,36),(3,78),(5,79)]⟩),
 (84,⟨2,48,.agg #[.slice none 0 0,.slice none 0 0],.st [(0,22),(1,82)]⟩),
 (85,⟨1,24,.slice none 0 0,.sl 177⟩),
 (87,⟨18,416,.agg #[.slice none 0 0,.slice none 0 0,.slice none 0 0,.slice none 0 0,.int .u16 0,.slice none 0 0,.slice none 0 0,.slice none 0 0,.slice none 0 0,.slice none 0 0,.slice none 0 0,.slice none 0 0,.slice none 0 0,.slice none 0 0,.slice none 0 0,.slice none 0 0,.slice none 0 0,.slice none 0 0],.st [(0,38),(3,32),(8,81),(14,84),(16,85),(17,22)]⟩),
 (89,⟨1,24,.slice none 0 0,.sl 98⟩),
 (91,⟨2,48,.agg #[.slice none 0 0,.slice none 0 0],.st [(0,75),(1,89)]⟩),
 (93,⟨1,24,.slice none 0 0,.sl 95⟩),
 (95,⟨4,24,.agg #[.int .u8 0,.int .u16 0,.int .i64 0,.int .i64 0],.st [(0,5),(1,23),(2,3),(3,3)]⟩),
 (98,⟨8,80,.agg #[.int .i64 0,.int .i64 0,.int .i64 0,.int .i64 0,.int .i64 0,.int .i64 0,.int .u16 0,.slice none 0 0],.st [(0,3),(1,3),(2,3),(3,3),(4,3),(5,3),(6,23),(7,93)]⟩),
 (103,⟨2,4,.agg #[.int .u8 0,.int .u16 0],.st [(0,5),(1,23)]⟩),
 (113,⟨1,8,.pointer none,.ptr 29⟩),
 (124,⟨3,24,.agg #[.int .i64 0,.int .i64 0,.bool false],.st [(0,3),(1,3),(2,4)]⟩),
 (129,⟨2,16,.agg #[.int .i64 0,.int .i64 0],.st [(0,3),(1,3)]⟩),
 (149,⟨1,8,.pointer none,.ptr 61⟩),
 (173,⟨8,96,.agg #[.int .i64 0,.int .i64 0,.int .i64 0,.int .i64 0,.int .i64 0,.int .i64 0,.slice none 0 0,.slice none 0 0],.st [(0,3),(1,3),(2,3),(3,3),(4,3),(5,3),(6,93),(7,93)]⟩),
 (175,⟨7,64,.agg #[.int .u8 0,.int .u16 0,.int .i64 0,.int .i64 0,.slice none 0 0,.int .i64 0,.bool false],.st [(0,95),(4,93),(5,3),(6,4)]⟩),
 (177,⟨18,184,.agg #[.int .i64 0,.int .i64 0,.int .i64 0,.int .i64 0,.int .i64 0,.int .i64 0,.int .i64 0,.int .i64 0,.int .i64 0,.slice none 0 0,.slice none 0 0,.int .u8 0,.int .u16 0,.int .i64 0,.int .i64 0,.slice none 0 0,.int .i64 0,.bool false],.st [(0,3),(1,3),(2,3),(3,173),(11,175)]⟩),
 (181,⟨1,8,.pointer none,.ptr 87⟩),
 (186,⟨4,4,.agg #[.bool false,.bool false,.bool false,.bool false],.arr 4 4⟩),
 (188,⟨1,24,.slice none 0 0,.sl 35⟩),
 (192,⟨3,40,.agg #[.int .i64 0,.int .i64 0,.slice none 0 0],.st [(0,3),(1,3),(2,93)]⟩),
 (212,⟨3,24,.agg #[.int .i64 0,.int .i64 0,.bool false],.st [(0,3),(1,3),(2,4)]⟩),
 (245,⟨1,8,.pointer none,.ptr 212⟩),
 (2,⟨1,8,.int .i64 0,.int .i64⟩),
 (12,⟨1,8,.int .u64 0,.int .u64⟩),
 (13,⟨2,24,.agg #[.string .empty,.int .u64 0],.st [(0,9),(1,12)]⟩),
 (21,⟨1,4,.int .i32 0,.int .i32⟩),
 (24,⟨2,32,.agg #[.slice none 0 0,.int .u16 0],.st [(0,22),(1,23)]⟩),
 (28,⟨2,48,.agg #[.slice none 0 0,.slice none 0 0],.st [(0,26),(1,27)]⟩),
 (31,⟨5,104,.agg #[.slice none 0 0,.int .u16 0,.slice none 0 0,.slice none 0 0,.slice none 0 0],.st [(0,25),(2,29),(4,30)]⟩),
 (37,⟨3,72,.agg #[.slice none 0 0,.slice none 0 0,.slice none 0 0],.st [(0,35),(1,22),(2,36)]⟩),
 (51,⟨8,80,.agg #[.int .i64 0,.slice none 0 0,.int .i64 0,.int .i64 0,.int .i64 0,.int .i64 0,.int .i64 0,.int .u16 0],.st [(0,3),(1,26),(2,3),(3,3),(4,3),(5,3),(6,3),(7,23)]⟩),
 (53,⟨5,40,.agg #[.int .i64 0,.int .i64 0,.int .i64 0,.int .i64 0,.int .i64 0],.st [(0,3),(1,3),(2,3),(3,3),(4,3)]⟩),
 (60,⟨3,40,.agg #[.int .i64 0,.bool false,.slice none 0 0],.st [(0,3),(1,4),(2,26)]⟩),
 (64,⟨2,32,.agg #[.slice none 0 0,.int .i64 0],.st [(0,22),(1,3)]⟩),
 (77,⟨2,48,.agg #[.slice none 0 0,.slice none 0 0],.st [(0,75),(1,76)]⟩),
 (80,⟨6,144,.agg #[.slice none 0 0,.slice none 0 0,.slice none 0 0,.slice none 0 0,.slice none 0 0,.slice none 0 0],.st [(0,74),(1,74),(2,36),(3,78),(5,79)]⟩),
 (82,⟨1,24,.slice none 0 0,.sl 22⟩),
 (83,⟨2,48,.agg #[.slice none 0 0,.slice none 0 0],.st [(0,22),(1,82)]⟩),
 (86,⟨18,416,.agg #[.slice none 0 0,.slice none 0 0,.slice none 0 0,.slice none 0 0,.int .u16 0,.slice none 0 0,.slice none 0 0,.slice none 0 0,.slice none 0 0,.slice none 0 0,.slice none 0 0,.slice none 0 0,.slice none 0 0,.slice none 0 0,.slice none 0 0,.slice none 0 0,.slice none 0 0,.slice none 0 0],.st [(0,38),(3,32),(8,81),(14,84),(16,85),(17,22)]⟩),
 (90,⟨2,48,.agg #[.slice none 0 0,.slice none 0 0],.st [(0,75),(1,89)]⟩),
 (94,⟨4,24,.agg #[.int .u8 0,.int .u16 0,.int .i64 0,.int .i64 0],.st [(0,5),(1,23),(2,3),(3,3)]⟩),
 (97,⟨8,80,.agg #[.int .i64 0,.int .i64 0,.int .i64 0,.int .i64 0,.int .i64 0,.int .i64 0,.int .u16 0,.slice none 0 0],.st [(0,3),(1,3),(2,3),(3,3),(4,3),(5,3),(6,23),(7,93)]⟩),
 (102,⟨2,4,.agg #[.int .u8 0,.int .u16 0],.st [(0,5),(1,23)]⟩),
 (123,⟨3,24,.agg #[.int .i64 0,.int .i64 0,.bool false],.st [(0,3),(1,3),(2,4)]⟩),
 (128,⟨2,16,.agg #[.int .i64 0,.int .i64 0],.st [(0,3),(1,3)]⟩),
 (172,⟨8,96,.agg #[.int .i64 0,.int .i64 0,.int .i64 0,.int .i64 0,.int .i64 0,.int .i64 0,.slice none 0 0,.slice none 0 0],.st [(0,3),(1,3),(2,3),(3,3),(4,3),(5,3),(6,93),(7,93)]⟩),
 (174,⟨7,64,.agg #[.int .u8 0,.int .u16 0,.int .i64 0,.int .i64 0,.slice none 0 0,.int .i64 0,.bool false],.st [(0,95),(4,93),(5,3),(6,4)]⟩),
 (176,⟨18,184,.agg #[.int .i64 0,.int .i64 0,.int .i64 0,.int .i64 0,.int .i64 0,.int .i64 0,.int .i64 0,.int .i64 0,.int .i64 0,.slice none 0 0,.slice none 0 0,.int .u8 0,.int .u16 0,.int .i64 0,.int .i64 0,.slice none 0 0,.int .i64 0,.bool false],.st [(0,3),(1,3),(2,3),(3,173),(11,175)]⟩),
 (191,⟨3,40,.agg #[.int .i64 0,.int .i64 0,.slice none 0 0],.st [(0,3),(1,3),(2,93)]⟩),
 (211,⟨3,24,.agg #[.int .i64 0,.int .i64 0,.bool false],.st [(0,3),(1,3),(2,4)]⟩),
 (254,⟨1,4,.int .u32 0,.int .u32⟩),
 (258,⟨1,8,.pointer none,.ptr 5⟩),
 (1,⟨1,8,.nilFunc,.fn⟩),
 (6,⟨1,1,.int .u8 0,.int .u8⟩),
 (7,⟨4,24,.agg #[.int .i64 0,.int .i64 0,.bool false,.int .u8 0],.st [(0,2),(1,3),(2,4),(3,6)]⟩),
 (8,⟨4,24,.agg #[.int .i64 0,.int .i64 0,.bool false,.int .u8 0],.st [(0,2),(1,3),(2,4),(3,6)]⟩),
 (10,⟨1,16,.string .empty,.str⟩),
 (11,⟨1,16,.string .empty,.str⟩),
 (14,⟨2,24,.agg #[.string .empty,.int .u64 0],.st [(0,9),(1,12)]⟩),
 (15,⟨1,8,.pointer none,.ptr 249⟩),
 (16,⟨1,8,.pointer none,.ptr 252⟩),
 (17,⟨1,8,.pointer none,.ptr 262⟩),
 (18,⟨1,8,.agg #[.pointer none],.st [(0,17)]⟩),
 (19,⟨1,8,.agg #[.pointer none],.st [(0,17)]⟩),
 (33,⟨1,8,.nilFunc,.fn⟩),
 (34,⟨1,8,.nilFunc,.fn⟩),
 (40,⟨1,8,.nilFunc,.fn⟩),
 (42,⟨1,8,.nilFunc,.fn⟩),
 (44,⟨1,8,.nilFunc,.fn⟩),
 (46,⟨1,8,.nilFunc,.fn⟩),
 (47,⟨1,8,.nilFunc,.fn⟩),
 (48,⟨1,8,.nilFunc,.fn⟩),
 (49,⟨1,8,.nilFunc,.fn⟩),
 (50,⟨1,8,.nilFunc,.fn⟩),
 (57,⟨1,8,.nilFunc,.fn⟩),
 (58,⟨1,8,.nilFunc,.fn⟩),
 (59,⟨1,8,.nilFunc,.fn⟩),
 (62,⟨1,8,.nilFunc,.fn⟩),
 (63,⟨1,8,.nilFunc,.fn⟩),
 (67,⟨1,8,.nilFunc,.fn⟩),
 (68,⟨1,8,.nilFunc,.fn⟩),
 (69,⟨1,8,.nilFunc,.fn⟩),
 (70,⟨1,8,.nilFunc,.fn⟩),
 (71,⟨1,8,.nilFunc,.fn⟩),
 (73,⟨1,8,.nilFunc,.fn⟩),
 (88,⟨1,8,.nilFunc,.fn⟩),
 (92,⟨1,8,.nilFunc,.fn⟩),
 (96,⟨1,8,.nilFunc,.fn⟩),
 (99,⟨1,8,.nilFunc,.fn⟩),
 (100,⟨1,8,.nilFunc,.fn⟩),
 (101,⟨1,8,.nilFunc,.fn⟩),
 (104,⟨1,8,.nilFunc,.fn⟩),
 (105,⟨1,8,.nilFunc,.fn⟩),
 (106,⟨1,8,.nilFunc,.fn⟩),
 (107,⟨1,8,.nilFunc,.fn⟩),
 (108,⟨1,8,.nilFunc,.fn⟩),
 (109,⟨1,8,.nilFunc,.fn⟩),
 (111,⟨1,8,.nilFunc,.fn⟩),
 (112,⟨1,8,.nilFunc,.fn⟩),
 (114,⟨1,8,.nilFunc,.fn⟩),
 (115,⟨1,8,.nilFunc,.fn⟩),
 (116,⟨1,8,.nilFunc,.fn⟩),
 (117,⟨1,8,.nilFunc,.fn⟩),
 (119,⟨1,8,.nilFunc,.fn⟩),
 (120,⟨1,8,.nilFunc,.fn⟩),
 (121,⟨1,8,.nilFunc,.fn⟩),
 (122,⟨1,8,.nilFunc,.fn⟩),
 (125,⟨1,8,.nilFunc,.fn⟩),
 (126,⟨1,8,.nilFunc,.fn⟩),
 (127,⟨1,8,.nilFunc,.fn⟩),
 (131,⟨1,8,.nilFunc,.fn⟩),
 (132,⟨1,8,.nilFunc,.fn⟩),
 (133,⟨1,8,.nilFunc,.fn⟩),
 (134,⟨1,8,.nilFunc,.fn⟩),
 (135,⟨1,8,.nilFunc,.fn⟩),
 (136,⟨1,8,.nilFunc,.fn⟩),
 (137,⟨1,8,.nilFunc,.fn⟩),
 (139,⟨1,8,.nilFunc,.fn⟩),
 (140,⟨1,8,.nilFunc,.fn⟩),
 (141,⟨1,8,.nilFunc,.fn⟩),
 (142,⟨1,8,.nilFunc,.fn⟩),
 (143,⟨1,8,.nilFunc,.fn⟩),
 (144,⟨1,8,.nilFunc,.fn⟩),
 (145,⟨1,8,.nilFunc,.fn⟩),
 (147,⟨1,8,.nilFunc,.fn⟩),
 (148,⟨1,8,.nilFunc,.fn⟩),
 (150,⟨1,8,.nilFunc,.fn⟩),
 (151,⟨1,8,.nilFunc,.fn⟩),
 (152,⟨1,8,.nilFunc,.fn⟩),
 (154,⟨1,8,.nilFunc,.fn⟩),
 (155,⟨1,8,.nilFunc,.fn⟩),
 (156,⟨1,8,.nilFunc,.fn⟩),
 (157,⟨1,8,.nilFunc,.fn⟩),
 (158,⟨1,8,.nilFunc,.fn⟩),
 (159,⟨1,8,.nilFunc,.fn⟩),
 (161,⟨1,8,.nilFunc,.fn⟩),
 (162,⟨1,8,.nilFunc,.fn⟩),
 (163,⟨1,8,.nilFunc,.fn⟩),
 (164,⟨1,8,.nilFunc,.fn⟩),
 (165,⟨1,8,.nilFunc,.fn⟩),
 (167,⟨1,8,.nilFunc,.fn⟩),
 (169,⟨1,8,.nilFunc,.fn⟩),
 (170,⟨1,8,.nilFunc,.fn⟩),
 (171,⟨1,8,.nilFunc,.fn⟩),
 (179,⟨1,8,.nilFunc,.fn⟩),
 (180,⟨1,8,.nilFunc,.fn⟩),
 (182,⟨1,8,.nilFunc,.fn⟩),
 (183,⟨1,8,.nilFunc,.fn⟩),
 (184,⟨1,8,.nilFunc,.fn⟩),
 (185,⟨1,8,.nilFunc,.fn⟩),
 (187,⟨1,8,.nilFunc,.fn⟩),
 (190,⟨1,8,.nilFunc,.fn⟩),
 (193,⟨1,8,.nilFunc,.fn⟩),
 (194,⟨1,8,.nilFunc,.fn⟩),
 (195,⟨1,8,.nilFunc,.fn⟩),
 (196,⟨1,8,.nilFunc,.fn⟩),
 (197,⟨1,8,.nilFunc,.fn⟩),
 (199,⟨1,8,.nilFunc,.fn⟩),
 (200,⟨1,8,.nilFunc,.fn⟩),
 (201,⟨1,8,.nilFunc,.fn⟩),
 (202,⟨1,8,.nilFunc,.fn⟩),
 (204,⟨1,8,.nilFunc,.fn⟩),
 (205,⟨1,8,.nilFunc,.fn⟩),
 (206,⟨1,8,.nilFunc,.fn⟩),
 (207,⟨1,8,.nilFunc,.fn⟩),
 (209,⟨1,8,.nilFunc,.fn⟩),
 (210,⟨1,8,.nilFunc,.fn⟩),
 (213,⟨1,8,.nilFunc,.fn⟩),
 (214,⟨1,8,.nilFunc,.fn⟩),
 (216,⟨1,8,.nilFunc,.fn⟩),
 (217,⟨1,8,.nilFunc,.fn⟩),
 (218,⟨1,8,.nilFunc,.fn⟩),
 (219,⟨1,8,.nilFunc,.fn⟩),
 (221,⟨1,8,.nilFunc,.fn⟩),
 (223,⟨1,8,.nilFunc,.fn⟩),
 (224,⟨1,8,.nilFunc,.fn⟩),
 (225,⟨1,8,.nilFunc,.fn⟩),
 (226,⟨1,8,.nilFunc,.fn⟩),
 (227,⟨1,8,.nilFunc,.fn⟩),
 (229,⟨1,8,.nilFunc,.fn⟩),
 (231,⟨1,8,.nilFunc,.fn⟩),
 (233,⟨1,8,.nilFunc,.fn⟩),
 (235,⟨1,8,.nilFunc,.fn⟩),
 (236,⟨1,8,.nilFunc,.fn⟩),
 (238,⟨1,8,.nilFunc,.fn⟩),
 (240,⟨1,8,.nilFunc,.fn⟩),
 (242,⟨1,8,.nilFunc,.fn⟩),
 (243,⟨1,8,.nilFunc,.fn⟩),
 (244,⟨1,8,.nilFunc,.fn⟩),
 (246,⟨1,8,.nilFunc,.fn⟩),
 (247,⟨1,8,.nilFunc,.fn⟩),
 (248,⟨4,40,.agg #[.pointer none,.pointer none,.pointer none,.string .empty],.st [(0,17),(1,17),(2,17),(3,9)]⟩),
 (249,⟨4,40,.agg #[.pointer none,.pointer none,.pointer none,.string .empty],.st [(0,17),(1,17),(2,17),(3,9)]⟩),
 (250,⟨0,0,.agg #[],.arr 0 16⟩),
 (251,⟨0,0,.agg #[],.st [(0,250)]⟩),
 (252,⟨0,0,.agg #[],.st [(0,250)]⟩),
 (253,⟨1,8,.nilFunc,.fn⟩),
 (255,⟨1,1,.int .u8 0,.int .u8⟩),
 (256,⟨1,1,.int .u8 0,.int .u8⟩),
 (257,⟨1,8,.nilFunc,.fn⟩),
 (259,⟨1,4,.int .i32 0,.int .i32⟩),
 (260,⟨1,4,.int .i32 0,.int .i32⟩),
 (261,⟨11,48,.agg #[.int .u64 0,.int .u64 0,.int .u32 0,.int .u8 0,.int .u8 0,.int .u8 0,.int .u8 0,.nilFunc,.pointer none,.int .i32 0,.int .i32 0],.st [(0,12),(1,12),(2,254),(3,255),(4,5),(5,5),(6,256),(7,257),(8,258),(9,259),(10,260)]⟩),
 (262,⟨11,48,.agg #[.int .u64 0,.int .u64 0,.int .u32 0,.int .u8 0,.int .u8 0,.int .u8 0,.int .u8 0,.nilFunc,.pointer none,.int .i32 0,.int .i32 0],.st [(0,12),(1,12),(2,254),(3,255),(4,5),(5,5),(6,256),(7,257),(8,258),(9,259),(10,260)]⟩)]
theorem tab:TabOk Tryz.prog TAB:=by
 have h1:TAB.map (fun p=>(Tryz.prog.info? p.1).map (fun i=>(i.zero,i.size,i.bytes)))=TAB.map (fun p=>some (some p.2.z,p.2.sz,p.2.by_)):=by kernel_rfl
 have h2:TAB.map (fun p=>(Tryz.prog.underlying p.1).map tdOf)=TAB.map (fun p=>some p.2.d):=by kernel_rfl
 exact tabOk fun p hp=>⟨List.map_inj_left.1 h1 p hp,List.map_inj_left.1 h2 p hp⟩
def NOTPL:List Nat:=[0,1,2,143,144,145,146,147,148,149,150,151,152,153,154,155,156,157,158,159]
def PLN(f:Nat):Bool:=Nat.blt f 160&&!(NOTPL.contains f)
theorem pl(f:Nat)(h:PLN f=true):plain Tryz.prog f:=by
 have h1:(List.range 160).all (fun f=>NOTPL.contains f||((Tryz.prog.funcs[f]?).map (fun fn=>!(fn.name== "runtime.NumGoroutine")&&fn.body.isSome)==some true))=true:=by kernel_rfl
 unfold PLN at h
 simp only[Bool.and_eq_true,Bool.not_eq_true']at h
 have h2:=List.all_eq_true.1 h1 f (List.mem_range.2 (Nat.blt_eq.mp h.1))
 rw[h.2,Bool.false_or]at h2
 exact⟨by simpa using h2⟩
end Go.Proofs.YtbjffoojenpmfaaGreat
namespace Go.Proofs.YtbjffoojenpmfaaGreat
open Go.RowKit
structure CV where
 t:Int
 v:Int
def CV.cs(c:CV):List Value:=[.int .u8 c.t,.int .u16 c.v]
theorem CV.cs_len(c:CV):c.cs.length=2:=rfl
def cvs(l:List CV):List Value:=l.flatMap CV.cs
theorem cvs_len(l:List CV):(cvs l).length=l.length*2:=flat_len CV.cs 2 CV.cs_len l
theorem flat_one{α:Type}{f:α→List Value}(h:∀x,(f x).all (·.oneCell')=true)(l:List α):(l.flatMap f).all (·.oneCell')=true:=by
 rw[List.all_eq_true]
 intro v hv
 obtain⟨x,_,hx⟩:=List.mem_flatMap.1 hv
 exact List.all_eq_true.1 (h x) v hx
theorem cvs_one(l:List CV):(cvs l).all (·.oneCell')=true:=flat_one (fun _=>rfl) l
structure LnD where
 tag:Int
 d:Bool
 xs:List CV
structure ThD where
 st:Int
 xs:List CV
 pc:Int
 cnt:Int
 han:Int
 sav:Int
 trp:Int
 cod:Int
structure MD where
 bs:List Int
 key:Int
 xs:List CV
 ls:List LnD
 ts:List ThD
structure LnV where
 A:Option Addr
 c:Nat
 d:LnD
structure ThV where
 A:Option Addr
 c:Nat
 d:ThD
def LnV.v(x:LnV):List Value:=[.int .i64 x.d.tag,.bool x.d.d,.slice x.A x.d.xs.length x.c]
def ThV.v(x:ThV):List Value:=[.int .i64 x.d.st,.slice x.A x.d.xs.length x.c,.int .i64 x.d.pc,.int .i64 x.d.cnt,.int .i64 x.d.han,.int .i64 x.d.sav,.int .i64 x.d.trp,.int .u16 x.d.cod]
theorem LnV.len(x:LnV):x.v.length=3:=rfl
theorem ThV.len(x:ThV):x.v.length=8:=rfl
structure MV where
 bA:Option Addr
 bc:Nat
 bs:List Int
 key:Int
 cA:Option Addr
 cc:Nat
 xs:List CV
 lA:Option Addr
 lc:Nat
 ls:List LnV
 tA:Option Addr
 tc:Nat
 ts:List ThV
def MV.me(x:MV):Value:= .agg #[.slice x.cA x.xs.length x.cc,.slice x.lA x.ls.length x.lc]
abbrev MV.cl(x:MV)(t:List Value):List Value:= .slice x.bA x.bs.length x.bc:: .int .u16 x.key:: .slice x.cA x.xs.length x.cc:: .slice x.lA x.ls.length x.lc::t
def MV.v(x:MV):Value:= .agg #[.slice x.bA x.bs.length x.bc,.int .u16 x.key,.slice x.cA x.xs.length x.cc,.slice x.lA x.ls.length x.lc,.slice x.tA x.ts.length x.tc]
def MV.d(x:MV):MD:=⟨x.bs,x.key,x.xs,x.ls.map LnV.d,x.ts.map ThV.d⟩
structure MV.ok(x:MV)(w:World):Prop where
 b:Rd w w.heap.size x.bA (ints x.bs)
 c:Rd w w.heap.size x.cA (cvs x.xs)
 l:Rd w w.heap.size x.lA (x.ls.flatMap LnV.v)
 t:Rd w w.heap.size x.tA (x.ts.flatMap ThV.v)
 ll:∀y∈x.ls,Rd w w.heap.size y.A (cvs y.d.xs)
 tt:∀y∈x.ts,Rd w w.heap.size y.A (cvs y.d.xs)
theorem MV.ok.pu{x:MV}{w w':World}(h:x.ok w)(hf:Pu w w'):x.ok w':=
 ⟨hf.rd' h.b,hf.rd' h.c,hf.rd' h.l,hf.rd' h.t,fun y hy=>hf.rd' (h.ll y hy),fun y hy=>hf.rd' (h.tt y hy)⟩
structure MD.sm(x:MD):Prop where
 b:x.bs.length≤1000
 c:x.xs.length≤1000
 l:x.ls.length≤1000
 t:x.ts.length≤1000
 ll:∀y∈x.ls,y.xs.length≤1000
 tt:∀y∈x.ts,y.xs.length≤1000
structure LnO where
 A:Option Nat
 c:Nat
 cs:List Value
 d:LnD
structure ThO where
 A:Option Nat
 c:Nat
 cs:List Value
 d:ThD
def LnO.v(x:LnO):List Value:=[.int .i64 x.d.tag,.bool x.d.d,slv x.A x.d.xs.length x.c]
def ThO.v(x:ThO):List Value:=[.int .i64 x.d.st,slv x.A x.d.xs.length x.c,.int .i64 x.d.pc,.int .i64 x.d.cnt,.int .i64 x.d.han,.int .i64 x.d.sav,.int .i64 x.d.trp,.int .u16 x.d.cod]
theorem LnO.len(x:LnO):x.v.length=3:=rfl
theorem ThO.len(x:ThO):x.v.length=8:=rfl
def LnO.hp(x:LnO):Hp:=⟨x.A,103,x.cs⟩
def ThO.hp(x:ThO):Hp:=⟨x.A,103,x.cs⟩
def LnO.ok(x:LnO):Prop:=Row x.A x.d.xs.length x.c 2 (cvs x.d.xs) x.cs
def ThO.ok(x:ThO):Prop:=Row x.A x.d.xs.length x.c 2 (cvs x.d.xs) x.cs
structure MeO where
 cA:Option Nat
 cc:Nat
 ccs:List Value
 xs:List CV
 lA:Option Nat
 lc:Nat
 lcs:List Value
 ls:List LnO
def MeO.v(x:MeO):Value:= .agg #[slv x.cA x.xs.length x.cc,slv x.lA x.ls.length x.lc]
def MeO.hps(x:MeO):List Hp:=⟨x.cA,103,x.ccs⟩::⟨x.lA,61,x.lcs⟩::x.ls.map LnO.hp
structure MeO.ok(x:MeO):Prop where
 c:Row x.cA x.xs.length x.cc 2 (cvs x.xs) x.ccs
 l:Row x.lA x.ls.length x.lc 3 (x.ls.flatMap LnO.v) x.lcs
 ll:∀y∈x.ls,y.ok
structure MO where
 bA:Option Nat
 bc:Nat
 bcs:List Value
 bs:List Int
 key:Int
 m:MeO
 tA:Option Nat
 tc:Nat
 tcs:List Value
 ts:List ThO
abbrev MO.cl(x:MO)(t:List Value):List Value:=slv x.bA x.bs.length x.bc:: .int .u16 x.key::slv x.m.cA x.m.xs.length x.m.cc::slv x.m.lA x.m.ls.length x.m.lc::t
def MO.vs(x:MO):List Value:=[slv x.bA x.bs.length x.bc,.int .u16 x.key,slv x.m.cA x.m.xs.length x.m.cc,slv x.m.lA x.m.ls.length x.m.lc,slv x.tA x.ts.length x.tc]
def MO.v(x:MO):Value:= .agg #[slv x.bA x.bs.length x.bc,.int .u16 x.key,slv x.m.cA x.m.xs.length x.m.cc,slv x.m.lA x.m.ls.length x.m.lc,slv x.tA x.ts.length x.tc]
def MO.hps(x:MO):List Hp:=⟨x.tA,52,x.tcs⟩::⟨x.bA,3,x.bcs⟩::(x.m.hps++x.ts.map ThO.hp)
structure MO.ok(x:MO):Prop where
 b:Row x.bA x.bs.length x.bc 1 (ints x.bs) x.bcs
 m:x.m.ok
 t:Row x.tA x.ts.length x.tc 8 (x.ts.flatMap ThO.v) x.tcs
 tt:∀y∈x.ts,y.ok
def MeO.d(x:MeO):List CV × List LnD:=(x.xs,x.ls.map LnO.d)
def MO.d(x:MO):MD:=⟨x.bs,x.key,x.m.xs,x.m.ls.map LnO.d,x.ts.map ThO.d⟩
def ad(A:Option Nat):Option Addr:=A.map fun g=>⟨g,0,none⟩
def LnO.lv(x:LnO):LnV:=⟨ad x.A,x.c,x.d⟩
def ThO.tv(x:ThO):ThV:=⟨ad x.A,x.c,x.d⟩
def MO.mv(x:MO):MV:=⟨ad x.bA,x.bc,x.bs,x.key,ad x.m.cA,x.m.cc,x.m.xs,ad x.m.lA,x.m.lc,x.m.ls.map LnO.lv,ad x.tA,x.tc,x.ts.map ThO.tv⟩
theorem MO.mv_v(x:MO):x.mv.v=x.v:=by
 unfold MO.mv MV.v MO.v
 dsimp only
 rw[List.length_map,List.length_map]
 rfl
theorem flat_lv(l:List LnO):(l.map LnO.lv).flatMap LnV.v=l.flatMap LnO.v:=by
 rw[List.flatMap_map]
 rfl
theorem flat_tv(l:List ThO):(l.map ThO.tv).flatMap ThV.v=l.flatMap ThO.v:=by
 rw[List.flatMap_map]
 rfl
theorem MO.mv_d(x:MO):x.mv.d=x.d:=by
 unfold MO.mv MV.d MO.d
 dsimp only
 rw[List.map_map,List.map_map]
 rfl
theorem MO.mv_ok{S:Nat→Prop}{w0 w:World}{M:List Hp}{x:MO}(hm:Mm S w0 M w)(hM:∀h∈x.hps,h∈M)(h:x.ok):x.mv.ok w:=by
 have hh:∀z,z∈x.m.hps∨z∈x.ts.map ThO.hp→z∈M:=fun z hz=>hM z (List.mem_cons_of_mem _ (List.mem_cons_of_mem _ (List.mem_append.2 hz)))
 refine⟨hm.rd_row (hM _ (List.mem_cons_of_mem _ (List.mem_cons_self ..))) h.b,hm.rd_row (hh _ (.inl (List.mem_cons_self ..))) h.m.c,?_,?_,fun y hy=>?_,fun y hy=>?_⟩
 ·show Rd w w.heap.size (ad x.m.lA) ((x.m.ls.map LnO.lv).flatMap LnV.v)
  rw[flat_lv]
  exact hm.rd_row (hh _ (.inl (List.mem_cons_of_mem _ (List.mem_cons_self ..)))) h.m.l
 ·show Rd w w.heap.size (ad x.tA) ((x.ts.map ThO.tv).flatMap ThV.v)
  rw[flat_tv]
  exact hm.rd_row (hM _ (List.mem_cons_self ..)) h.t
 ·obtain⟨z,hz,rfl⟩:=List.mem_map.1 hy
  exact hm.rd_row (hh _ (.inl (List.mem_cons_of_mem _ (List.mem_cons_of_mem _ (List.mem_map.2 ⟨z,hz,rfl⟩))))) (h.m.ll z hz)
 ·obtain⟨z,hz,rfl⟩:=List.mem_map.1 hy
  exact hm.rd_row (hh _ (.inr (List.mem_map.2 ⟨z,hz,rfl⟩))) (h.tt z hz)
section
variable (T:List (Nat × TI))
def stEq:List (Bool × Nat × TypeId)→List Value→List Value→Option Bool
 |[],_,_=>some true
 |(true,off,t)::r,xs,ys=>match tlk T t with
  |some ⟨_,_,_,.int _⟩=>match xs[off]? with
   |some (.int k1 n)=>match ys[off]? with
    |some (.int k2 m)=>bif kEq k1 k2 then match stEq r xs ys with
     |some b=>some ((n==m)&&b)
     |none=>none else none
    |_=>none
   |_=>none
  |_=>none
 |_,_,_=>none
end
section
variable {P:Program} {T:List (Nat × TI)} {N:Nat} {L:List (Nat × Value)} {a:Act} {w w0:World} {S:Nat→Prop} {M:List Hp} {o:Oper} {x y z:Operand} {v u:Value}
theorem run_partF{t:TypeId}{i:TI}{cs:Array Value}{off:Nat}(h:TOk P t i)(hf:i.d.flat=true)(hv:cs.toList[off]?=some v):Sem.run P (part t cs off) w= .ok v w:=by
 have hv':cs[off]?=some v:=by simpa using hv
 unfold part
 simp[run_isAgg h,hf,hv']
theorem run_eqFields_T(hT:TabOk P T)(d:Nat)(xs ys:Array Value):∀(fs:List Field)(b:Bool),stEq T (fs.map fun f=>(f.name != "_",f.offset,f.type)) xs.toList ys.toList=some b→Sem.run P (Op.eqFields (d+1) xs ys fs) w= .ok b w
 |[],b,h=>by
  simp only[List.map_nil,stEq,Option.some.injEq]at h
  subst h
  simp[Op.eqFields]
 |f::r,b,h=>by
  rw[List.map_cons]at h
  cases hn:(f.name != "_")with
  |false=>rw[hn]at h;simp[stEq]at h
  |true=>
   rw[hn]at h
   simp only[stEq]at h
   have hn':f.name≠ "_" :=by simpa using hn
   split at h
   ·rename_i s1 b1 z1 k ht
    split at h
    ·rename_i k1 n hx
     split at h
     ·rename_i k2 m hy
      cases hk:kEq k1 k2 with
      |false=>rw[hk]at h;cases h
      |true=>
       have e:=kEq_ok hk
       subst e
       rw[hk,cond_true]at h
       split at h
       ·rename_i b' hb
        obtain rfl:=Option.some.inj h
        have ih:=run_eqFields_T hT d xs ys r b' hb
        have hi:=(hT _ _ ht).int rfl
        simp only[Op.eqFields,hn',ne_eq,not_false_eq_true,if_true,Sem.run_bind,run_partF (hT _ _ ht) rfl hx,run_partF (hT _ _ ht) rfl hy,Result.andThen_ok,run_equalIn_int w d f.type k2 k n m hi]
        cases hnm:(n==m)
        ·simp
        ·simp only[Bool.not_true,Bool.false_eq_true,if_false,Bool.true_and]
         exact ih
       ·cases h
     ·cases h
    ·cases h
   ·cases h
theorem r_neqSt{t yt:TypeId}{xs ys:Array Value}{fl:List (Bool × Nat × TypeId)}{b:Bool}(hs:Sl N L a)(ho:o.op= .binOp .neq t x y yt)(hx:ev L x=some (.agg xs))(hy:ev L y=some (.agg ys))(hT:TabOk P T)(hg:P.eqGuardType P.depth t=false)(hp:P.stoodInHeld t=false)(hu:P.underlying t=some (.struct (P.fieldsOf t)))(hf:((P.fieldsOf t).toList.map fun f=>(f.name != "_",f.offset,f.type))=fl)(he:stEq T fl xs.toList ys.toList=some b):RunV P a o w (.bool (!b)):=by
 replace hx:=hs.ev hx;replace hy:=hs.ev hy
 have h1:=run_equalIn_struct w 9999 t xs ys hu hp
 rw[run_eqFields_T hT 9998 xs ys _ b (by rw[hf];exact he)]at h1
 unfold RunV execOp
 simp[ho,hx,hy,run_eqGuard_agg w .neq t x y xs ys hg,run_neq_struct,h1]
theorem r_eqlSt{t yt:TypeId}{xs ys:Array Value}{fl:List (Bool × Nat × TypeId)}{b:Bool}(hs:Sl N L a)(ho:o.op= .binOp .eql t x y yt)(hx:ev L x=some (.agg xs))(hy:ev L y=some (.agg ys))(hT:TabOk P T)(hg:P.eqGuardType P.depth t=false)(hp:P.stoodInHeld t=false)(hu:P.underlying t=some (.struct (P.fieldsOf t)))(hf:((P.fieldsOf t).toList.map fun f=>(f.name != "_",f.offset,f.type))=fl)(he:stEq T fl xs.toList ys.toList=some b):RunV P a o w (.bool b):=by
 replace hx:=hs.ev hx;replace hy:=hs.ev hy
 have h1:=run_equalIn_struct w 9999 t xs ys hu hp
 rw[run_eqFields_T hT 9998 xs ys _ b (by rw[hf];exact he)]at h1
 unfold RunV execOp
 simp[ho,hx,hy,run_eqGuard_agg w .eql t x y xs ys hg,run_eql_struct,h1]
end
theorem gpDck0_{G H:Prop}(k:H)(s:Bx H→G:=by intro k_;(repeat(first|(refine ov_ ?_;(try clear hs a);intro a hs)|((with_reducible apply lCons);first|(refine dv hs gw_ rfl rfl da_ ?_;(try clear hs hm a);rintro _ w_ ⟨g_,rfl,-,hm⟩ a hs)|(refine stn hs rfl rfl ds_ ?_;(try clear hs hm a);rintro-w_ hm a hs))|refine sc_ ?_));have m_:=hm;have s_:=hs;clear hs;(try clear hm);revert m_ s_ a;(try revert w_);(repeat revert g_);exact k_.h):G:=s ⟨k⟩
theorem gpDck1_{G H:Prop}(k:H)(s:Bx H→G:=by intro k_;(repeat(first|(refine oq_ ?_;(try clear hs a);intro a hs)|((with_reducible apply lCons);first|(refine dv hs gw_ rfl rfl da_ ?_;(try clear hs hm a);rintro _ w_ ⟨g_,rfl,-,hm⟩ a hs)|(refine stn hs rfl rfl ds_ ?_;(try clear hs hm a);rintro-w_ hm a hs))|((with_reducible apply qNil);(try clear hm);intro w_ hm)|refine cQ_ ?_|refine sc_ ?_));have m_:=hm;have s_:=hs;clear hs;(try clear hm);revert m_ s_ a;(try revert w_);(repeat revert g_);exact k_.h):G:=s ⟨k⟩
def modF(v m:Int):Int:=if v.tmod m<0 then v.tmod m+m else v.tmod m
theorem tmod_bd(v:Int){m:Int}(hm:0<m):-m<v.tmod m∧v.tmod m<m:=by
 by_cases h:0≤v
 ·rw[Int.tmod_eq_emod_of_nonneg h]
  have:=Int.emod_nonneg v (b:=m) (by omega)
  have:=Int.emod_lt_of_pos v hm
  omega
 ·have e:v.tmod m=-((-v).tmod m):=by rw[Int.neg_tmod,Int.neg_neg]
  rw[e,Int.tmod_eq_emod_of_nonneg (by omega)]
  have:=Int.emod_nonneg (-v) (b:=m) (by omega)
  have:=Int.emod_lt_of_pos (-v) hm
  omega
theorem modF_bd(v:Int){m:Int}(hm:0<m):0≤modF v m∧modF v m<m:=by
 have:=tmod_bd v hm
 unfold modF
 split<;>omega
theorem rmod_c(v m:Int)(w:World)(hm:0<m)(hm':m≤2000000):Ret Tryz.prog 22 [.int .i64 v,.int .i64 m] w (fun u w'=>u= .int .i64 (modF v m)∧Pu w w'):=by
 have hb:=tmod_bd v hm
 generalize hR:modF v m=R
 unfold modF at hR
 refine enterR Tryz.func22 rfl rfl rfl fun a hs hm=>?_
 refine gs9cbd_ ?_;clear hs hm a;intros;rename_i a hm hs
 generalize v.tmod m=q at*
 by_cases h:q<0
 ·rw[if_pos h]at hR
  refine gs9cbd_ ?_;clear hs hm a;intros;rename_i a hm hs
  exact gRet1 hs rfl rfl ⟨by rw[←hR],hm.fr⟩
 ·rw[if_neg h]at hR
  refine gs9cbd_ ?_;clear hs hm a;intros;rename_i a hm hs
  exact gRet1 hs rfl rfl ⟨by rw[←hR],hm.fr⟩
theorem mod_c(v m:Int)(w:World)(hm:0<m)(hm':m≤2000000):Ret Tryz.prog 10 [.int .i64 v,.int .i64 m] w (fun u w'=>u= .int .i64 (modF v m)∧Pu w w'):=by
 have hr:=fun w=>rmod_c v m w hm hm'
 refine enterR Tryz.func10 rfl rfl rfl fun a hs hm=>?_
 repeat(first|(refine gpDck0_ ?_;clear hs hm a;intros;rename_i a hm hs)|refine sc_ ?_|((with_reducible apply lCons);first|(refine dvc hs hm gw_ rfl rfl rfl rfl rfl (pl 22 rfl) (hr _) ?_;clear hs hm a;intro w hm a hs)))
 exact gRet1 hs rfl rfl ⟨rfl,hm.fr⟩
def dk(g:Nat)(A:Option Addr)(n c at_:Nat):Hp:=⟨some g,65,[.slice A n c,.int .i64 (at_:Int)]⟩
theorem mk_c(A:Option Addr)(n c:Nat)(w:World):Ret Tryz.prog 9 [.slice A n c] w (fun u w'=>∃g,u=pt g∧New w w' [dk g A n c 0]∧Pu w w'):=by
 refine enterR Tryz.func9 rfl rfl rfl fun a hs hm=>?_
 refine gs87a7_ ?_;clear hs hm a;intros;rename_i g w a hm hs
 exact gRet1 hs rfl rfl ⟨g,rfl,hm.new (List.Sublist.refl _),hm.fr⟩
theorem dk_adopt{w w':World}{M:List Hp}{h:Hp}(hm:Mm (fun _=>False) w M w'){g:Nat}(hg:h.g=some g)(hs:h.sat w):Mm (own [h]) w (h::M) w':=by
 have hlt:g<w.heap.size:=Hp.lt hs hg
 refine⟨fun x hx=>?_,⟨hm.fr.os,hm.fr.tape,hm.fr.output,hm.fr.size,fun k hk _=>hm.fr.block k hk (fun t=>t)⟩,⟨fun x hx k hk e=>?_,hm.dj⟩,fun x hx k hk=>?_⟩
 ·rcases List.mem_cons.1 hx with rfl|hx
  ·exact Hp.sat_fr hm.fr hs fun _ _ t=>t
  ·exact hm.me x hx
 ·rw[hg]at hk
  obtain rfl:=Option.some.inj hk
  rcases hm.ow x hx _ e with h|h
  ·omega
  ·exact h
 ·rcases List.mem_cons.1 hx with rfl|hx
  ·exact .inr ⟨_,List.mem_singleton.2 rfl,hk⟩
  ·rcases hm.ow x hx k hk with h|h
   ·exact .inl h
   ·exact h.elim
theorem own_dk{g k:Nat}{A:Option Addr}{n c at_:Nat}(h:own [dk g A n c at_] k):(some g:Option Nat)=some k:=by
 obtain⟨y,hy,e⟩:=h
 rcases List.mem_singleton.1 hy with rfl
 exact e
def dkAt(n at_:Nat):Nat:=if at_<n then at_+1 else at_
def dkV(xs:List Int)(at_:Nat)(m:Int):Int:=match xs[at_]? with
 |some v=>modF v m
 |none=>0
theorem dkV_bd(xs:List Int)(at_:Nat){m:Int}(hm:0<m):0≤dkV xs at_ m∧dkV xs at_ m<m:=by
 unfold dkV
 split
 ·exact modF_bd _ hm
 ·omega
theorem dnext_c(g:Nat)(A:Option Addr)(n c at_:Nat)(xs:List Int)(m:Int)(w:World)(hs':(dk g A n c at_).sat w)(hl:xs.length=n)(hr:Rd w w.heap.size A (ints xs))(hg:xs≠ []→∀b o,A=some ⟨b,o,none⟩→b≠g)(hm0:0<m)(hm1:m≤2000000)(hn:n≤9223372036854775807):
  Ret Tryz.prog 21 [pt g,.int .i64 m] w (fun u w'=>u= .int .i64 (dkV xs at_ m)∧(dk g A n c (dkAt n at_)).sat w'∧Fr (fun k=>(some g:Option Nat)=some k) w w'):=by
 generalize hR:dkV xs at_ m=R
 unfold dkV at hR
 by_cases h:at_<n
 ·have hat:dkAt n at_=at_+1:=by unfold dkAt;rw[if_pos h]
  rw[hat]
  have hx:xs[at_]?=some (xs[at_]'(by omega)):=List.getElem?_eq_getElem (by omega)
  have e1:=ints_some (xs:=xs) (k:=at_) (by omega)
  rw[hx]at hR
  dsimp only at hR
  obtain⟨b1,o1,rfl,hb1,r1⟩:=hr.ro (by rw[ints_len];omega)
  have hno:¬own [dk g (some ⟨b1,o1,none⟩) n c at_] b1:=fun hw=>hg (List.ne_nil_of_length_pos (by omega)) b1 o1 rfl (Option.some.inj (own_dk hw)).symm
  generalize xs[at_]'(_)=v at*
  have hmd:=fun w=>mod_c v m w hm0 hm1
  rw[hR]at hmd
  have hpr:(at_:Int)+1-1=(at_:Int):=by omega
  refine enterR Tryz.func21 rfl rfl rfl fun a hs hm=>?_
  replace hm:=dk_adopt hm rfl hs'
  unfold dk at hm hno
  repeat(first|(refine gpDck1_ ?_;clear hs hm a;intros;rename_i a hm hs)|refine sc_ ?_|((with_reducible apply lCons);first|(refine dvc hs hm gw_ rfl rfl rfl rfl rfl (pl 10 rfl) (hmd _) ?_;clear hs hm a;intro w hm a hs))|((with_reducible apply qCons);first|(refine qwc hs gw_ rfl rfl rfl rfl rfl (pl 10 rfl) (fun w hm=>hmd _) ?_;clear hs a;intro a hs)))
  exact gRet1 hs rfl rfl ⟨rfl,hm.me _ (List.Mem.head _),hm.fr.mono fun _ _ hw=>own_dk hw⟩
 ·have hat:dkAt n at_=at_:=by unfold dkAt;rw[if_neg h]
  rw[hat]
  rw[List.getElem?_eq_none (by omega)]at hR
  dsimp only at hR
  subst hR
  refine enterR Tryz.func21 rfl rfl rfl fun a hs hm=>?_
  replace hm:=dk_adopt hm rfl hs'
  unfold dk at hm
  refine gq0ba6_ ?_;clear hs hm a;intros;rename_i a hm hs
  exact gRet1 hs rfl rfl ⟨rfl,hm.me _ (List.Mem.head _),hm.fr.mono fun _ _ hw=>own_dk hw⟩
structure Dk(g:Nat)(A:Option Addr)(n c at_:Nat)(xs:List Int)(w:World):Prop where
 sat:(dk g A n c at_).sat w
 len:xs.length=n
 rd:Rd w w.heap.size A (ints xs)
 ne:xs≠ []→∀b o,A=some ⟨b,o,none⟩→b≠g
 n:n≤9223372036854775807
theorem Dk.pu{g:Nat}{A:Option Addr}{n c at_:Nat}{xs:List Int}{w w':World}(h:Dk g A n c at_ xs w)(hf:Pu w w'):Dk g A n c at_ xs w':=
 ⟨Hp.sat_fr hf h.sat fun _ _ t=>t,h.len,hf.rd' h.rd,h.ne,h.n⟩
theorem rdD{S:Nat→Prop}{w w':World}{A:Option Addr}{xs:List Value}(hf:Fr S w w')(h:Rd w w.heap.size A xs)(hn:∀g o,A=some ⟨g,o,none⟩→¬S g):Rd w' w'.heap.size A xs:=fun h0=>by
 obtain⟨b,o,e,hb,hc⟩:=h h0
 exact⟨b,o,e,Nat.lt_of_lt_of_le hb hf.size,fun j u hj=>hf.cl (hc j u hj) (hn b o e)⟩
theorem rdN{S:Nat→Prop}{w w':World}{A:Option Addr}{xs:List Int}(hf:Fr S w w')(h:Rd w w.heap.size A (ints xs))(hn:xs≠ []→∀g o,A=some ⟨g,o,none⟩→¬S g):Rd w' w'.heap.size A (ints xs):=fun h0=>rdD hf h (hn (by rintro rfl;exact absurd h0 (by simp[ints]))) h0
theorem Dk.start{g:Nat}{A:Option Addr}{n c:Nat}{xs:List Int}{w w':World}(hl:xs.length=n)(hr:Rd w w.heap.size A (ints xs))(hn:n≤9223372036854775807)(hN:New w w' [dk g A n c 0])(hf:Pu w w'):Dk g A n c 0 xs w':=by
 refine⟨hN.me _ (List.Mem.head _),hl,hf.rd' hr,fun hne b o e=>?_,hn⟩
 obtain⟨b',o',e',hb,_⟩:=hr (by rw[ints_len];exact List.length_pos_iff.2 hne)
 rw[e]at e'
 cases e'
 have:=hN.fresh _ (List.Mem.head _) g rfl
 omega
theorem Dk.in_{g:Nat}{A:Option Addr}{n c at_:Nat}{xs:List Int}{w:World}(h:Dk g A n c at_ xs w):Mm (own [dk g A n c at_]) w [dk g A n c at_] w:=dk_adopt (Mm.nil _ w) rfl h.sat
theorem Dk.now{g:Nat}{A:Option Addr}{n c a0 at_:Nat}{xs:List Int}{w w':World}{M:List Hp}(h:Dk g A n c a0 xs w)(hm:Mm (own [dk g A n c a0]) w M w')(hM:dk g A n c at_∈M):Dk g A n c at_ xs w':=
 ⟨hm.me _ hM,h.len,rdN hm.fr h.rd fun hn b o e hw=>h.ne hn b o e (Option.some.inj (own_dk hw)).symm,h.ne,h.n⟩
theorem Dk.out{g:Nat}{A:Option Addr}{n c a0:Nat}{w w':World}{M:List Hp}(hm:Mm (own [dk g A n c a0]) w M w'):Fr (fun k=>(some g:Option Nat)=some k) w w':=hm.fr.mono fun _ _ hw=>own_dk hw
def DkR(g:Nat)(A:Option Addr)(n c:Nat)(xs:List Int)(w w':World):Prop:=∃at_,Dk g A n c at_ xs w'∧Fr (fun k=>(some g:Option Nat)=some k) w w'
theorem nxt_c(g:Nat)(A:Option Addr)(n c at_:Nat)(xs:List Int)(m:Int)(w:World)(h:Dk g A n c at_ xs w)(hm0:0<m)(hm1:m≤2000000):
  Ret Tryz.prog 21 [pt g,.int .i64 m] w (fun u w'=>∃r:Nat,u= .int .i64 (r:Int)∧(r:Int)<m∧DkR g A n c xs w w'):=
 (dnext_c g A n c at_ xs m w h.sat h.len h.rd h.ne hm0 hm1 h.n).mono fun u w' ⟨h1,h2,h3⟩=>by
  have hb:=dkV_bd xs at_ hm0
  refine⟨(dkV xs at_ m).toNat,by rw[h1];congr 1;omega,by omega,dkAt n at_,⟨h2,h.len,rdN h3 h.rd fun hn b o e hw=>h.ne hn b o e (Option.some.inj hw).symm,h.ne,h.n⟩,h3⟩
theorem Mm.dkt{S:Nat→Prop}{w0 w w':World}{M M':List Hp}{g:Nat}{A:Option Addr}{n c a0 a1:Nat}{xs:List Int}(hm:Mm S w0 M w)(r:Rep M (dk g A n c a0) (dk g A n c a1) M')(h:Dk g A n c a1 xs w')(hf:Fr (fun k=>(some g:Option Nat)=some k) w w'):Mm S w0 M' w':=hm.turn r hf h.sat (fun _ h=> .inl h)
theorem wrd_c(g:Nat)(A:Option Addr)(n c at_:Nat)(xs:List Int)(w:World)(h:Dk g A n c at_ xs w):
  Ret Tryz.prog 58 [pt g] w (fun u w'=>∃x:Int,u= .int .u16 x∧(0≤x∧x≤65535)∧DkR g A n c xs w w'):=by
 have hwr:∀y:Int,0≤IntKind.u16.wrap y∧IntKind.u16.wrap y≤65535:=fun y=>by simp[IntKind.wrap,IntKind.bits,IntKind.signed];omega
 refine enterR Tryz.func58 rfl rfl rfl fun a hs hm=>?_
 clear hm
 have hm:=h.in_
 refine gs5eea_ ?_;clear hs hm a;intros;rename_i a hm hs
 refine st hs rfl rfl rfl (d_call hs rfl rfl rfl (pl 21 rfl) ((nxt_c g A n c _ xs 5 _ h (by omega) (by omega)))) ?_;clear hs a;rintro _ w1 ⟨r1,rfl,b1,a1,k1,hf⟩ a hs
 replace hm:=hm.dkt (Rep.head _ _ _) k1 hf
 clear hf
 by_cases h3:(r1:Int)=3
 ·refine gs5eea_ ?_;clear hs hm a;intros;rename_i a hm hs
  refine st hs rfl rfl rfl (d_call hs rfl rfl rfl (pl 21 rfl) ((nxt_c g A n c _ xs 3 _ k1 (by omega) (by omega)))) ?_;clear hs a;rintro _ w1 ⟨r2,rfl,b2,a1,k2,hf⟩ a hs
  replace hm:=hm.dkt (Rep.head _ _ _) k2 hf
  clear hf
  refine gs5eea_ ?_;clear hs hm a;intros;rename_i a hm hs
  exact gRet1 hs rfl rfl ⟨_,rfl,hwr _,_,k2.pu (Fr.refl _ _),Dk.out hm⟩
 ·by_cases h4:(r1:Int)=4
  ·refine gs5eea_ ?_;clear hs hm a;intros;rename_i a hm hs
   refine st hs rfl rfl rfl (d_call hs rfl rfl rfl (pl 21 rfl) ((nxt_c g A n c _ xs 65536 _ k1 (by omega) (by omega)))) ?_;clear hs a;rintro _ w1 ⟨r2,rfl,b2,a1,k2,hf⟩ a hs
   replace hm:=hm.dkt (Rep.head _ _ _) k2 hf
   clear hf
   refine gs5eea_ ?_;clear hs hm a;intros;rename_i a hm hs
   exact gRet1 hs rfl rfl ⟨_,rfl,hwr _,_,k2.pu (Fr.refl _ _),Dk.out hm⟩
  ·rcases(by omega:(r1:Int)=0∨(r1:Int)=1∨(r1:Int)=2)with h5|h5|h5<;>
   ·refine gs5eea_ ?_;clear hs hm a;intros;rename_i a hm hs
    refine st hs rfl rfl rfl (d_call hs rfl rfl rfl (pl 21 rfl) ((nxt_c g A n c _ xs 8 _ k1 (by omega) (by omega)))) ?_;clear hs a;rintro _ w1 ⟨r2,rfl,b2,a1,k2,hf⟩ a hs
    replace hm:=hm.dkt (Rep.head _ _ _) k2 hf
    clear hf
    refine gs5eea_ ?_;clear hs hm a;intros;rename_i a hm hs
    exact gRet1 hs rfl rfl ⟨_,rfl,hwr _,_,k2.pu (Fr.refl _ _),Dk.out hm⟩
end Go.Proofs.YtbjffoojenpmfaaGreat
