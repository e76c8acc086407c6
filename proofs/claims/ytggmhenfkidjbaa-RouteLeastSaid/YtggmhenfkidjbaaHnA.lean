import Derived.Test.YtggmhenfkidjbaaHgA
import Derived.Test.YtggmhenfkidjbaaPart4
namespace Go.Hn
open Go.Hx Go.Hg Go.Proofs
abbrev Dy (x y l:Int):PV:=.agg [iv x,iv y,iv l]
theorem wt3 {xs:List PV} (h:DD [.int .i64,.int .i64,.int .i64] xs=true):∃ a b c:Int,xs=[iv a,iv b,iv c]:=by
 match xs,h with
 | [x,y,z],h =>
  simp only[DD,Aa] at h;have one:∀ p:PV,JY (.int .i64) p=true->∃ a:Int,p=iv a:=fun p hp=>by
   unfold JY at hp;split at hp
   ·rename_i e;cases e;simp only[Aw] at hp;subst hp;exact⟨_,rfl⟩
   all_goals simp_all
  obtain⟨a,rfl⟩:=one x h.1;obtain⟨b,rfl⟩:=one y h.2.1;obtain⟨c,rfl⟩:=one z h.2.2.1;exact⟨a,b,c,rfl⟩
 | [],h=>simp[DD] at h
 | [_],h=>simp[DD] at h
 | [_,_],h=>simp[DD] at h
 | _::_::_::_::_,h=>simp[DD] at h
theorem kindsStop:kinds Try.prog 30=[.int .i64,.int .i64,.int .i64]:=by kernel_rfl
theorem eqStop (a b c x y z:Int):LJ Try.prog 40 30 [iv a,iv b,iv c] [iv x,iv y,iv z]=some (((a==x)&&((b==y)&&true))&&((c==z)&&true)):=by kernel_rfl
theorem checkStop (a b c:Int) (em:Bool) (w:World):(Instr.checkKey em 10000 30 (.agg #[.int .i64 a,.int .i64 b,.int .i64 c])).run Try.prog w=.ok () w:=by kernel_rfl
theorem aggStop:CX Try.prog 30=true:=by kernel_rfl
theorem undInt:Try.prog.underlying 3=some (.int .i64):=by kernel_rfl
theorem keyStop:Gt Try.prog 30:=by
 refine .wide aggStop (fun C p V hp hv em w => ?_) (fun xs ys hx hy => ?_)
 ·obtain⟨a1,a2⟩:=mv_agg hp hv aggStop;have hw:=(mv_wt hp).1;rw[kindsStop] at hw;obtain⟨a,b,c,e⟩:=wt3 hw;have:V.cells = #[.int .i64 a,.int .i64 b,.int .i64 c]:=by
   rw[e] at a1;have h2:V.cells.toList.map PV.val=[Value.int .i64 a,.int .i64 b,.int .i64 c].map PV.val:=a1;exact Bs (List.map_inj_right (fun x y hxy=>by cases hxy;rfl) |>.1 h2)
  rw[a2,this];exact checkStop a b c em w
 ·rw[kindsStop] at hx hy;obtain⟨a,b,c,rfl⟩:=wt3 hx;obtain⟨x,y,z,rfl⟩:=wt3 hy;rw[eqStop];simp only[leqC,ceq,BD,Bool.and_assoc]
theorem keyInt:Gt Try.prog 3:=.int undInt
abbrev kts:List TypeId:=[30,3]
theorem kts_ok:∀ K,K ∈ kts->Gt Try.prog K:=fun K h=>by
 simp only[kts,AK,BN,B6] at h;rcases h with rfl | rfl
 ·exact keyStop
 ·exact keyInt
noncomputable def N0:CO:=({}:CO).Ju Try.prog kts [43]
theorem ok0:Ck Try.prog N0.env:=Fm.Ju kts_ok
end Go.Hn
