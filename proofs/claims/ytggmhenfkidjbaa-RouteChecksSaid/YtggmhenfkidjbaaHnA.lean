import Derived.Test.YtggmhenfkidjbaaHgA
import Derived.Test.YtggmhenfkidjbaaPart4
namespace Go.Hn
open Go.Hx Go.Hg Go.Proofs
abbrev DU(x y l:Int):PV:=.agg [iv x,iv y,iv l]
theorem wt3{xs:List PV}(h:D6 [.int .i64,.int .i64,.int .i64] xs=true):∃ a b c:Int,xs=[iv a,iv b,iv c]:=by
 match xs,h with
 | [x,y,z],h=>
  simp only[D6,Aa]at h;have one:∀ p:PV,KD (.int .i64) p=true->∃ a:Int,p=iv a:=fun p hp=>by
   unfold KD at hp;split at hp
   ·rename_i e;cases e;simp only[Av]at hp;subst hp;exact⟨_,rfl⟩
   all_goals simp_all
  obtain⟨a,rfl⟩:=one x h.1;obtain⟨b,rfl⟩:=one y h.2.1;obtain⟨c,rfl⟩:=one z h.2.2.1;exact⟨a,b,c,rfl⟩
 | [],h=>simp[D6]at h
 | [_],h=>simp[D6]at h
 | [_,_],h=>simp[D6]at h
 |_::_::_::_::_,h=>simp[D6]at h
theorem TU:kinds Try.prog 30=[.int .i64,.int .i64,.int .i64]:=by kernel_rfl
theorem ud(a b c x y z:Int):Mz Try.prog 40 30 [iv a,iv b,iv c] [iv x,iv y,iv z]=some (((a==x)&&((b==y)&&true))&&((c==z)&&true)):=by kernel_rfl
theorem dC(a b c:Int)(em:Bool)(w:World):(Instr.checkKey em 10000 30 (.agg #[.int .i64 a,.int .i64 b,.int .i64 c])).run Try.prog w=.ok () w:=by kernel_rfl
theorem aQ:Dl Try.prog 30=true:=by kernel_rfl
theorem ue:Try.prog.underlying 3=some (.int .i64):=by kernel_rfl
theorem mn:HK Try.prog 30:=by
 refine .wide aQ (fun C p V hp hv em w=>?_) (fun xs ys hx hy=>?_)
 ·obtain⟨a1,a2⟩:=ua hp hv aQ;have hw:=(TR hp).1;rw[TU]at hw;obtain⟨a,b,c,e⟩:=wt3 hw;have:V.cells = #[.int .i64 a,.int .i64 b,.int .i64 c]:=by
   rw[e]at a1;have h2:V.cells.toList.map PV.val=[Value.int .i64 a,.int .i64 b,.int .i64 c].map PV.val:=a1;exact BC (List.map_inj_right (fun x y hxy=>by cases hxy;rfl) |>.1 h2)
  rw[a2,this];exact dC a b c em w
 ·rw[TU]at hx hy;obtain⟨a,b,c,rfl⟩:=wt3 hx;obtain⟨x,y,z,rfl⟩:=wt3 hy;rw[ud];simp only[Y3,yu,Br,Bool.and_assoc]
theorem uf:HK Try.prog 3:=.int ue
abbrev xe:List TypeId:=[30,3]
theorem UW:∀ K,K∈xe->HK Try.prog K:=fun K h=>by
 simp only[xe,AK,B9,Cw]at h;rcases h with rfl |rfl
 ·exact mn
 ·exact uf
noncomputable def N0:C9:=({}:C9).JX Try.prog xe [43]
theorem yv:C4 Try.prog N0.env:=FK.JX UW
end Go.Hn
