import Derived.Test.YtggmhenfkidjbaaHgA
import Derived.Test.YtggmhenfkidjbaaPart4
namespace Go.Hn
open Go.Hx Go.Hg Go.Proofs
abbrev DV(x y l:Int):PV:=.agg [iv x,iv y,iv l]
theorem wt3{xs:List PV}(h:D4 [.int .i64,.int .i64,.int .i64] xs=true):∃ a b c:Int,xs=[iv a,iv b,iv c]:=by
 match xs,h with
 | [x,y,z],h=>
  simp only[D4,Aa]at h;have one:∀ p:PV,KH (.int .i64) p=true->∃ a:Int,p=iv a:=fun p hp=>by
   unfold KH at hp;split at hp
   ·rename_i e;cases e;simp only[Ay]at hp;subst hp;exact⟨_,rfl⟩
   all_goals simp_all
  obtain⟨a,rfl⟩:=one x h.1;obtain⟨b,rfl⟩:=one y h.2.1;obtain⟨c,rfl⟩:=one z h.2.2.1;exact⟨a,b,c,rfl⟩
 | [],h=>simp[D4]at h
 | [_],h=>simp[D4]at h
 | [_,_],h=>simp[D4]at h
 |_::_::_::_::_,h=>simp[D4]at h
theorem T1:kinds Try.prog 30=[.int .i64,.int .i64,.int .i64]:=by kernel_rfl
theorem ur(a b c x y z:Int):MB Try.prog 40 30 [iv a,iv b,iv c] [iv x,iv y,iv z]=some (((a==x)&&((b==y)&&true))&&((c==z)&&true)):=by kernel_rfl
theorem dL(a b c:Int)(em:Bool)(w:World):(Instr.checkKey em 10000 30 (.agg #[.int .i64 a,.int .i64 b,.int .i64 c])).run Try.prog w=.ok () w:=by kernel_rfl
theorem ba:Dh Try.prog 30=true:=by kernel_rfl
theorem uu:Try.prog.underlying 3=some (.int .i64):=by kernel_rfl
theorem mA:HL Try.prog 30:=by
 refine .wide ba (fun C p V hp hv em w=>?_) (fun xs ys hx hy=>?_)
 ·obtain⟨a1,a2⟩:=um hp hv ba;have hw:=(TX hp).1;rw[T1]at hw;obtain⟨a,b,c,e⟩:=wt3 hw;have:V.cells = #[.int .i64 a,.int .i64 b,.int .i64 c]:=by
   rw[e]at a1;have h2:V.cells.toList.map PV.val=[Value.int .i64 a,.int .i64 b,.int .i64 c].map PV.val:=a1;exact BD (List.map_inj_right (fun x y hxy=>by cases hxy;rfl) |>.1 h2)
  rw[a2,this];exact dL a b c em w
 ·rw[T1]at hx hy;obtain⟨a,b,c,rfl⟩:=wt3 hx;obtain⟨x,y,z,rfl⟩:=wt3 hy;rw[ur];simp only[Y8,yL,Bq,Bool.and_assoc]
theorem uw:HL Try.prog 3:=.int uu
abbrev xw:List TypeId:=[30,3]
theorem UZ:∀ K,K∈xw->HL Try.prog K:=fun K h=>by
 simp only[xw,AK,B8,Cu]at h;rcases h with rfl |rfl
 ·exact mA
 ·exact uw
noncomputable def N0:CY:=({}:CY).J6 Try.prog xw [43]
theorem yM:CG Try.prog N0.env:=FK.J6 UZ
end Go.Hn
