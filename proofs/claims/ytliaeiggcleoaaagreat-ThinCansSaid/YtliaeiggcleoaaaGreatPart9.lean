/- Network: Joined and Stops as contracts. -/
import Derived.Test.YtliaeiggcleoaaaGreatPart7
import Derived.Test.YtliaeiggcleoaaaGreatPart8
import Derived.Test.YtliaeiggcleoaaaGreatPart5
namespace Go.Hn
open Go.Hx Go.Hg Go.Proofs
noncomputable def NK:Ad:=N2.addK 60
theorem okNK:Ab Tryz.prog NK.env:=ok2.addK 60
def stpT (L:List PV) (lv:Int):PV:=.tup [stF L lv,stL L lv]
theorem qSt2 (i:Int) (f:Bool) (L:List PV) (lv:Int) (cs nm:ByteArray) (st:Bool) (wt ds:Int):(Ah Tryz.prog NK 60 20 [wayv i f L lv cs nm st wt ds]) =
 bif (L.length:Int)==0 then some (.tup [Ai 0 0 0,Ai 0 0 0]) else
  bif decide ((0:Int)<=0)&&decide ((0:Int)<(L.length:Int)) then bif decide (0<=lastI L)&&decide (lastI L<(L.length:Int)) then some (stpT L lv) else none else none:=by kernel_rfl
def zi (L:List PV) (x:Int):Int:=bif (L.length:Int)==0 then 0 else x
abbrev stA (L:List PV) (lv:Int):PV:=Ai (zi L (ptX L 0)) (zi L (ptY L 0)) (zi L lv)
abbrev stZ (L:List PV) (lv:Int):PV:=Ai (zi L (ptX L (lastI L).toNat)) (zi L (ptY L (lastI L).toNat)) (zi L lv)
def cSt2:List PV->Option (DT PV)
 | [.agg [.val (.int .i64 _),.Ac _ 37 L,.val (.int .i64 lv),.val (.string _),.val (.string _),.val (.bool _),.val (.int .i64 _),.val (.int .i64 _)]]=>some (.br (An L) (.leaf (.tup [stA L lv,stZ L lv])) .no)
 | _=>none
theorem stB_of {L:List PV} (h:An L=true) (h0:((L.length:Int)==0)=false):(decide ((0:Int)<=0)&&decide ((0:Int)<(L.length:Int)))=true/\(decide (0<=lastI L)&&decide (lastI L<(L.length:Int)))=true:=by
 simp only[decide_eq_true_eq] at h
 have h1:(L.length:Int) ≠ 0:=by simpa using h0
 have:lastI L=(L.length:Int)-1:=W_id (by omega) (by omega)
 rw[this]
 simp only[Bool.and_eq_true,decide_eq_true_eq]; omega
theorem qSt2' (i:Int) (f:Bool) (L:List PV) (lv:Int) (cs nm:ByteArray) (st:Bool) (wt ds:Int) (h:An L=true):(Ah Tryz.prog NK 60 20 [wayv i f L lv cs nm st wt ds])=some (.tup [stA L lv,stZ L lv]):=by
 rw[qSt2]
 unfold stA stZ zi
 cases h0:(L.length:Int)==0 with
 | true=>rfl
 | false=>rw[cond_false,(stB_of h h0).1,(stB_of h h0).2]; rfl
theorem eSt2:Hx.Enters Tryz.prog 20:=(Aa okNK (qSt2' 0 false [] 0 .empty .empty false 0 0 rfl)).1
theorem oSt2 (args:List PV) (d:DT PV) (r:PV) (h:cSt2 args=some d) (hr:d.run=some r):Ak Tryz.prog 20 args r:=by
 unfold cSt2 at h; split at h
 ·rename_i i f L lv cs nm st wt ds
  cases h
  obtain ⟨h1,rfl⟩:=Aq hr
  exact (Aa okNK (qSt2' i f L lv cs nm st wt ds h1)).2
 ·cases h
def cStops2:List PV->Option (DT PV)
 | [.agg [.val (.int .i64 _),.Ac _ 37 L,.val (.int .i64 lv),.val (.string _),.val (.string _),.val (.bool _),.val (.int .i64 _),.val (.int .i64 _)]] =>
  some (.br ((L.length:Int)==0) (.leaf (.val (.slice none 0 0))) (.br (An L) (.leaf (.Ac false 39 [stF L lv,stL L lv])) .no))
 | _=>none
theorem oStops2 (args:List PV) (d:DT PV) (r:PV) (h:cStops2 args=some d) (hr:d.run=some r):Ak Tryz.prog 60 args r:=by
 unfold cStops2 at h; split at h
 ·rename_i i f L lv cs nm st wt ds
  cases h
  cases h0:(L.length:Int)==0 with
  | true =>
   rw[h0] at hr; cases hr
   exact (Aa ok2 (n:=60) (Eq.trans (qStops0 i f L lv cs nm st wt ds) (by rw[h0]; rfl))).2
  | false =>
   rw[h0] at hr
   obtain ⟨h1,rfl⟩:=Aq hr
   exact (Aa ok2 (n:=60) (Eq.trans (qStops0 i f L lv cs nm st wt ds) (by rw[h0,cond_false,(stB_of h1 h0).1,(stB_of h1 h0).2]; rfl))).2
 ·cases h
noncomputable def NJ:Ad:=N2.Ag 60 cStops2
theorem okNJ:Ab Tryz.prog NJ.env:=ok2.Ag eStops oStops2
def eqS (x y l u v m:Int):Bool:=((x==u)&&((y==v)&&true))&&((l==m)&&true)
def jnB (L:List PV) (lv:Int) (M:List PV) (mv:Int):Bool:=
 eqS (ptX L 0) (ptY L 0) lv (ptX M 0) (ptY M 0) mv||(eqS (ptX L 0) (ptY L 0) lv (ptX M (lastI M).toNat) (ptY M (lastI M).toNat) mv||(eqS (ptX L (lastI L).toNat) (ptY L (lastI L).toNat) lv (ptX M 0) (ptY M 0) mv||eqS (ptX L (lastI L).toNat) (ptY L (lastI L).toNat) lv (ptX M (lastI M).toNat) (ptY M (lastI M).toNat) mv))
def jnT (M:List PV) (mv x y l:Int) (k:Option PV):Option PV:=
 bif (M.length:Int)==0 then k else bif An M then
  bif eqS x y l (ptX M 0) (ptY M 0) mv then some (bv true) else bif eqS x y l (ptX M (lastI M).toNat) (ptY M (lastI M).toNat) mv then some (bv true) else k else none
theorem qJnd (i:Int) (f:Bool) (L:List PV) (lv:Int) (cs nm:ByteArray) (st:Bool) (wt ds:Int) (i':Int) (f':Bool) (M:List PV) (mv:Int) (cs' nm':ByteArray) (st':Bool) (wt' ds':Int):
 Ah Tryz.prog NJ 60 22 [wayv i f L lv cs nm st wt ds,wayv i' f' M mv cs' nm' st' wt' ds'] =
 bif (L.length:Int)==0 then some (bv false) else bif An L then jnT M mv (ptX L 0) (ptY L 0) lv (jnT M mv (ptX L (lastI L).toNat) (ptY L (lastI L).toNat) lv (some (bv false))) else none:=by kernel_rfl
def jn (L:List PV) (lv:Int) (M:List PV) (mv:Int):Bool:=!((L.length:Int)==0)&&(!((M.length:Int)==0)&&jnB L lv M mv)
theorem jnT_eq (L:List PV) (lv:Int) (M:List PV) (mv:Int) (h1:An L=true) (h2:An M=true):
  (bif (L.length:Int)==0 then some (bv false) else bif An L then jnT M mv (ptX L 0) (ptY L 0) lv (jnT M mv (ptX L (lastI L).toNat) (ptY L (lastI L).toNat) lv (some (bv false))) else none)=some (bv (jn L lv M mv)):=by
 unfold jn jnT jnB
 rw[h1,h2]
 cases (L.length:Int)==0 <;> cases (M.length:Int)==0 <;> cases eqS (ptX L 0) (ptY L 0) lv (ptX M 0) (ptY M 0) mv <;> cases eqS (ptX L 0) (ptY L 0) lv (ptX M (lastI M).toNat) (ptY M (lastI M).toNat) mv <;> cases eqS (ptX L (lastI L).toNat) (ptY L (lastI L).toNat) lv (ptX M 0) (ptY M 0) mv <;> cases eqS (ptX L (lastI L).toNat) (ptY L (lastI L).toNat) lv (ptX M (lastI M).toNat) (ptY M (lastI M).toNat) mv <;> rfl
def cJnd:List PV->Option (DT PV)
 | [.agg [.val (.int .i64 _),.Ac _ 37 L,.val (.int .i64 lv),.val (.string _),.val (.string _),.val (.bool _),.val (.int .i64 _),.val (.int .i64 _)],.agg [.val (.int .i64 _),.Ac _ 37 M,.val (.int .i64 mv),.val (.string _),.val (.string _),.val (.bool _),.val (.int .i64 _),.val (.int .i64 _)]] =>
  some (.br (An L&&An M) (.leaf (bv (jn L lv M mv))) .no)
 | _=>none
theorem qJnd' (i:Int) (f:Bool) (L:List PV) (lv:Int) (cs nm:ByteArray) (st:Bool) (wt ds:Int) (i':Int) (f':Bool) (M:List PV) (mv:Int) (cs' nm':ByteArray) (st':Bool) (wt' ds':Int) (h1:An L=true) (h2:An M=true):
 Ah Tryz.prog NJ 60 22 [wayv i f L lv cs nm st wt ds,wayv i' f' M mv cs' nm' st' wt' ds']=some (bv (jn L lv M mv)):=(qJnd ..).trans (jnT_eq L lv M mv h1 h2)
theorem eJnd:Hx.Enters Tryz.prog 22:=(Aa okNJ (qJnd' 0 false [] 0 .empty .empty false 0 0 0 false [] 0 .empty .empty false 0 0 rfl rfl)).1
theorem oJnd (args:List PV) (d:DT PV) (r:PV) (h:cJnd args=some d) (hr:d.run=some r):Ak Tryz.prog 22 args r:=by
 unfold cJnd at h; split at h
 ·rename_i i f L lv cs nm st wt ds i' f' M mv cs' nm' st' wt' ds'
  cases h
  obtain ⟨h1,rfl⟩:=Aq hr
  rw[Bool.and_eq_true] at h1
  exact (Aa okNJ (qJnd' i f L lv cs nm st wt ds i' f' M mv cs' nm' st' wt' ds' h1.1 h1.2)).2
 ·cases h
end Go.Hn
/- Network: Stops and Joined in the environment (a program without the sanity of chapter 8). -/
namespace Go.Hn
open Go.Hx Go.Hg Go.Proofs
noncomputable def L0:Ad:=(E35.Ag 20 cSt2).Ag 22 cJnd
theorem okL0:Ab Tryz.prog L0.env:=(ok35.Ag eSt2 oSt2).Ag eJnd oJnd
end Go.Hn
/- Network: the numbers that made ways are drawn from. -/
namespace Go.Hn
open Go.Hx Go.Hg Go.Proofs
def dv (es:List PV) (k:Nat):Int:=((es.getD k .any).cellAt 0).getI
def dI (es:List PV) (a n:Int):Int:=if (es.length:Int)<=a then 0 else dv es a.toNat % n
def aI (es:List PV) (a:Int):Int:=if (es.length:Int)<=a then a else a+1
abbrev drI (f:Bool) (es:List PV) (a:Int):Row:=r1 87 2 (.agg [.Ac f 3 es,iv a])
def okA (a n:Int):Bool:=decide (0<=a)&&decide (a<4611686018427387904)&&decide (0<n)&&decide (n<=4611686018427387904)
def fI (f:Bool) (es:List PV) (a:Int):Bool:=f&&decide ((es.length:Int)<=a)
def cNxI:List PV->List Row->Option (DT (PV × List Row))
 | [.ptr 0 1 0 0,.val (.int .i64 n)],[⟨[.agg [.Ac f 3 es,.val (.int .i64 a)]],2,87,true,true,false,none,false⟩] =>
  some (.br (okA a n) (.leaf (iv (dI es a n),[drI (fI f es a) es (aI es a)])) .no)
 | _,_=>none
theorem qNxI (es:List PV) (a:Int) (f:Bool) (n:Int):runR Tryz.prog L0 60 0 48 [.ptr 0 1 0 0,iv n] [drI f es a] =
 bif decide (a ≥ ((es.length:Nat):Int)) then some (iv 0,[drI f es a])
 else bif decide (0<=W (W (a+1)-1))&&decide (W (W (a+1)-1)<((es.length:Nat):Int)) then
  bif decide (0<n)&&decide (n<=4611686018427387904) then some (iv (dv es (W (W (a+1)-1)).toNat % n),[drI false es (W (a+1))]) else none
 else none:=by kernel_rfl
theorem eNxt:Hx.Enters Tryz.prog 48:=(runR_sound okL0 (n:=60) (ro:=0) (args:=[.ptr 0 1 0 0,iv 1]) (H:=[drI true [] 0]) (p:=iv 0) (H':=[drI true [] 0]) (by kernel_rfl)).1
theorem oNxI (args:List PV) (H:List Row) (d:DT (PV × List Row)) (p:PV) (H':List Row) (h:cNxI args H=some d) (hd:d.run=some (p,H')):RCall Tryz.prog 0 48 args H p H':=by
 unfold cNxI at h; split at h
 ·rename_i n f es a
  cases h
  obtain ⟨hc,he⟩:=Aq hd
  cases he
  unfold okA at hc
  simp only[Bool.and_eq_true,decide_eq_true_eq] at hc
  obtain ⟨⟨⟨h0,h3⟩,h1⟩,h2⟩:=hc
  refine (runR_sound okL0 (n:=60) ?_).2
  rw[qNxI]
  have hw1:W (a+1)=a+1:=W_id (by omega) (by omega)
  have hw:W (W (a+1)-1)=a:=by rw[hw1,W_id (by omega) (by omega)]; omega
  unfold dI aI fI
  by_cases hk:(es.length:Int)<=a
  ·have g1:decide (a ≥ ((es.length:Nat):Int))=true:=by simp; omega
   rw[g1,if_pos hk,if_pos hk,Bool.and_true]; rfl
  ·have g1:decide (a ≥ ((es.length:Nat):Int))=false:=by simp; omega
   have g2:(decide (0<=a)&&decide (a<((es.length:Nat):Int)))=true:=by simp; omega
   rw[g1,hw,g2,hw1,if_neg (by omega),if_neg (by omega)]
   simp only[Bool.and_false,h1,h2,decide_true,Bool.and_true,cond_true,cond_false]
 ·cases h
noncomputable def L1:Ad:=((L0.addR 48 cNxI).addDrop 11 13 2).addN 11 5 [(4,44,8)]
theorem okL1:Ab Tryz.prog L1.env:=((okL0.addR eNxt oNxI).addDrop 11 13 2).addN 11 5 [(4,44,8)]
end Go.Hn
/- Network: a round of the making of ways. -/
namespace Go.Hn
open Go.Hx Go.Hg Go.Proofs
def shM:Hx.S1:=⟨71,[(3,.ptr 0 1 0 0),(4,.sl 1),(5,I64),(6,I64)],[.one 87 2 (.agg [.Ac 3,I64]),.many 44 8]⟩
abbrev lM (n l:Nat) (many k:Int) (f:Bool) (L:List PV) (a:Int) (nl:Bool) (es:List PV):LS:=([.n n,.n l,.i many,.i k],[.l f L,.i a,.l nl es])
noncomputable abbrev hM (f:Bool) (L:List PV) (a:Int) (nl:Bool) (es:List PV):List Row:=(shM.put (lM 0 0 0 0 f L a nl es)).2
def roomW (es:List PV) (n l:Nat):Bool:=decide (es.length=n)&&decide (n=l)&&decide ((n+1)*96<=140737488355328)
abbrev mkW (i:Int) (ps:List PV) (lv wt:Int) (st:Bool):PV:=.agg [iv i,.Ac false 37 ps,iv lv,.val (.string ⟨#[112,97,116,104]⟩),.val (.string ⟨#[]⟩),bv st,iv wt,iv 1]
def lvA (d:Int):Int:=((([iv 0,iv 0,iv 1,iv (-1)]:List PV).getD (0+d.toNat) .any).cellAt 0).getI
abbrev sptP (d:Int):PV:=ptv (W (10*Int.tmod d 3)) (W (10*W (Int.tdiv d 3)))
def a1 (L:List PV) (a:Int):Nat->Int
 | 0=>a
 | n+1=>aI L (a1 L a n)
def f1 (f:Bool) (L:List PV) (a:Int):Nat->Bool
 | 0=>f
 | n+1=>fI (f1 f L a n) L (a1 L a n)
abbrev d1 (L:List PV) (a:Int) (j:Nat) (n:Int):Int:=dI L (a1 L a j) n
theorem qM (n l:Nat) (many k:Int) (f:Bool) (L:List PV) (a:Int) (nl:Bool) (es:List PV):Al Tryz.prog L1 60 11 (Ao Tryz.f11 5) [3,4,5,6] [4] (shM.put (lM n l many k f L a nl es)).1 (shM.put (lM n l many k f L a nl es)).2 =
 bif decide (k<many) then bif okA (a1 L a 0) 9 then bif okA (a1 L a 1) 9 then bif okA (a1 L a 2) 4 then bif decide (0<=d1 L a 2 4)&&decide (d1 L a 2 4<(4:Int)) then bif okA (a1 L a 3) 20 then bif okA (a1 L a 4) 4 then
  bif d1 L a 4 4==0 then bif okA (a1 L a 5) 2 then bif okA (a1 L a 6) 2 then bif okA (a1 L a 7) 3 then bif roomW es n l then
   some (.normal,shM.put (lM (n+1) (n+1) many (W (k+1)) (f1 f L a 8) L (a1 L a 8) (nl&&false) (es++[mkW (W (1+k)) [sptP (d1 L a 0 9),ptv (W (5+W (10*d1 L a 5 2))) (W (5+W (10*d1 L a 6 2))),sptP (d1 L a 1 9)] (lvA (d1 L a 2 4)) (W (1+d1 L a 3 20)) (d1 L a 7 3==0)]))) else none else none else none else none
  else bif okA (a1 L a 5) 3 then bif roomW es n l then
   some (.normal,shM.put (lM (n+1) (n+1) many (W (k+1)) (f1 f L a 6) L (a1 L a 6) (nl&&false) (es++[mkW (W (1+k)) [sptP (d1 L a 0 9),sptP (d1 L a 1 9)] (lvA (d1 L a 2 4)) (W (1+d1 L a 3 20)) (d1 L a 5 3==0)]))) else none else none
  else none else none else none else none else none else none
 else some (.exit 0,tm 71 [(4,.sl 1 n 0 l)],hM f L a nl es):=by kernel_rfl
end Go.Hn
/- Network: made ways as a contract. -/
namespace Go.Hn
open Go.Hx Go.Hg Go.Proofs
theorem dI_ge (es:List PV) (k:Int) {n:Int} (h:0<n):0<=dI es k n:=by unfold dI; split; exact Int.le_refl _; exact Int.emod_nonneg _ (by omega)
theorem dI_lt (es:List PV) (k:Int) {n:Int} (h:0<n):dI es k n<n:=by unfold dI; split; exact h; exact Int.emod_lt_of_pos _ h
theorem aI_le (es:List PV) (a:Int):a<=aI es a/\aI es a<=a+1:=by unfold aI; split <;> omega
theorem a1_le (L:List PV) (a:Int):∀ n:Nat,a<=a1 L a n/\a1 L a n<=a+n
 | 0=>by simp[a1]
 | n+1=>by
  have h1:=a1_le L a n
  have h2:=aI_le L (a1 L a n)
  simp only[a1]; omega
def cornB (L:List PV) (a:Int):Bool:=d1 L a 4 4==0
def mPs (L:List PV) (a:Int):List PV:=bif cornB L a then [sptP (d1 L a 0 9),ptv (W (5+W (10*d1 L a 5 2))) (W (5+W (10*d1 L a 6 2))),sptP (d1 L a 1 9)] else [sptP (d1 L a 0 9),sptP (d1 L a 1 9)]
def mCt (L:List PV) (a:Int):Nat:=bif cornB L a then 8 else 6
def mSt (L:List PV) (a:Int):Bool:=d1 L a (mCt L a-1) 3==0
def mW (L:List PV) (k a:Int):PV:=mkW (W (1+k)) (mPs L a) (lvA (d1 L a 2 4)) (W (1+d1 L a 3 20)) (mSt L a)
def mList (L:List PV):Nat->Int->Int->List PV
 | 0,_,_=>[]
 | m+1,k,a=>mW L k a::mList L m (k+1) (a1 L a (mCt L a))
def mEnd (L:List PV):Nat->Int->Bool->Int × Bool
 | 0,a,f=>(a,f)
 | m+1,a,f=>mEnd L m (a1 L a (mCt L a)) (f1 f L a (mCt L a))
theorem mList_len (L:List PV):∀ (m:Nat) (k a:Int),(mList L m k a).length=m
 | 0,_,_=>rfl
 | m+1,k,a=>by rw[mList,List.length_cons,mList_len L m]
def pM:LS->Bool
 | ([.n n,.n l,.i many,.i k],[.l _ _,.i a,.l _ es])=>decide (0<=k)&&decide (k<=many)&&decide (many<=7)&&decide (n=es.length)&&decide (l=n)&&decide ((n:Int)<=k)&&(decide (0<=a)&&decide (a<=1+8*k))
 | _=>false
noncomputable def fM:LS->DT (PX × List PV × List Row)
 | ([.n n,.n _,.i many,.i k],[.l f L,.i a,.l nl es])=>.leaf (.exit 0,tm 71 [(4,.sl 1 (n+(many-k).toNat) 0 (n+(many-k).toNat))],
   hM (mEnd L (many-k).toNat a f).2 L (mEnd L (many-k).toNat a f).1 (nl&&decide ((many-k).toNat=0)) (es++mList L (many-k).toNat k a))
 | _=>.no
def mM:LS->Nat
 | ([.n _,.n _,.i many,.i k],[.l _ _,.i _,.l _ _])=>(many-k).toNat
 | _=>0
theorem sM:∀ s r,pM s=true->(fM s).run=some r->r.1 ≠ .normal/\(Al Tryz.prog L1 60 11 (Ao Tryz.f11 5) [3,4,5,6] [4] (shM.put s).1 (shM.put s).2=some r \/
   ∃ s',Al Tryz.prog L1 60 11 (Ao Tryz.f11 5) [3,4,5,6] [4] (shM.put s).1 (shM.put s).2=some (.normal,shM.put s')/\pM s'=true/\mM s'<mM s/\(fM s').run=some r):=by
 intro s r hp hr
 unfold pM at hp; split at hp
 ·rename_i n l many k f L a nl es
  simp only[Bool.and_eq_true,decide_eq_true_eq] at hp
  obtain ⟨⟨⟨⟨⟨⟨h1,h2⟩,h3⟩,h4⟩,h5⟩,h6⟩,h7,h8⟩:=hp
  have hr':=(Option.some.inj hr).symm
  refine ⟨by rw[hr']; simp,?_⟩
  rw[show shM.put ([.n n,.n l,.i many,.i k],[.l f L,.i a,.l nl es])=shM.put (lM n l many k f L a nl es) from rfl,qM]
  subst h4 h5
  by_cases hi:k<many
  ·have hw:=W_id (n:=k+1) (by omega) (by omega)
   have hroom:roomW es es.length es.length=true:=by unfold roomW; simp; omega
   have ok:∀ (j:Nat) {n:Int},j<=8->0<n->n<=1000->okA (a1 L a j) n=true:=fun j n g1 g2 g3=>by
    have:=a1_le L a j
    unfold okA; simp; omega
   have e4:=dI_ge L (a1 L a 2) (n:=4) (by omega)
   have e5:=dI_lt L (a1 L a 2) (n:=4) (by omega)
   rw[decide_eq_true hi,hroom,hw,ok 0 (by omega) (by omega) (by omega),ok 1 (by omega) (by omega) (by omega),ok 2 (by omega) (by omega) (by omega),ok 3 (by omega) (by omega) (by omega),ok 4 (by omega) (by omega) (by omega),ok 5 (by omega) (by omega) (by omega),ok 5 (by omega) (by omega) (by omega),ok 6 (by omega) (by omega) (by omega),ok 7 (by omega) (by omega) (by omega),decide_eq_true e4,decide_eq_true e5]
   simp only[cond_true,Bool.and_false,Bool.and_self]
   obtain ⟨m,hm⟩:∃ m,(many-k).toNat=m+1:=⟨(many-k).toNat-1,by omega⟩
   have hm2:(many-(k+1)).toNat=m:=by omega
   rw[hm] at hr'
   simp only[mList,mEnd,mW,mPs,mSt,mCt] at hr'
   have hc:cornB L a=(d1 L a 4 4==0):=rfl
   have g8:=a1_le L a 8
   have g6:=a1_le L a 6
   right
   cases h0:d1 L a 4 4==0 with
   | true =>
    rw[hc,h0] at hr'
    simp only[cond_true] at hr' ⊢
    refine ⟨lM (es.length+1) (es.length+1) many (k+1) (f1 f L a 8) L (a1 L a 8) false (es++[mkW (W (1+k)) [sptP (d1 L a 0 9),ptv (W (5+W (10*d1 L a 5 2))) (W (5+W (10*d1 L a 6 2))),sptP (d1 L a 1 9)] (lvA (d1 L a 2 4)) (W (1+d1 L a 3 20)) (d1 L a 7 3==0)]),rfl,by simp[pM]; omega,by simp only[mM]; omega,?_⟩
    rw[hr']
    simp only[fM,hm2,List.append_assoc,List.cons_append,List.nil_append,Bool.false_and]
    rw[show es.length+1+m=es.length+(m+1) by omega]
    simp[DT.run]
   | false =>
    rw[hc,h0] at hr'
    simp only[cond_false] at hr' ⊢
    refine ⟨lM (es.length+1) (es.length+1) many (k+1) (f1 f L a 6) L (a1 L a 6) false (es++[mkW (W (1+k)) [sptP (d1 L a 0 9),sptP (d1 L a 1 9)] (lvA (d1 L a 2 4)) (W (1+d1 L a 3 20)) (d1 L a 5 3==0)]),rfl,by simp[pM]; omega,by simp only[mM]; omega,?_⟩
    rw[hr']
    simp only[fM,hm2,List.append_assoc,List.cons_append,List.nil_append,Bool.false_and]
    rw[show es.length+1+m=es.length+(m+1) by omega]
    simp[DT.run]
  ·rw[decide_eq_false hi]
   rw[show (many-k).toNat=0 by omega] at hr'
   exact .inl (by rw[hr']; simp[mEnd,mList])
 ·cases hp
noncomputable def L1a:Ad:=L1.addW 11 5 [3,4,5,6] [] shM pM fM
theorem okL1a:Ab Tryz.prog L1a.env:=
 okL1.addW (n:=60) Tryz.func11 (show Tryz.f11.body=some (bod Tryz.f11) by kernel_rfl) (show (loops (bod Tryz.f11)).filter (fun b=>rid b==5)=[Ao Tryz.f11 5] by kernel_rfl) [3,4,5,6] [4] [] shM mM sM
def rM (g:List PV) (N:Nat):Option PV:=bif g.length==N then some (.Ac false 44 ((g.drop 0).take N)) else none
theorem qMade (f:Bool) (L:List PV):Ah Tryz.prog L1a 60 11 [.Ac f 3 L] =
 bif okA 0 7 then bif pM (lM 0 0 (dI L 0 7) 0 (fI f L 0) L (aI L 0) true []) then rM ([]++mList L (dI L 0 7-0).toNat 0 (aI L 0)) (0+(dI L 0 7-0).toNat) else none else none:=by kernel_rfl
def madeW (L:List PV):List PV:=mList L (dI L 0 7).toNat 0 (aI L 0)
theorem qMade' (f:Bool) (L:List PV):Ah Tryz.prog L1a 60 11 [.Ac f 3 L]=some (.Ac false 44 (madeW L)):=by
 have h1:=dI_ge L 0 (n:=7) (by omega)
 have h2:=dI_lt L 0 (n:=7) (by omega)
 have h3:=aI_le L 0
 rw[qMade,show okA 0 7=true by decide,show pM (lM 0 0 (dI L 0 7) 0 (fI f L 0) L (aI L 0) true [])=true by simp[pM]; omega]
 unfold rM madeW
 rw[show (dI L 0 7-0).toNat=(dI L 0 7).toNat by omega,List.nil_append,Nat.zero_add,mList_len,beq_self_eq_true,List.drop_zero,List.take_of_length_le (by rw[mList_len]; exact Nat.le_refl _)]
 rfl
def cMade:List PV->Option PV
 | [.Ac _ 3 L]=>some (.Ac false 44 (madeW L))
 | _=>none
theorem oMade (args:List PV) (r:PV) (h:cMade args=some r):Hx.Enters Tryz.prog 11/\Ak Tryz.prog 11 args r:=by
 unfold cMade at h; split at h
 ·cases h; exact Aa okL1a (n:=60) (qMade' _ _)
 ·cases h
end Go.Hn
/- Network: plain law of the union-find: what root and join come to. -/
namespace Go.Hn
open Go.Hx Go.Hg Go.Proofs
theorem keq_sv (a b:S3):keq (sv a) (sv b)=decide (a=b):=by
 obtain ⟨a1,a2,a3⟩:=a; obtain ⟨b1,b2,b3⟩:=b
 show ((a1==b1)&&((a2==b2)&&((a3==b3)&&true)))=_
 rw[Bool.eq_iff_iff]
 simp[Prod.mk.injEq]
def OkD (D:List (PV × PV)):Prop:=∀ x ∈ D,∃ a b:S3,x=(sv a,sv b)
theorem okD_nil:OkD []:=fun x h=>by cases h
theorem OkD.tail {x:PV × PV} {D:List (PV × PV)} (h:OkD (x::D)):OkD D:=fun y hy=>h y (.tail _ hy)
theorem OkD.put:∀ {D:List (PV × PV)} (_:OkD D) (a b:S3),OkD (mput D (sv a) (sv b))
 | [],_,a,b=>fun x hx=>by
  simp only[mput,List.mem_singleton] at hx; exact ⟨a,b,hx⟩
 | (k,w)::D,h,a,b=>fun x hx=>by
  unfold mput at hx
  cases hk:keq (sv a) k with
  | true =>
   rw[hk,cond_true] at hx
   rcases List.mem_cons.1 hx with h1 | h1
   ·exact ⟨a,b,h1⟩
   ·exact h x (.tail _ h1)
  | false =>
   rw[hk,cond_false] at hx
   rcases List.mem_cons.1 hx with h1 | h1
   ·exact h x (h1 ▸ .head _)
   ·exact OkD.put h.tail a b x h1
theorem mhas_put:∀ {D:List (PV × PV)} (_:OkD D) (a s:S3) (v:PV),mhas (mput D (sv a) v) (sv s)=(decide (s=a)||mhas D (sv s))
 | [],_,a,s,v=>by simp only[mput,mhas,keq_sv]
 | (k,w)::D,h,a,s,v=>by
  obtain ⟨c,d,hc⟩:=h (k,w) (.head _)
  cases hc
  unfold mput
  rw[keq_sv]
  by_cases hac:a=c
  ·subst hac
   rw[decide_eq_true rfl,cond_true]
   simp only[mhas,keq_sv,<- Bool.or_assoc,Bool.or_self]
  ·rw[decide_eq_false hac,cond_false]
   simp only[mhas,mhas_put h.tail,keq_sv]
   rw[Bool.or_left_comm]
theorem mget_put:∀ {D:List (PV × PV)} (_:OkD D) (a s:S3) (v z:PV),mget z (mput D (sv a) v) (sv s)=if s=a then v else mget z D (sv s)
 | [],_,a,s,v,z=>by
  simp only[mput,mget,keq_sv]
  by_cases h:s=a <;> simp[h]
 | (k,w)::D,h,a,s,v,z=>by
  obtain ⟨c,d,hc⟩:=h (k,w) (.head _)
  cases hc
  unfold mput
  rw[keq_sv]
  by_cases hac:a=c
  ·subst hac
   rw[decide_eq_true rfl,cond_true]
   simp only[mget,keq_sv]
   by_cases hs:s=a <;> simp[hs]
  ·rw[decide_eq_false hac,cond_false]
   simp only[mget,mget_put h.tail,keq_sv]
   by_cases hs:s=c
   ·subst hs; simp[Ne.symm hac]
   ·simp[hs]
def par (D:List (PV × PV)) (s:S3):S3:=if mhas D (sv s)=true then (gS D s.1 s.2.1 s.2.2 0,gS D s.1 s.2.1 s.2.2 1,gS D s.1 s.2.1 s.2.2 2) else s
theorem par_nil (s:S3):par [] s=s:=rfl
theorem par_put {D:List (PV × PV)} (h:OkD D) (a b s:S3):par (mput D (sv a) (sv b)) s=if s=a then b else par D s:=by
 unfold par gS
 rw[show Ai s.1 s.2.1 s.2.2=sv s from rfl,mhas_put h,mget_put h]
 by_cases hs:s=a
 ·simp only[hs,decide_true,Bool.true_or,if_true]; rfl
 ·simp[hs]
theorem up_iff (D:List (PV × PV)) (s:S3):(mhas D (Ai s.1 s.2.1 s.2.2)&&upB D s.1 s.2.1 s.2.2)=decide (par D s ≠ s):=by
 unfold par upB
 rw[show Ai s.1 s.2.1 s.2.2=sv s from rfl]
 cases hm:mhas D (sv s) with
 | false=>simp
 | true =>
  obtain ⟨x,y,l⟩:=s
  rw[Bool.eq_iff_iff]
  simp only[if_true,Bool.true_and,Bool.and_true,Bool.not_eq_true',Bool.and_eq_false_iff,beq_eq_false_iff_ne,ne_eq,decide_eq_true_eq,Prod.mk.injEq]
  constructor
  ·intro h1 h2
   rcases h1 with (h1 | h1) | h1
   ·exact h1 h2.1
   ·exact h1 h2.2.1
   ·exact h1 h2.2.2
  ·intro h1
   by_cases e1:gS D x y l 0=x
   ·by_cases e2:gS D x y l 1=y
    ·exact .inr fun e3=>h1 ⟨e1,e2,e3⟩
    ·exact .inl (.inr e2)
   ·exact .inl (.inl e1)
structure Inv (D:List (PV × PV)) (n:Nat) (R:S3->S3) (h:S3->Nat):Prop where
 ok:OkD D
 par:∀ s,R (par D s)=R s
 root:∀ s,Hn.par D s=s->R s=s
 fix:∀ s,R s=s->Hn.par D s=s/\h s=0
 idem:∀ s,R (R s)=R s
 dec:∀ s,Hn.par D s ≠ s->h (Hn.par D s)<h s
 le:∀ s,h s<=n
theorem inv_nil:Inv [] 0 id (fun _=>0):=⟨okD_nil,fun _=>rfl,fun _ _=>rfl,fun _ _=>⟨rfl,rfl⟩,fun _=>rfl,fun s h=>absurd (par_nil s) h,fun _=>Nat.le_refl _⟩
theorem Inv.zip {D:List (PV × PV)} {n:Nat} {R:S3->S3} {h:S3->Nat} (i:Inv D n R h) (s:S3):Inv (mput D (sv s) (sv (R s))) n R h:=by
 have hp:=par_put i.ok s (R s)
 refine ⟨i.ok.put _ _,fun t => ?_,fun t ht => ?_,fun t ht => ?_,i.idem,fun t ht => ?_,i.le⟩
 ·rw[hp]; by_cases e:t=s
  ·rw[if_pos e,e,i.idem]
  ·rw[if_neg e,i.par]
 ·rw[hp] at ht; by_cases e:t=s
  ·rw[if_pos e] at ht; rw[e] at ht ⊢; exact ht
  ·rw[if_neg e] at ht; exact i.root t ht
 ·rw[hp]; by_cases e:t=s
  ·rw[if_pos e,<- e,ht]; exact ⟨rfl,(i.fix t ht).2⟩
  ·rw[if_neg e]; exact i.fix t ht
 ·rw[hp] at ht ⊢; by_cases e:t=s
  ·rw[if_pos e] at ht ⊢
   rw[(i.fix (R s) (i.idem s)).2]
   rw[e] at ht ⊢
   have h1:Hn.par D s ≠ s:=fun e1=>ht (i.root s e1)
   exact Nat.lt_of_le_of_lt (Nat.zero_le _) (i.dec s h1)
  ·rw[if_neg e] at ht ⊢; exact i.dec t ht
theorem climb_inv {n:Nat} {R:S3->S3} {h:S3->Nat}:∀ (d:Nat) {D:List (PV × PV)} (_:Inv D n R h) (s:S3),h s<=d->∃ D',climbF d D s.1 s.2.1 s.2.2=some (R s,D')/\Inv D' n R h
 | 0,D,i,s,hs=>by
  have hp:par D s=s:=Classical.byContradiction fun e=>by have:=i.dec s e; omega
  refine ⟨D,?_,i⟩
  unfold climbF
  rw[up_iff,decide_eq_false (by simpa using hp),i.root s hp]; rfl
 | d+1,D,i,s,hs=>by
  by_cases hp:par D s=s
  ·refine ⟨D,?_,i⟩
   unfold climbF
   rw[up_iff,decide_eq_false (by simpa using hp),i.root s hp]; rfl
  ·have hd:=i.dec s hp
   obtain ⟨D1,h1,i1⟩:=climb_inv d i (par D s) (by omega)
   have hm:mhas D (sv s)=true:=by
    have:=up_iff D s
    rw[decide_eq_true hp,Bool.and_eq_true] at this
    exact this.1
   have hpar:par D s=(gS D s.1 s.2.1 s.2.2 0,gS D s.1 s.2.1 s.2.2 1,gS D s.1 s.2.1 s.2.2 2):=by unfold par; rw[if_pos hm]
   refine ⟨mput D1 (sv s) (sv (R s)),?_,i1.zip s⟩
   unfold climbF
   rw[up_iff,decide_eq_true hp,cond_true]
   have h2:climbF d D (gS D s.1 s.2.1 s.2.2 0) (gS D s.1 s.2.1 s.2.2 1) (gS D s.1 s.2.1 s.2.2 2)=some (R s,D1):=by
    rw[hpar] at h1; rw[<- i.par s,hpar]; exact h1
   rw[h2]; rfl
theorem cl_inv {D:List (PV × PV)} {n:Nat} {R:S3->S3} {h:S3->Nat} (i:Inv D n R h) (hn:n<=8) (s:S3):
  clB D s.1 s.2.1 s.2.2=true/\(clX D s.1 s.2.1 s.2.2,clY D s.1 s.2.1 s.2.2,clL D s.1 s.2.1 s.2.2)=R s/\Inv (clD D s.1 s.2.1 s.2.2) n R h:=by
 obtain ⟨D',h1,i'⟩:=climb_inv 8 i s (Nat.le_trans (i.le s) hn)
 unfold clB clX clY clL clD cl
 rw[h1]
 exact ⟨rfl,rfl,i'⟩
def joinR (R:S3->S3) (a b:S3):S3->S3:=fun s=>if R s=R a then R b else R s
theorem Inv.join {D : List (PV × PV)} {n : Nat} {R : S3 → S3} {h : S3 → Nat} (i : Inv D n R h) (a b : S3) : ∃ h', Inv (mput D (sv (R a)) (sv (R b))) (n + 1) (joinR R a b) h' := by
  have hp := par_put i.ok (R a) (R b)
  by_cases hab : R a = R b
  · refine ⟨h, i.ok.put _ _, ?_, ?_, ?_, ?_, ?_, fun s => Nat.le_succ_of_le (i.le s)⟩
    all_goals have hj : ∀ s, joinR R a b s = R s := fun s => by unfold joinR; rw [← hab]; split <;> simp_all
    all_goals try simp only [hj]
    all_goals have hq : ∀ s, Hn.par (mput D (sv (R a)) (sv (R b))) s = Hn.par D s := fun s => by
                rw [hp]; split
                · rename_i e; rw [e, ← hab, (i.fix (R a) (i.idem a)).1]
                · rfl
    all_goals try simp only [hq]
    · exact i.par
    · exact i.root
    · exact i.fix
    · exact i.idem
    · exact i.dec
  · refine ⟨fun s => if R s = R a then h s + 1 else h s, i.ok.put _ _, fun s => ?_, fun s hs => ?_, fun s hs => ?_, fun s => ?_, fun s hs => ?_, fun s => ?_⟩
    · rw [hp]
      by_cases e : s = R a
      · rw [if_pos e, e]; unfold joinR; rw [i.idem, i.idem, if_neg (fun x => hab x.symm), if_pos rfl]
      · rw [if_neg e]; unfold joinR; rw [i.par]
    · rw [hp] at hs
      by_cases e : s = R a
      · rw [if_pos e] at hs; exact absurd (e ▸ hs.symm : R a = R b) hab
      · rw [if_neg e] at hs
        have := i.root s hs
        unfold joinR
        rw [this, if_neg e]
    · unfold joinR at hs
      by_cases e : R s = R a
      · rw [if_pos e] at hs
        exfalso; apply hab; rw [← e, ← hs, i.idem]
      · rw [if_neg e] at hs
        have h1 : s ≠ R a := fun x => e (by rw [x, i.idem])
        rw [hp, if_neg h1]
        simp only [if_neg e]
        exact i.fix s hs
    · unfold joinR
      by_cases e : R s = R a
      · rw [if_pos e, i.idem, if_neg (fun x => hab x.symm)]
      · rw [if_neg e, i.idem, if_neg e]
    · rw [hp] at hs ⊢
      by_cases e : s = R a
      · rw [if_pos e] at hs ⊢
        rw [(i.fix (R b) (i.idem b)).2, e, i.idem, i.idem, if_neg (fun x : R b = R a => hab x.symm), if_pos rfl]; omega
      · rw [if_neg e] at hs ⊢
        simp only [i.par]
        have := i.dec s hs
        split <;> omega
    · have := i.le s
      split <;> omega
def Ap (e:PV):S3:=(fX e,fY e,wLv e)
def stZ3 (e:PV):S3:=(lX e,lY e,wLv e)
theorem joinE_inv {D:List (PV × PV)} {n:Nat} {R:S3->S3} {h:S3->Nat} (i:Inv D n R h) (hn:n<=8) {e:PV} (he:stB (wL e)=true):
  okJ D e=true/\∃ h',Inv (joinE D e) (n+1) (joinR R (Ap e) (stZ3 e)) h':=by
 obtain ⟨a1,a2,a3⟩:=cl_inv i hn (Ap e)
 obtain ⟨b1,b2,b3⟩:=cl_inv a3 hn (stZ3 e)
 refine ⟨?_,?_⟩
 ·unfold okJ; rw[he]
  show (clB D (Ap e).1 (Ap e).2.1 (Ap e).2.2&&clB (clD D (Ap e).1 (Ap e).2.1 (Ap e).2.2) (stZ3 e).1 (stZ3 e).2.1 (stZ3 e).2.2)=true
  rw[a1,b1]; rfl
 ·obtain ⟨h',i'⟩:=b3.join (Ap e) (stZ3 e)
  refine ⟨h',?_⟩
  rw[<- a2,<- b2] at i'
  exact i'
theorem un1_inv:∀ (es:List PV) {D:List (PV × PV)} {n:Nat} {R:S3->S3} {h:S3->Nat} (_:Inv D n R h),n+es.length<=8->(∀ e ∈ es,stB (wL e)=true) ->
  ∃ D' R' h',un1 es D=some D'/\Inv D' (n+es.length) R' h'/\(∀ s t,R s=R t->R' s=R' t)/\(∀ e ∈ es,R' (Ap e)=R' (stZ3 e)) /\
   ∀ f:S3->Prop,(∀ s,f (R s) ↔ f s)->(∀ e ∈ es,f (Ap e) ↔ f (stZ3 e))->∀ s,f (R' s) ↔ f s
 | [],D,n,R,h,i,_,_=>⟨D,R,h,rfl,i,fun _ _ e=>e,(fun _ he=>by cases he),fun f hf _=>hf⟩
 | e::es,D,n,R,h,i,hn,he=>by
  simp only[List.length_cons] at hn
  obtain ⟨o1,h1,i1⟩:=joinE_inv i (by omega) (he e (.head _))
  obtain ⟨D',R',h',c1,c2,c3,c4,c5⟩:=un1_inv es i1 (by omega) (fun x hx=>he x (.tail _ hx))
  have hj:joinR R (Ap e) (stZ3 e) (Ap e)=joinR R (Ap e) (stZ3 e) (stZ3 e):=by
   unfold joinR; rw[if_pos rfl]; split <;> rfl
  refine ⟨D',R',h',?_,?_,fun s t hst=>c3 s t ?_,fun x hx => ?_,fun f hf hw => ?_⟩
  ·unfold un1; rw[o1]; exact c1
  ·rw[show n+(e::es).length=n+1+es.length by simp only[List.length_cons]; omega]; exact c2
  ·unfold joinR; rw[hst]
  ·rcases List.mem_cons.1 hx with rfl | hx
   ·exact c3 _ _ hj
   ·exact c4 x hx
  ·refine c5 f (fun s => ?_) fun x hx=>hw x (.tail _ hx)
   unfold joinR
   split
   ·rename_i e1
    rw[hf,<- hw e (.head _),<- hf (Ap e),<- e1,hf]
   ·exact hf s
structure Top (es:List PV) (R:S3->S3):Prop where
 one:∀ e ∈ es,R (Ap e)=R (stZ3 e)
 least:∀ f:S3->Prop,(∀ e ∈ es,f (Ap e) ↔ f (stZ3 e))->∀ s,f (R s) ↔ f s
theorem un1_top {es:List PV} (hl:es.length<=8) (he:∀ e ∈ es,stB (wL e)=true):∃ D R h,un1 es []=some D/\Inv D es.length R h/\Top es R:=by
 obtain ⟨D,R,h,a1,a2,_,a4,a5⟩:=un1_inv es inv_nil (by simpa using hl) he
 exact ⟨D,R,h,a1,by simpa using a2,a4,fun f hf=>a5 f (fun _=>Iff.rfl) hf⟩
end Go.Hn
/- Network: Groups as one plain function. -/
namespace Go.Hn
open Go.Hx Go.Hg Go.Proofs
def rowsX (G:List (List PV × Nat)):List Row:=[mrow [],sboxR,atR []]++({ es:=G.zipIdx.map fun x=>.sl (4+x.2) x.1.2 0 x.1.2,s:=1,t:=22,bv:=false }::G.map fun g=>inR (srtI g.1))
def lenC:List (List PV × Nat)->Option PV->Option PV
 | [],e=>e
 | g::G,e=>bif (g.1.length==g.2) then bif (g.1.length==g.2&&g.2==g.2&&decide (g.2<4611686018427387904)) then lenC G e else none else none
def lstX (G:List (List PV × Nat)):List PV:=G.map fun g=>.agg [.Ac false 3 (((srtI g.1).drop 0).take g.2)]
def outX (G:List (List PV × Nat)) (m:Nat):Option PV:=lenC G (bif askAll 4 [] (rowsX G) then bif okS m m (lstX G) then bif (sortP (lstX G) m).length==m then some (.Ac false 22 (((sortP (lstX G) m).drop 0).take m)) else none else none else none)
def D1 (ws:List PV):List (PV × PV):=(un1 ws []).getD []
def R1 (ws:List PV):R2:=(grp2 ws (D1 ws) [] []).getD ([],[],[])
def grpX (ws:List PV):Option PV:=
 bif decide ((ws.length:Int)=(ws.length:Int))&&decide ((ws.length:Int)<=1000000)&&(un1 ws []).isSome then
  bif decide ((ws.length:Int)=(ws.length:Int))&&decide (ws.length<=6)&&(grp2 ws (D1 ws) [] []).isSome then
   bif Nat.beq (R1 ws).2.2.length 0 then some (.val (.slice none 0 0)) else
   bif Nat.beq (R1 ws).2.2.length 1 then outX (spn 1 (R1 ws).2.2) 1 else
   bif Nat.beq (R1 ws).2.2.length 2 then outX (spn 2 (R1 ws).2.2) 2 else
   bif Nat.beq (R1 ws).2.2.length 3 then outX (spn 3 (R1 ws).2.2) 3 else
   bif Nat.beq (R1 ws).2.2.length 4 then outX (spn 4 (R1 ws).2.2) 4 else
   bif Nat.beq (R1 ws).2.2.length 5 then outX (spn 5 (R1 ws).2.2) 5 else
   bif Nat.beq (R1 ws).2.2.length 6 then outX (spn 6 (R1 ws).2.2) 6 else none
  else none else none
theorem qX (f:Bool) (ws:List PV):Ah Tryz.prog N13 200 18 [.Ac f 44 ws]=grpX ws:=by kernel_rfl
end Go.Hn
/- Network: plain law of the groups: who is in which. -/
namespace Go.Hn
open Go.Hx Go.Hg Go.Proofs
theorem find2_sv {a:S3}:∀ (A:List S3) (q:Nat),(∀ n,find2 (sv a) A q=some n->∃ i,n=q+i/\A[i]? = some a)/\(find2 (sv a) A q=none->a ∉ A)
 | [],q=>⟨fun n h=>(by cases h),fun _ h=>(by cases h)⟩
 | s::A,q=>by
  unfold find2
  rw[keq_sv]
  by_cases e:a=s
  ·rw[decide_eq_true e]
   exact ⟨fun n h=>(by cases h; exact ⟨0,rfl,by rw[e]; rfl⟩),fun h=>(by cases h)⟩
  ·rw[decide_eq_false e]
   obtain ⟨h1,h2⟩:=find2_sv (a:=a) A (q+1)
   refine ⟨fun n h => ?_,fun h hm => ?_⟩
   ·obtain ⟨i,e1,e2⟩:=h1 n h
    exact ⟨i+1,by omega,by simpa using e2⟩
   ·rcases List.mem_cons.1 hm with h3 | h3
    ·exact e h3
    ·exact h2 h h3
def idsL (R:S3->S3) (ws:List PV) (a:S3):List Int:=(ws.filter fun e=>decide (R (Ap e)=a)).map wI
def gpL (R:S3->S3) (ws:List PV) (a:S3):List PV:=(idsL R ws a).map iv
def gp2 (R:S3->S3) (ws:List PV) (a:S3):List PV × Nat:=(gpL R ws a,(gpL R ws a).length)
theorem gpL_app (R:S3->S3) (ws:List PV) (e:PV) (a:S3):gpL R (ws++[e]) a=if R (Ap e)=a then gpL R ws a++[iv (wI e)] else gpL R ws a:=by
 unfold gpL idsL
 rw[List.filter_append]
 by_cases h:R (Ap e)=a <;> simp[h]
theorem gpL_none {R:S3->S3} {ws:List PV} {a:S3} (h:∀ e ∈ ws,R (Ap e) ≠ a):gpL R ws a=[]:=by
 unfold gpL idsL
 rw[List.filter_eq_nil_iff.2 (fun e he=>by simpa using h e he)]; rfl
theorem idsL_len (R:S3->S3) (ws:List PV) (a:S3):(idsL R ws a).length<=ws.length:=by
 unfold idsL; rw[List.length_map]; exact List.length_filter_le _ _
theorem gpL_len (R:S3->S3) (ws:List PV) (a:S3):(gpL R ws a).length<=ws.length:=by
 unfold gpL; rw[List.length_map]; exact idsL_len R ws a
theorem grp2_inv {n:Nat} (hn:n<=8) {R:S3->S3} {h:S3->Nat}:∀ (es done:List PV) {D:List (PV × PV)} {A:List S3} (_:Inv D n R h),(∀ e ∈ es,stB (wL e)=true)->A.Nodup->(∀ a,a ∈ A ↔ ∃ e ∈ done,R (Ap e)=a)->(done++es).length<=1000000 ->
  ∃ (D':List (PV × PV)) (A':List S3),grp2 es D A (A.map (gp2 R done))=some (D',A',A'.map (gp2 R (done++es)))/\A'.Nodup/\∀ a,a ∈ A' ↔ ∃ e ∈ done++es,R (Ap e)=a
 | [],done,D,A,i,_,hA,hm,_=>⟨D,A,by rw[List.append_nil]; rfl,hA,by rw[List.append_nil]; exact hm⟩
 | e::es,done,D,A,i,he,hA,hm,hl=>by
  obtain ⟨c1,c2,c3⟩:=cl_inv i hn (Ap e)
  have hr:rtE D e=sv (R (Ap e)):=by rw[<- c2]; rfl
  have hr3:rt3 D e=R (Ap e):=by rw[<- c2]; rfl
  have ho:okE D e=true:=by unfold okE; rw[he e (.head _)]; exact c1
  obtain ⟨f1,f2⟩:=find2_sv (a:=R (Ap e)) A 0
  have happ:done++e::es=done++[e]++es:=by simp
  rw[happ] at hl ⊢
  unfold grp2 step2
  rw[ho,cond_true,hr]
  cases hf:find2 (sv (R (Ap e))) A 0 with
  | some q =>
   obtain ⟨i',e1,e2⟩:=f1 q hf
   rw[Nat.zero_add] at e1
   subst e1
   have hq:(A.map (gp2 R done))[q]? = some (gp2 R done (R (Ap e))):=by rw[List.getElem?_map,e2]; rfl
   have hql:q<A.length:=(List.getElem?_eq_some_iff.1 e2).1
   simp only[hq]
   have hg:gr (gp2 R done (R (Ap e))).1 (gp2 R done (R (Ap e))).2=true:=by
    have:=gpL_len R done (R (Ap e))
    simp only[List.length_append] at hl
    unfold gr gp2
    simp only[decide_true,Bool.and_true,Bool.and_eq_true,decide_eq_true_eq]
    omega
   rw[hg,cond_true]
   have hset:(A.map (gp2 R done)).set q ((gp2 R done (R (Ap e))).1++[iv (wI e)],(gp2 R done (R (Ap e))).2+1)=A.map (gp2 R (done++[e])):=by
    apply List.ext_getElem?
    intro j
    rw[List.getElem?_set,List.getElem?_map,List.getElem?_map]
    by_cases hj:q=j
    ·subst hj
     rw[if_pos rfl,if_pos (by simpa using hql),e2]
     simp only[Option.map_some,gp2,gpL_app,if_true,List.length_append,List.length_cons,List.length_nil]
    ·rw[if_neg hj]
     cases hj2:A[j]? with
     | none=>rfl
     | some a =>
      have:R (Ap e) ≠ a:=fun x=>by
       rw[<- x] at hj2
       exact hj ((List.getElem?_inj hql hA).1 (e2.trans hj2.symm))
      simp only[Option.map_some,gp2,gpL_app,if_neg this]
   have hm2:∀ a,a ∈ A ↔ ∃ x ∈ done++[e],R (Ap x)=a:=fun a=>by
    rw[hm]
    constructor
    ·rintro ⟨x,h1,h2⟩; exact ⟨x,by simp[h1],h2⟩
    ·rintro ⟨x,h1,h2⟩
     rcases List.mem_append.1 h1 with h3 | h3
     ·exact ⟨x,h3,h2⟩
     ·rw[List.mem_singleton] at h3
      subst h3
      exact (hm a).1 (h2 ▸ List.mem_of_getElem? e2)
   obtain ⟨D',A',g1,g2,g3⟩:=grp2_inv hn es (done++[e]) c3 (fun x hx=>he x (.tail _ hx)) hA hm2 hl
   refine ⟨D',A',?_,g2,g3⟩
   rw[<- g1,<- hset]; rfl
  | none =>
   have hnot:=f2 hf
   have hnone:∀ x ∈ done,R (Ap x) ≠ R (Ap e):=fun x hx e1=>hnot ((hm _).2 ⟨x,hx,e1⟩)
   simp only
   have hset:A.map (gp2 R done)++[([iv (wI e)],1)]=(A++[rt3 D e]).map (gp2 R (done++[e])):=by
    rw[List.map_append,hr3]
    congr 1
    ·refine List.map_congr_left fun a ha => ?_
     have:R (Ap e) ≠ a:=fun x=>hnot (x ▸ ha)
     simp only[gp2,gpL_app,if_neg this]
    ·simp only[List.map_cons,List.map_nil,gp2,gpL_app,if_true,gpL_none hnone,List.nil_append,List.length_cons,List.length_nil]
   have hm2:∀ a,a ∈ A++[rt3 D e] ↔ ∃ x ∈ done++[e],R (Ap x)=a:=fun a=>by
    rw[List.mem_append,List.mem_singleton,hm,hr3]
    constructor
    ·rintro (⟨x,h1,h2⟩ | h1)
     ·exact ⟨x,by simp[h1],h2⟩
     ·exact ⟨e,by simp,h1.symm⟩
    ·rintro ⟨x,h1,h2⟩
     rcases List.mem_append.1 h1 with h3 | h3
     ·exact .inl ⟨x,h3,h2⟩
     ·rw[List.mem_singleton] at h3; subst h3; exact .inr h2.symm
   have hA2:(A++[rt3 D e]).Nodup:=by
    rw[List.nodup_append]
    refine ⟨hA,by simp,fun a ha b hb => ?_⟩
    rw[List.mem_singleton] at hb
    rw[hb,hr3]
    exact fun x=>hnot (x ▸ ha)
   obtain ⟨D',A',g1,g2,g3⟩:=grp2_inv hn es (done++[e]) c3 (fun x hx=>he x (.tail _ hx)) hA2 hm2 hl
   refine ⟨D',A',?_,g2,g3⟩
   rw[<- g1,<- hset]; rfl
theorem r1_eq {ws:List PV} (hl:ws.length<=6) (hb:∀ e ∈ ws,stB (wL e)=true):∃ (R:S3->S3) (A:List S3),Top ws R/\A.Nodup/\(∀ a,a ∈ A ↔ ∃ e ∈ ws,R (Ap e)=a)/\(un1 ws []).isSome=true/\(grp2 ws (D1 ws) [] []).isSome=true/\(R1 ws).2.2=A.map (gp2 R ws):=by
 obtain ⟨D,R,h,a1,a2,a3⟩:=un1_top (es:=ws) (by omega) hb
 obtain ⟨D',A',g1,g2,g3⟩:=grp2_inv (by omega) ws [] a2 hb (A:=[]) List.nodup_nil (fun a=>by simp) (by simp; omega)
 have hD:D1 ws=D:=by unfold D1; rw[a1]; rfl
 refine ⟨R,A',a3,g2,by rw[List.nil_append] at g3; exact g3,by rw[a1]; rfl,?_,?_⟩
 ·rw[hD]; exact Option.isSome_iff_exists.2 ⟨_,g1⟩
 ·unfold R1; rw[hD]
  show ((grp2 ws D [] (List.map (gp2 R []) [])).getD ([],[],[])).2.2=_
  rw[g1]; simp
theorem tops_le {ws:List PV} {R:S3->S3} {A:List S3} (hA:A.Nodup) (hm:∀ a,a ∈ A ↔ ∃ e ∈ ws,R (Ap e)=a):A.length<=ws.length:=by
 have:A ⊆ ws.map fun e=>R (Ap e):=fun a ha=>by
  obtain ⟨e,h1,h2⟩:=(hm a).1 ha
  exact List.mem_map.2 ⟨e,h1,h2⟩
 have:=List.Nodup.length_le_of_subset hA this
 simpa using this
end Go.Hn
/- Network: plain law of the groups' order: sorted lists of sorted lists. -/
namespace Go.Hn
open Go.Hx Go.Hg Go.Proofs
abbrev ivs (l:List Int):List PV:=l.map iv
def cz:List Int->List Int->Int
 | [],_=>0
 | _::_,[]=>1
 | a::l,b::r=>if cmpI a b=0 then cz l r else cmpI a b
theorem nI_ivs (l:List Int) {i:Nat} (h:i<l.length):nI (ivs l) (i:Int)=l[i]:=by
 unfold nI ivs
 rw[Int.toNat_natCast,List.getD_eq_getElem?_getD,List.getElem?_map,List.getElem?_eq_getElem h]; rfl
theorem cmE_cz (l r:List Int):∀ (m i:Nat),i+m=l.length->cmE (ivs l) (ivs r) (i:Int) m=cz (l.drop i) (r.drop i)
 | 0,i,h=>by rw[List.drop_of_length_le (by omega)]; rfl
 | m+1,i,h=>by
  have hi:i<l.length:=by omega
  rw[List.drop_eq_getElem_cons hi]
  unfold cmE
  by_cases hr:i<r.length
  ·rw[List.drop_eq_getElem_cons hr,decide_eq_false (by simp; omega),cond_false,nI_ivs l hi,nI_ivs r hr]
   unfold cz
   by_cases hc:cmpI l[i] r[i]=0
   ·rw[hc,if_pos rfl]
    exact cmE_cz l r m (i+1) (by omega)
   ·rw[if_neg hc,bne_iff_ne.2 hc]; rfl
  ·rw[List.drop_of_length_le (l:=r) (by omega),decide_eq_true (by simp; omega)]; rfl
theorem cmpI_neg {a b:Int}:cmpI a b<0 ↔ a<b:=by unfold cmpI; split <;> (try split) <;> omega
theorem cmpI_zero {a b:Int}:cmpI a b=0 ↔ a=b:=by unfold cmpI; split <;> (try split) <;> omega
theorem cz_lt:∀ (l r:List Int),((cz l r<0\/cz l r=0/\l.length<r.length) ↔ l<r)
 | [],[]=>by simp[cz]
 | [],b::r=>by simp[cz]
 | a::l,[]=>by simp[cz]
 | a::l,b::r=>by
  rw[List.cons_lt_cons_iff,<- cz_lt l r,show cz (a::l) (b::r)=if cmpI a b=0 then cz l r else cmpI a b by rw[cz]]
  by_cases h:a=b
  ·rw[if_pos (cmpI_zero.2 h)]
   constructor
   ·exact fun x=>.inr ⟨h,x.imp id fun y=>⟨y.1,by simpa using y.2⟩⟩
   ·rintro (x | x)
    ·omega
    ·exact x.2.imp id fun y=>⟨y.1,by simpa using y.2⟩
  ·rw[if_neg (fun x=>h (cmpI_zero.1 x)),cmpI_neg,cmpI_zero]; simp[h]
theorem cmpL_lt (l r:List Int):cmpL (ivs l) (ivs r)<0 ↔ l<r:=by
 rw[<- cz_lt]
 unfold cmpL
 have h:=cmE_cz l r l.length 0 (by omega)
 rw[List.length_map,List.length_map,show (0:Int)=((0:Nat):Int) from rfl,h,List.drop_zero,List.drop_zero]
 by_cases h0:cz l r=0
 ·rw[h0]
  by_cases hl:l.length<r.length
  ·simp[hl]
  ·simp[hl]
 ·rw[show (cz l r==((0:Nat):Int))=false by simpa using h0,cond_false]
  constructor
  ·exact fun x=>.inl x
  ·rintro (x | x)
   ·exact x
   ·exact absurd x.1 h0
def eAt (es:List PV) (p:Nat):PV:=es.getD p .any
theorem rE_nat (es:List PV) (p:Nat):rE es (p:Int)=eAt es p:=by unfold rE eAt; rw[Int.toNat_natCast,Nat.zero_add]
theorem eAt_get {es:List PV} {p:Nat} (h:p<es.length):eAt es p=es[p]:=by unfold eAt; rw[List.getD_eq_getElem?_getD,List.getElem?_eq_getElem h]; rfl
theorem swE_at (es:List PV) {j:Nat} (hj:j+1<es.length) (p:Nat):eAt (swE es ((j+1:Nat):Int) ((j:Nat):Int)) p=if p=j then elE (eAt es (j+1)) else if p=j+1 then elE (eAt es j) else eAt es p:=by
 unfold swE swE1
 rw[rE_nat,rE_nat]
 unfold eAt
 simp only[Int.toNat_natCast,Nat.zero_add,List.getD_eq_getElem?_getD,List.getElem?_set,List.length_set]
 by_cases h1:p=j
 ·subst h1; rw[if_pos rfl,if_pos (by omega),if_pos rfl]; rfl
 ·rw[if_neg (fun x=>h1 x.symm),if_neg h1]
  by_cases h2:p=j+1
  ·subst h2; rw[if_pos rfl,if_pos hj,if_pos rfl]; rfl
  ·rw[if_neg (fun x=>h2 x.symm),if_neg h2]
def leP (x y:PV):Prop:=¬ cmpP y x<0
def Ord (es:List PV):Prop:=∀ x ∈ es,∃ l:List Int,eL x=ivs l
theorem le_iv {x y:PV} {l r:List Int} (hx:eL x=ivs l) (hy:eL y=ivs r):leP x y ↔ l<=r:=by
 unfold leP cmpP
 rw[hx,hy,cmpL_lt,List.not_lt]
theorem Ord.tot {es:List PV} (o:Ord es) {x y:PV} (hx:x ∈ es) (hy:y ∈ es) (h:cmpP x y<0):leP x y:=by
 obtain ⟨l,hl⟩:=o x hx
 obtain ⟨r,hr⟩:=o y hy
 unfold cmpP at h
 rw[hl,hr,cmpL_lt] at h
 exact (le_iv hl hr).2 (List.not_lt.1 (List.lt_asymm h))
theorem Ord.tr {es:List PV} (o:Ord es) {x y z:PV} (hx:x ∈ es) (hy:y ∈ es) (hz:z ∈ es) (h1:leP x y) (h2:leP y z):leP x z:=by
 obtain ⟨l,hl⟩:=o x hx
 obtain ⟨r,hr⟩:=o y hy
 obtain ⟨s,hs⟩:=o z hz
 exact (le_iv hl hs).2 (List.le_trans ((le_iv hl hr).1 h1) ((le_iv hr hs).1 h2))
theorem eAt_mem {es:List PV} {p:Nat} (h:p<es.length):eAt es p ∈ es:=by rw[eAt_get h]; exact List.getElem_mem _
def SameL (es fs:List PV):Prop:=(es.map eL).Perm (fs.map eL)
theorem SameL.trans {a b c:List PV} (h:SameL a b) (k:SameL b c):SameL a c:=List.Perm.trans h k
theorem swE_perm {es:List PV} {j:Nat} (hj:j+1<es.length):SameL (swE es ((j+1:Nat):Int) ((j:Nat):Int)) es:=by
 unfold SameL swE swE1
 rw[rE_nat,rE_nat,List.map_set,List.map_set,elE_L,elE_L,eAt_get (by omega),eAt_get hj]
 simp only[Int.toNat_natCast,Nat.zero_add]
 have:=@List.set_set_perm _ (es.map eL) (j+1) j (by simpa using hj) (by simp; omega)
 simpa using this
theorem Ord.perm {es fs:List PV} (o:Ord es) (h:SameL fs es):Ord fs:=fun x hx=>by
 have:eL x ∈ es.map eL:=h.mem_iff.1 (List.mem_map.2 ⟨x,hx,rfl⟩)
 obtain ⟨y,hy,e⟩:=List.mem_map.1 this
 obtain ⟨l,hl⟩:=o y hy
 exact ⟨l,e ▸ hl⟩
theorem insL_perm:∀ (j:Nat) {es:List PV} (_:Ord es),j<es.length->SameL (insL 0 es (j:Int) j) es
 | 0,_,_,_=>List.Perm.refl _
 | j+1,es,o,h=>by
  unfold insL
  rw[show ((j+1:Nat):Int)-1=(j:Int) by omega]
  cases decide (cmpP (rE es ((j+1:Nat):Int)) (rE es (j:Int))<0) with
  | false=>exact List.Perm.refl _
  | true =>
   have hp:=swE_perm h
   exact (insL_perm j (o.perm hp) (by rw[swE_len]; omega)).trans hp
theorem insL_sorted (i:Nat):∀ (j:Nat) {es:List PV} (_:Ord es),j<=i->i<es.length->(∀ p q,p<q->q<=i->p ≠ j->q ≠ j->leP (eAt es p) (eAt es q))->(∀ q,j<q->q<=i->leP (eAt es j) (eAt es q)) ->
  ∀ p q,p<q->q<=i->leP (eAt (insL 0 es (j:Int) j) p) (eAt (insL 0 es (j:Int) j) q)
 | 0,es,o,hj,hi,h1,h2,p,q,hpq,hq=>by
  show leP (eAt es p) (eAt es q)
  by_cases e:p=0
  ·rw[e]; exact h2 q (by omega) hq
  ·exact h1 p q hpq hq e (by omega)
 | j+1,es,o,hj,hi,h1,h2,p,q,hpq,hq=>by
  unfold insL
  rw[show ((j+1:Nat):Int)-1=(j:Int) by omega,rE_nat,rE_nat]
  by_cases hc:cmpP (eAt es (j+1)) (eAt es j)<0
  ·rw[decide_eq_true hc,cond_true]
   have hsw:=swE_at es (j:=j) (by omega)
   have m:∀ r,r<=i->eAt es r ∈ es:=fun r hr=>eAt_mem (by omega)
   refine insL_sorted i j (o.perm (swE_perm (by omega))) (by omega) (by rw[swE_len]; exact hi) (fun p q hpq hq hp' hq' => ?_) (fun q hq0 hq => ?_) p q hpq hq
   ·rw[hsw,hsw,if_neg hp',if_neg hq']
    by_cases ep:p=j+1
    ·rw[if_pos ep,if_neg (by omega)]
     exact h1 j q (by omega) hq (by omega) (by omega)
    ·rw[if_neg ep]
     by_cases eq:q=j+1
     ·rw[if_pos eq]
      exact h1 p j (by omega) (by omega) ep (by omega)
     ·rw[if_neg eq]; exact h1 p q hpq hq ep eq
   ·rw[hsw,hsw,if_pos rfl,if_neg (by omega)]
    by_cases eq:q=j+1
    ·rw[if_pos eq]
     show leP (eAt es (j+1)) (eAt es j)
     exact o.tot (m (j+1) (by omega)) (m j (by omega)) hc
    ·rw[if_neg eq]; exact h2 q (by omega) hq
  ·rw[decide_eq_false hc,cond_false]
   have m:∀ r,r<=i->eAt es r ∈ es:=fun r hr=>eAt_mem (by omega)
   by_cases ep:p=j+1
   ·rw[ep]; exact h2 q (by omega) hq
   ·by_cases eq:q=j+1
    ·rw[eq]
     by_cases e:p=j
     ·rw[e]; exact hc
     ·exact o.tr (m p (by omega)) (m j (by omega)) (m (j+1) (by omega)) (h1 p j (by omega) (by omega) ep (by omega)) hc
    ·exact h1 p q hpq hq ep eq
theorem srtL_perm:∀ (m i:Nat) {es:List PV} (_:Ord es),i+m<=es.length->SameL (srtL 0 es (i:Int) m) es
 | 0,_,_,_,_=>List.Perm.refl _
 | m+1,i,es,o,h=>by
  unfold srtL
  rw[show ((i:Int)-0).toNat=i by omega]
  have hp:=insL_perm i o (by omega)
  exact (srtL_perm m (i+1) (o.perm hp) (by rw[insL_len]; omega)).trans hp
theorem srtL_sorted:∀ (m i:Nat) {es:List PV} (_:Ord es),i+m<=es.length->(∀ p q,p<q->q<i->leP (eAt es p) (eAt es q)) ->
  ∀ p q,p<q->q<i+m->leP (eAt (srtL 0 es (i:Int) m) p) (eAt (srtL 0 es (i:Int) m) q)
 | 0,_,_,_,_,h=>h
 | m+1,i,es,o,hl,h=>fun p q hpq hq=>by
  unfold srtL
  rw[show ((i:Int)-0).toNat=i by omega]
  have hp:=insL_perm i o (by omega)
  refine srtL_sorted m (i+1) (o.perm hp) (by rw[insL_len]; omega) (fun p q hpq hq => ?_) p q hpq (by omega)
  exact insL_sorted i i o (Nat.le_refl _) (by omega) (fun p q hpq hq hp' hq'=>h p q hpq (by omega)) (fun q h1 h2=>by omega) p q hpq (by omega)
abbrev grE (l:List Int):PV:=.agg [.Ac false 3 (ivs l)]
def unE (e:PV):List Int:=(eL e).map fun v=>(v.cellAt 0).getI
theorem un_ivs {e:PV} {l:List Int} (h:eL e=ivs l):unE e=l:=by
 unfold unE
 rw[h,List.map_map]
 exact List.map_id _
theorem ord_gr (L:List (List Int)):Ord (L.map grE):=fun x hx=>by
 obtain ⟨l,_,rfl⟩:=List.mem_map.1 hx
 exact ⟨l,rfl⟩
def srtG (L:List (List Int)):List (List Int):=(sortP (L.map grE) L.length).map unE
theorem map_unE {es:List PV} (o:Ord es):es.map eL=(es.map unE).map ivs:=by
 rw[List.map_map]
 refine List.map_congr_left fun x hx => ?_
 obtain ⟨l,hl⟩:=o x hx
 show eL x=ivs (unE x)
 rw[un_ivs hl,hl]
theorem sortP_gr (L:List (List Int)):(sortP (L.map grE) L.length).map eL=(srtG L).map ivs/\(srtG L).Perm L/\(srtG L).Pairwise (· <= ·):=by
 have hp:SameL (sortP (L.map grE) L.length) (L.map grE):=by
  unfold sortP
  by_cases h:L.length=0
  ·rw[show (((L.length:Nat):Int)-1).toNat=0 by omega]; exact List.Perm.refl _
  ·exact srtL_perm _ 1 (ord_gr L) (by simp; omega)
 have o:Ord (sortP (L.map grE) L.length):=(ord_gr L).perm hp
 have hlen:(sortP (L.map grE) L.length).length=L.length:=by have:=hp.length_eq; simpa using this
 refine ⟨map_unE o,?_,?_⟩
 ·have:=List.Perm.map (fun x:List PV=>x.map fun v:PV=>(v.cellAt 0).getI) hp
  rw[List.map_map,List.map_map,List.map_map] at this
  refine this.trans (List.Perm.of_eq ?_)
  exact (List.map_congr_left fun l _=>un_ivs (e:=grE l) rfl).trans (List.map_id L)
 ·rw[List.pairwise_iff_getElem]
  intro p q hp' hq' hpq
  have hl:(srtG L).length=L.length:=by unfold srtG; rw[List.length_map,hlen]
  have h:=srtL_sorted (((L.length:Nat):Int)-1).toNat 1 (ord_gr L) (by simp; omega) (fun p q h1 h2=>by omega) p q hpq (by omega)
  have h2:leP (eAt (sortP (L.map grE) L.length) p) (eAt (sortP (L.map grE) L.length) q):=h
  rw[eAt_get (by omega),eAt_get (by omega)] at h2
  obtain ⟨l,e1⟩:=o _ (List.getElem_mem (l:=sortP (L.map grE) L.length) (n:=p) (by omega))
  obtain ⟨r,e2⟩:=o _ (List.getElem_mem (l:=sortP (L.map grE) L.length) (n:=q) (by omega))
  have h3:=(le_iv e1 e2).1 h2
  have g:∀ (p:Nat) (h:p<(srtG L).length) (l:List Int),eL ((sortP (L.map grE) L.length)[p]'(by omega))=ivs l->(srtG L)[p]=l:=fun p h l e=>by
   simp only[srtG,List.getElem_map]; exact un_ivs e
  rw[g p hp' l e1,g q hq' r e2]
  exact h3
def srtN (l:List Int):List Int:=l.mergeSort fun x y=>decide (x<=y)
theorem srtI_ivs (l:List Int):srtI (ivs l)=ivs (srtN l):=by
 unfold srtI nums srtN
 rw[List.map_map]
 rw[show List.map ((fun e:PV=>(e.cellAt 0).getI) ∘ iv) l=l from List.map_id l]
theorem srtN_perm (l:List Int):(srtN l).Perm l:=List.mergeSort_perm _ _
end Go.Hn
/- Network: Groups of at most six ways with points, as a contract by value. -/
namespace Go.Hn
open Go.Hx Go.Hg Go.Proofs
theorem pcall_nil {P:Program} {k:FuncId} {args:List PV} {t:TypeId} (h:Ak P k args (.val (.slice none 0 0))):Ak P k args (.Ac false t []):=by
 intro C hR Vs hs
 refine Calls.mono (h C hR Vs hs) fun e w' hq => ?_
 obtain ⟨V,h1,h2,h3⟩:=hq
 refine ⟨V,h1,h2,?_⟩
 cases h3
 exact .Ac 0 0 (fun _ _=>undef) (Nat.le_refl _) (fun h=>by cases h) (fun h=>by simp at h) (fun x e j p h1 _=>by simp at h1) (fun x e j p h1 _=>by simp at h1) (fun e h1=>by cases h1)
def grpL (ws:List PV):List PV:=sortP (lstX (R1 ws).2.2) (R1 ws).2.2.length
def okW (ws:List PV):Bool:=decide (ws.length<=6)&&ws.all fun e=>stB (wL e)
theorem okW_iff {ws:List PV} (h:okW ws=true):ws.length<=6/\∀ e ∈ ws,stB (wL e)=true:=by
 unfold okW at h
 simp only[Bool.and_eq_true,decide_eq_true_eq,List.all_eq_true] at h
 exact h
theorem grp_facts {ws:List PV} (h:okW ws=true):∃ (R:S3->S3) (A:List S3),Top ws R/\A.Nodup/\(∀ a,a ∈ A ↔ ∃ e ∈ ws,R (Ap e)=a)/\(un1 ws []).isSome=true/\(grp2 ws (D1 ws) [] []).isSome=true/\(R1 ws).2.2=A.map (gp2 R ws) /\
  lstX (R1 ws).2.2=(A.map fun a=>srtN (idsL R ws a)).map grE/\(grpL ws).map eL=(srtG (A.map fun a=>srtN (idsL R ws a))).map ivs:=by
 obtain ⟨h1,h2⟩:=okW_iff h
 obtain ⟨R,A,t,hA,hm,a1,a2,a3⟩:=r1_eq h1 h2
 have hx:lstX (R1 ws).2.2=(A.map fun a=>srtN (idsL R ws a)).map grE:=by
  rw[a3]
  unfold lstX
  rw[List.map_map,List.map_map]
  refine List.map_congr_left fun a _ => ?_
  show PV.agg [.Ac false 3 (((srtI (ivs (idsL R ws a))).drop 0).take (ivs (idsL R ws a)).length)]=_
  rw[srtI_ivs,List.drop_zero,List.take_of_length_le (by rw[List.length_map,List.length_map,(srtN_perm _).length_eq]; exact Nat.le_refl _)]
  rfl
 refine ⟨R,A,t,hA,hm,a1,a2,a3,hx,?_⟩
 unfold grpL
 rw[hx,show (R1 ws).2.2.length=(A.map fun a=>srtN (idsL R ws a)).length by rw[a3]; simp]
 exact (sortP_gr _).1
theorem srtL_len0 (es:List PV) (l:Nat):(sortP es l).length=es.length:=srtL_len 0 _ es 1
theorem outX_eq {G:List (List PV × Nat)} (h1:∀ g ∈ G,g.1.length=g.2/\g.2<=6) (h2:G.length<=6):outX G G.length=some (.Ac false 22 (sortP (lstX G) G.length)):=by
 have hc:∀ (K:List (List PV × Nat)) (e:Option PV),(∀ g ∈ K,g.1.length=g.2/\g.2<=6)->lenC K e=e:=by
  intro K e
  induction K with
  | nil=>intro _; rfl
  | cons g K ih =>
   intro hg
   obtain ⟨e1,e2⟩:=hg g (.head _)
   unfold lenC
   rw[e1,beq_self_eq_true,decide_eq_true (show g.2<4611686018427387904 by omega)]
   exact ih fun x hx=>hg x (.tail _ hx)
 unfold outX
 rw[hc G _ h1]
 have hlen:(lstX G).length=G.length:=by unfold lstX; simp
 have ha:askAll 4 [] (rowsX G)=true:=by
  show (true&&((true&&(true&&(true&&(askR (rowsX G) 4 { es:=G.zipIdx.map fun x=>.sl (4+x.2) x.1.2 0 x.1.2,s:=1,t:=22,bv:=false }&&true))))))=true
  simp only[Bool.true_and,Bool.and_true]
  show (false||false||(G.zipIdx.map fun x:(List PV × Nat) × Nat=>PV.sl (4+x.2) x.1.2 0 x.1.2).all fun e=>e.cells.all (askSl (rowsX G) 4))=true
  rw[Bool.or_self,Bool.false_or,List.all_eq_true]
  intro e he
  obtain ⟨x,hx,rfl⟩:=List.mem_map.1 he
  have hg:G[x.2]? = some x.1:=by
   have:=List.mem_zipIdx_iff_getElem?.1 hx
   simpa using this
  have hr:Hx.rowAt (rowsX G) (4+x.2)=some (inR (srtI x.1.1)):=by
   unfold Hx.rowAt rowsX
   rw[show 4+x.2=3+(x.2+1) by omega,List.getElem?_append_right (by simp)]
   simp only[List.length_cons,List.length_nil,Nat.zero_add,Nat.add_sub_cancel_left,List.getElem?_cons_succ,List.getElem?_map,hg,Option.map_some]
   rfl
  show (askSl (rowsX G) 4 (.sl (4+x.2) x.1.2 0 x.1.2)&&true)=true
  unfold askSl
  dsimp only
  rw[decide_eq_true (show 4<=4+x.2 by omega)]
  dsimp only
  rw[hr]
  have:=(h1 x.1 (List.mem_of_getElem? hg)).1
  simp[srtI_length,this]
 have hb:okS G.length G.length (lstX G)=true:=by
  unfold okS
  simp only[Bool.and_eq_true,decide_eq_true_eq,hlen]
  refine ⟨⟨⟨⟨trivial,Nat.le_refl _⟩,by omega⟩,by omega⟩,?_⟩
  unfold bigN
  rw[List.all_eq_true]
  intro x hx
  obtain ⟨g,hg,rfl⟩:=List.mem_map.1 hx
  show decide ((((srtI g.1).drop 0).take g.2).length<=1000000)=true
  have:=(h1 g hg).2
  rw[decide_eq_true_eq,List.length_take]
  omega
 rw[ha,hb,srtL_len0,hlen,beq_self_eq_true,List.drop_zero,List.take_of_length_le (by rw[srtL_len0,hlen]; exact Nat.le_refl _)]
 rfl
theorem grpX_eq {ws:List PV} (h:okW ws=true):grpX ws=some (bif Nat.beq (R1 ws).2.2.length 0 then .val (.slice none 0 0) else .Ac false 22 (grpL ws)):=by
 obtain ⟨hl,hb⟩:=okW_iff h
 obtain ⟨R,A,t,hA,hm,a1,a2,a3,_,_⟩:=grp_facts h
 have hG:∀ g ∈ (R1 ws).2.2,g.1.length=g.2/\g.2<=6:=by
  rw[a3]
  intro g hg
  obtain ⟨a,_,rfl⟩:=List.mem_map.1 hg
  exact ⟨rfl,Nat.le_trans (gpL_len R ws a) hl⟩
 have hn:(R1 ws).2.2.length<=6:=by
  rw[a3,List.length_map]
  exact Nat.le_trans (tops_le hA hm) hl
 unfold grpX
 rw[a1,a2,decide_eq_true rfl,decide_eq_true (show (ws.length:Int)<=1000000 by omega),decide_eq_true hl]
 simp only[Bool.and_self,cond_true]
 have ho:=outX_eq hG hn
 have hs:=spn_eq (R1 ws).2.2
 unfold grpL
 generalize (R1 ws).2.2=G at *
 match G,hn with
 | [],_=>rfl
 | [_],_=>rw[show ([_]:List (List PV × Nat)).length=1 from rfl] at ho hs ⊢; show outX (spn 1 _) 1=_; rw[hs,ho]; rfl
 | [_,_],_=>rw[show ([_,_]:List (List PV × Nat)).length=2 from rfl] at ho hs ⊢; show outX (spn 2 _) 2=_; rw[hs,ho]; rfl
 | [_,_,_],_=>rw[show ([_,_,_]:List (List PV × Nat)).length=3 from rfl] at ho hs ⊢; show outX (spn 3 _) 3=_; rw[hs,ho]; rfl
 | [_,_,_,_],_=>rw[show ([_,_,_,_]:List (List PV × Nat)).length=4 from rfl] at ho hs ⊢; show outX (spn 4 _) 4=_; rw[hs,ho]; rfl
 | [_,_,_,_,_],_=>rw[show ([_,_,_,_,_]:List (List PV × Nat)).length=5 from rfl] at ho hs ⊢; show outX (spn 5 _) 5=_; rw[hs,ho]; rfl
 | [_,_,_,_,_,_],_=>rw[show ([_,_,_,_,_,_]:List (List PV × Nat)).length=6 from rfl] at ho hs ⊢; show outX (spn 6 _) 6=_; rw[hs,ho]; rfl
 | _::_::_::_::_::_::_::_,hn=>simp only[List.length_cons] at hn; omega
theorem pGrp (f:Bool) {ws:List PV} (h:okW ws=true):Ak Tryz.prog 18 [.Ac f 44 ws] (.Ac false 22 (grpL ws)):=by
 have h1:=(Aa okn13 (n:=200) ((qX f ws).trans (grpX_eq h))).2
 cases hb:Nat.beq (R1 ws).2.2.length 0 with
 | false=>rw[hb] at h1; exact h1
 | true =>
  rw[hb] at h1
  have h2:grpL ws=[]:=by
   have:=Nat.eq_of_beq_eq_true hb
   have hl:(grpL ws).length=0:=by unfold grpL; rw[srtL_len0]; unfold lstX; rw[List.length_map]; exact this
   exact List.eq_nil_of_length_eq_zero hl
  rw[h2]
  exact pcall_nil h1
theorem eGrp:Hx.Enters Tryz.prog 18:=(Aa okn13 (n:=200) ((qX false []).trans (grpX_eq rfl))).1
end Go.Hn
/- Network: plain law of find: the numbers of one group, and of one connection. -/
namespace Go.Hn
open Go.Hx Go.Hg Go.Proofs
theorem gAt {G:List PV} {L:List (List Int)} (h:G.map eL=L.map ivs) {i:Nat} (hi:i<L.length):eL (G.getD i .any)=ivs L[i]:=by
 have hl:G.length=L.length:=by have:=congrArg List.length h; simpa using this
 have:(G.map eL)[i]? = (L.map ivs)[i]?:=by rw[h]
 rw[List.getElem?_map,List.getElem?_map,List.getElem?_eq_getElem hi,List.getElem?_eq_getElem (by omega)] at this
 rw[List.getD_eq_getElem?_getD,List.getElem?_eq_getElem (by omega)]
 exact Option.some.inj this
theorem flat_uniq {L:List (List Int)} (h:L.flatten.Nodup) {i j:Nat} (hi:i<L.length) (hj:j<L.length) {x:Int} (h1:x ∈ L[i]) (h2:x ∈ L[j]):i=j:=by
 have hp:=(List.pairwise_flatten.1 h).2
 rw[List.pairwise_iff_getElem] at hp
 rcases Nat.lt_trichotomy i j with hlt | rfl | hlt
 ·exact absurd rfl (hp i j hi hj hlt x h1 x h2)
 ·rfl
 ·exact absurd rfl (hp j i hj hi hlt x h2 x h1)
theorem mem_ids {R:S3->S3} {ws:List PV} {a:S3} {x:Int}:x ∈ idsL R ws a ↔ ∃ e ∈ ws,R (Ap e)=a/\wI e=x:=by
 unfold idsL
 simp only[List.mem_map,List.mem_filter,decide_eq_true_eq]
 exact ⟨fun ⟨e,⟨h1,h2⟩,h3⟩=>⟨e,h1,h2,h3⟩,fun ⟨e,h1,h2,h3⟩=>⟨e,⟨h1,h2⟩,h3⟩⟩
theorem ids_inj {ws:List PV} (hI:(ws.map wI).Nodup) {e e':PV} (h:e ∈ ws) (h':e' ∈ ws) (hw:wI e=wI e'):e=e':=by
 obtain ⟨i,hi,rfl⟩:=List.mem_iff_getElem.1 h
 obtain ⟨j,hj,rfl⟩:=List.mem_iff_getElem.1 h'
 have:i=j:=(List.getElem_inj (h₀:=by simpa using hi) (h₁:=by simpa using hj) hI).1 (by rw[List.getElem_map,List.getElem_map]; exact hw)
 subst this; rfl
abbrev gls (R:S3->S3) (A:List S3) (ws:List PV):List (List Int):=A.map fun a=>srtN (idsL R ws a)
theorem gls_mem {R:S3->S3} {A:List S3} {ws:List PV} {l:List Int}:l ∈ gls R A ws ↔ ∃ a ∈ A,l=srtN (idsL R ws a):=by
 unfold gls; rw[List.mem_map]
 exact ⟨fun ⟨a,h1,h2⟩=>⟨a,h1,h2.symm⟩,fun ⟨a,h1,h2⟩=>⟨a,h1,h2.symm⟩⟩
end Go.Hn
/- Network: plain facts of made ways. -/
namespace Go.Hn
open Go.Hx Go.Hg Go.Proofs
theorem madeW_len (L:List PV):(madeW L).length<=6:=by
 have h1:=dI_ge L 0 (n:=7) (by omega)
 have h2:=dI_lt L 0 (n:=7) (by omega)
 unfold madeW; rw[mList_len]; omega
theorem mList_mem {L:List PV}:∀ (m:Nat) (k a:Int) (e:PV),0<=k->e ∈ mList L m k a->∃ k' a',k<=k'/\k'<k+m/\e=mW L k' a'
 | 0,_,_,_,_,h=>by cases h
 | m+1,k,a,e,hk,h=>by
  unfold mList at h
  rcases List.mem_cons.1 h with rfl | h
  ·exact ⟨k,a,Int.le_refl _,by omega,rfl⟩
  ·obtain ⟨k',a',h1,h2,h3⟩:=mList_mem m (k+1) (a1 L a (mCt L a)) e (by omega) h
   exact ⟨k',a',by omega,by omega,h3⟩
theorem made_mem {L:List PV} {e:PV} (h:e ∈ madeW L):∃ k a,0<=k/\k<6/\e=mW L k a:=by
 have hl:=madeW_len L
 unfold madeW at h hl
 rw[mList_len] at hl
 obtain ⟨k',a',h1,h2,h3⟩:=mList_mem _ 0 _ e (Int.le_refl _) h
 exact ⟨k',a',h1,by omega,h3⟩
theorem wL_mW (L:List PV) (k a:Int):wL (mW L k a)=mPs L a:=rfl
theorem mPs_len (L:List PV) (a:Int):2<=(mPs L a).length/\(mPs L a).length<=3:=by unfold mPs; cases cornB L a <;> simp
theorem stB_small {M:List PV} (h:1<=M.length) (h2:M.length<=1000):stB M=true:=by
 have:lastI M=(M.length:Int)-1:=by unfold lastI; exact W_id (by omega) (by omega)
 unfold stB
 rw[this,show ((M.length:Int)==0)=false from by rw[beq_eq_false_iff_ne]; omega]
 simp only[Bool.not_false,Bool.true_and,Bool.and_eq_true,decide_eq_true_eq]
 omega
theorem made_stB {L:List PV}:∀ e ∈ madeW L,stB (wL e)=true:=fun e h=>by
 obtain ⟨k,a,_,_,rfl⟩:=made_mem h
 rw[wL_mW]
 have:=mPs_len L a
 exact stB_small (by omega) (by omega)
theorem made_big {L:List PV}:∀ e ∈ madeW L,(wL e).length<=3:=fun e h=>by
 obtain ⟨k,a,_,_,rfl⟩:=made_mem h
 rw[wL_mW]
 exact (mPs_len L a).2
theorem made_okW (L:List PV):okW (madeW L)=true:=by
 unfold okW
 simp only[Bool.and_eq_true,decide_eq_true_eq,List.all_eq_true]
 exact ⟨madeW_len L,made_stB⟩
end Go.Hn
/- Network: what the texts on ways and groups share. -/
namespace Go.Hn
open Go.Hx Go.Hg Go.Proofs
abbrev gA (G:List PV) (i:Int):List PV:=eL (G.getD i.toNat .any)
theorem bigN_gA {G:List PV} (h:bigN G=true) {i:Int} (h1:0<=i) (h2:i<(G.length:Int)):(gA G i).length<=1000000:=by
 unfold gA
 rw[List.getD_eq_getElem?_getD,List.getElem?_eq_getElem (by omega)]
 have:=List.all_eq_true.1 h _ (List.getElem_mem (l:=G) (n:=i.toNat) (by omega))
 simpa using this
def okG (G:List PV):Bool:=An G&&bigN G
def okB (ws:List PV):Bool:=An ws&&ws.all fun e=>An (wL e)
theorem okB_at {ws:List PV} (h:okB ws=true) {i:Int} (h1:0<=i) (h2:i<(ws.length:Int)):An (wL (ws.getD i.toNat .any))=true:=by
 unfold okB at h
 rw[Bool.and_eq_true] at h
 rw[List.getD_eq_getElem?_getD,List.getElem?_eq_getElem (by omega)]
 exact List.all_eq_true.1 h.2 _ (List.getElem_mem _)
theorem okB_len {ws:List PV} (h:okB ws=true):ws.length<=1000000:=by
 unfold okB at h
 rw[Bool.and_eq_true] at h
 simpa using h.1
abbrev wN (ws:List PV) (k:Int):Int:=wI (ws.getD k.toNat .any)
theorem okG_of {ws:List PV} (h:okW ws=true):okG (grpL ws)=true:=by
 obtain ⟨R,A,t,hA,hm,_,_,_,_,hg⟩:=grp_facts h
 have h6:=(okW_iff h).1
 have hp:=(sortP_gr (gls R A ws)).2.1
 have hl:(grpL ws).length=A.length:=by
  have:=congrArg List.length hg
  rw[List.length_map,List.length_map,hp.length_eq,List.length_map] at this
  exact this
 have hA6:=tops_le hA hm
 unfold okG bigN
 rw[Bool.and_eq_true,List.all_eq_true,decide_eq_true_eq]
 refine ⟨by omega,fun x hx => ?_⟩
 rw[decide_eq_true_eq]
 have:eL x ∈ (srtG (gls R A ws)).map ivs:=by rw[<- hg]; exact List.mem_map.2 ⟨x,hx,rfl⟩
 obtain ⟨l,h1,h2⟩:=List.mem_map.1 this
 obtain ⟨a,_,rfl⟩:=gls_mem.1 (hp.mem_iff.1 h1)
 rw[<- h2,List.length_map,(srtN_perm _).length_eq]
 have:=idsL_len R ws a
 omega
theorem made_okB (L:List PV):okB (madeW L)=true:=by
 unfold okB
 rw[Bool.and_eq_true,List.all_eq_true,decide_eq_true_eq]
 have:=madeW_len L
 refine ⟨by omega,fun e he => ?_⟩
 have:=made_big e he
 rw[decide_eq_true_eq]; omega
theorem ws_at {ws:List PV} {k:Int} (h0:0<=k) (h1:k<(ws.length:Int)):∃ (j:Nat) (hj:j<ws.length),(j:Int)=k/\ws.getD k.toNat .any=ws[j]:=by
 refine ⟨k.toNat,by omega,by omega,?_⟩
 rw[List.getD_eq_getElem?_getD,List.getElem?_eq_getElem (by omega)]; rfl
end Go.Hn
