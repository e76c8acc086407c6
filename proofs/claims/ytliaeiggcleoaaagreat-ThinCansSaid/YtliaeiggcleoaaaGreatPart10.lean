/- Geometry: the reference's Cross: ends, rounds. -/
import Derived.Test.YtliaeiggcleoaaaGreatPart8
namespace Go.Hg
open Go.Hx Go.Proofs
def eq2 (es ms:List PV) (i j:Int):Bool:=(qX es i==qX ms j)&&((qY es i==qY ms j)&&true)
def on4 (es:List PV) (i j:Int) (zs:List PV) (z:Int):Bool:=onX (qX es i) (qY es i) (qX es j) (qY es j) (qX zs z) (qY zs z)
def endK (es ms:List PV) (i k z:Int) (next:Option PV):Option PV:=
 bif inr es i then bif inr es (W (i+1)) then bif inr ms k then bif inr ms (W (k+1)) then bif on4 es i (W (i+1)) es z then bif on4 ms k (W (k+1)) es z then
  bif decide (0<(ms.length:Int)) then bif eq2 es ms z 0 then some (bv true) else bif inr ms (W ((ms.length:Int)-1)) then bif eq2 es ms z (W ((ms.length:Int)-1)) then some (bv true) else next else none else none
 else next else next else none else none else none else none
theorem qEnd (f g:Bool) (es ms:List PV) (i k:Int):Ah Tryz.prog E35 60 102 [.Ac f 37 es,.Ac g 37 ms,iv i,iv k] =
 bif decide (0<(es.length:Int)) then bif inr es (W ((es.length:Int)-1)) then endK es ms i k 0 (endK es ms i k (W ((es.length:Int)-1)) (some (bv false))) else none else none:=by kernel_rfl
def endP (es ms:List PV) (i k z:Int):Bool:=on4 es i (i+1) es z&&on4 ms k (k+1) es z&&(eq2 es ms z 0||eq2 es ms z ((ms.length:Int)-1))
def endB (es ms:List PV) (i k:Int):Bool:=endP es ms i k 0||endP es ms i k ((es.length:Int)-1)
def endC (es ms:List PV) (i k:Int):Bool:=big es&&big ms&&decide (0<=i)&&decide (i+1<(es.length:Int))&&decide (0<=k)&&decide (k+1<(ms.length:Int))
theorem endK_eq {es ms:List PV} {i k:Int} (z:Int) (next:Option PV) (h:endC es ms i k=true):endK es ms i k z next=bif endP es ms i k z then some (bv true) else next:=by
 unfold endC at h
 simp only[Bool.and_eq_true,decide_eq_true_eq] at h
 obtain ⟨⟨⟨⟨⟨h1,h2⟩,h3⟩,h4⟩,h5⟩,h6⟩:=h
 unfold endK endP
 rw[W_id (n:=i+1) (by omega) (by omega),W_id (n:=k+1) (by omega) (by omega),W_id (n:=(ms.length:Int)-1) (by omega) (by omega),Am h3 (by omega),Am (by omega) h4,Am h5 (by omega),Am (by omega) h6,Am (es:=ms) (i:=(ms.length:Int)-1) (by omega) (by omega),decide_eq_true (show 0<(ms.length:Int) by omega)]
 cases on4 es i (i+1) es z <;> cases on4 ms k (k+1) es z <;> cases eq2 es ms z 0 <;> cases eq2 es ms z ((ms.length:Int)-1) <;> rfl
def cEnd:List PV->Option (DT PV) | [.Ac _ 37 es,.Ac _ 37 ms,.val (.int .i64 i),.val (.int .i64 k)]=>some (.br (endC es ms i k) (.leaf (bv (endB es ms i k))) .no) | _=>none
theorem qEnd' (f g:Bool) (es ms:List PV) (i k:Int) (h:endC es ms i k=true):Ah Tryz.prog E35 60 102 [.Ac f 37 es,.Ac g 37 ms,iv i,iv k]=some (bv (endB es ms i k)):=by
 rw[qEnd,endK_eq _ _ h,endK_eq _ _ h]
 unfold endC at h
 simp only[Bool.and_eq_true,decide_eq_true_eq] at h
 obtain ⟨⟨⟨⟨⟨h1,h2⟩,h3⟩,h4⟩,h5⟩,h6⟩:=h
 rw[W_id (n:=(es.length:Int)-1) (by omega) (by omega),Am (by omega) (by omega),decide_eq_true (show 0<(es.length:Int) by omega)]
 unfold endB
 cases endP es ms i k 0 <;> cases endP es ms i k ((es.length:Int)-1) <;> rfl
theorem eEnd:Hx.Enters Tryz.prog 102:=(Aa ok35 (qEnd' true true [ptv 0 0,ptv 0 0] [ptv 0 0,ptv 0 0] 0 0 rfl)).1
theorem oEnd (args:List PV) (d:DT PV) (r:PV) (h:cEnd args=some d) (hr:d.run=some r):Ak Tryz.prog 102 args r:=by
 unfold cEnd at h; split at h
 ·rename_i f es g ms i k; cases h; obtain ⟨h1,rfl⟩:=Aq hr; exact (Aa ok35 (qEnd' f g es ms i k h1)).2
 ·cases h
noncomputable def E70:Ad:=E35.Ag 102 cEnd
theorem ok70:Ab Tryz.prog E70.env:=ok35.Ag eEnd oEnd
def mt4 (es:List PV) (i j:Int) (ms:List PV) (k l:Int):Int:=mt (qX es i) (qY es i) (qX es j) (qY es j) (qX ms k) (qY ms k) (qX ms l) (qY ms l)
def shX1:S1:=⟨63,[(0,.Ac 37),(1,.Ac 37),(5,I64),(6,I64)],[]⟩
abbrev lX1 (f:Bool) (es:List PV) (g:Bool) (ms:List PV) (i k:Int):LS:=([.l f es,.l g ms,.i i,.i k],[])
abbrev tX1 (f:Bool) (es:List PV) (g:Bool) (ms:List PV) (i:Int):List PV:=tm 63 [(0,.Ac f 37 es),(1,.Ac g 37 ms),(5,iv i)]
abbrev rX1 (f:Bool) (es:List PV) (g:Bool) (ms:List PV) (i:Int):List PV:=tm 63 [(0,.Ac f 37 es),(1,.Ac g 37 ms),(4,bv true),(5,iv i)]
theorem qX1 (f:Bool) (es:List PV) (g:Bool) (ms:List PV) (i k:Int):Al Tryz.prog E70 60 57 (Ao Tryz.f57 7) [0,1,5,6] [0,1,4,5] (shX1.put (lX1 f es g ms i k)).1 (shX1.put (lX1 f es g ms i k)).2 =
 bif decide (W (k+1)<(ms.length:Int)) then bif inr es i then bif inr es (W (i+1)) then bif inr ms k then bif inr ms (W (k+1)) then
  bif mt4 es i (W (i+1)) ms k (W (k+1))==2 then some (.ret,rX1 f es g ms i,[]) else bif mt4 es i (W (i+1)) ms k (W (k+1))==1 then
   bif endC es ms i k then bif !endB es ms i k then some (.ret,rX1 f es g ms i,[]) else some (.normal,shX1.put (lX1 f es g ms i (W (k+1)))) else none
  else some (.normal,shX1.put (lX1 f es g ms i (W (k+1))))
 else none else none else none else none else some (.exit 2,tm 63 [(0,.Ac f 37 es),(1,.Ac g 37 ms),(5,iv i)],[]):=by kernel_rfl
end Go.Hg
/- Geometry: contracts: the reference's Cross. -/
namespace Go.Hg
open Go.Hx Go.Proofs
def xAt (es ms:List PV) (i k:Int):Bool:=(mt4 es i (i+1) ms k (k+1)==2)||((mt4 es i (i+1) ms k (k+1)==1) && !endB es ms i k)
def crK (es ms:List PV) (i k:Int):Nat->Bool
 | 0=>false
 | n+1=>xAt es ms i k||crK es ms i (k+1) n
def crI (es ms:List PV) (i:Int):Nat->Bool
 | 0=>false
 | n+1=>crK es ms i 0 (ms.length-1)||crI es ms (i+1) n
def pX1:LS->Bool
 | ([.l _ es,.l _ ms,.i i,.i k],[])=>big es&&big ms&&decide (0<=i)&&decide (i+1<(es.length:Int))&&decide (0<=k)&&decide (k<=(ms.length:Int))
 | _=>false
noncomputable def fX1:LS->DT (PX × List PV × List Row)
 | ([.l f es,.l g ms,.i i,.i k],[])=>.br (crK es ms i k ((ms.length:Int)-(k+1)).toNat) (.leaf (.ret,rX1 f es g ms i,[])) (.leaf (.exit 2,tX1 f es g ms i,[]))
 | _=>.no
def mX1:LS->Nat
 | ([.l _ _,.l _ ms,.i _,.i k],[])=>((ms.length:Int)-(k+1)).toNat
 | _=>0
theorem sX1:∀ s r,pX1 s=true->(fX1 s).run=some r->r.1 ≠ .normal/\(Al Tryz.prog E70 60 57 (Ao Tryz.f57 7) [0,1,5,6] [0,1,4,5] (shX1.put s).1 (shX1.put s).2=some r \/
   ∃ s',Al Tryz.prog E70 60 57 (Ao Tryz.f57 7) [0,1,5,6] [0,1,4,5] (shX1.put s).1 (shX1.put s).2=some (.normal,shX1.put s')/\pX1 s'=true/\mX1 s'<mX1 s/\(fX1 s').run=some r):=by
 intro s r hp hr
 unfold pX1 at hp; split at hp
 ·rename_i f es g ms i k
  simp only[Bool.and_eq_true,decide_eq_true_eq] at hp
  obtain ⟨⟨⟨⟨⟨h1,h2⟩,h3⟩,h4⟩,h5⟩,h6⟩:=hp
  have hr':=run_br2 hr
  refine ⟨by rw[hr']; cases crK es ms i k ((ms.length:Int)-(k+1)).toNat <;> simp,?_⟩
  rw[qX1]
  have hw:=W_id (n:=k+1) (by omega) (by omega)
  have hw2:=W_id (n:=i+1) (by omega) (by omega)
  rw[hw,hw2]
  by_cases hi:k+1<(ms.length:Int)
  ·have hc:endC es ms i k=true:=by unfold endC; simp; omega
   rw[decide_eq_true hi,cond_true,Am h3 (by omega),Am (by omega) h4,Am h5 (by omega),Am (by omega) hi,hc]
   obtain ⟨m,hm⟩:∃ m,((ms.length:Int)-(k+1)).toNat=m+1:=⟨((ms.length:Int)-(k+1)).toNat-1,by omega⟩
   rw[hm] at hr'
   simp only[crK] at hr'
   simp only[cond_true]
   generalize hX:(some (PX.normal,shX1.put (lX1 f es g ms i (k+1))):Option (PX × List PV × List Row))=X
   generalize hY:(some (PX.ret,rX1 f es g ms i,[]):Option (PX × List PV × List Row))=Y
   have key:(bif mt4 es i (i+1) ms k (k+1)==2 then Y else bif mt4 es i (i+1) ms k (k+1)==1 then bif !endB es ms i k then Y else X else X)=bif xAt es ms i k then Y else X:=by
    unfold xAt
    cases mt4 es i (i+1) ms k (k+1)==2 <;> cases mt4 es i (i+1) ms k (k+1)==1 <;> cases endB es ms i k <;> rfl
   rw[key]
   cases hR:xAt es ms i k with
   | true=>rw[hR] at hr'; exact .inl (by rw[cond_true,<- hY,hr']; rfl)
   | false =>
    rw[hR] at hr'
    refine .inr ⟨lX1 f es g ms i (k+1),by rw[cond_false,<- hX],by simp[pX1]; omega,by simp only[mX1]; omega,?_⟩
    rw[hr']
    simp only[fX1]
    rw[show ((ms.length:Int)-(k+1+1)).toNat=m by omega]
    cases crK es ms i (k+1) m <;> rfl
  ·rw[decide_eq_false hi]
   rw[show ((ms.length:Int)-(k+1)).toNat=0 by omega] at hr'
   exact .inl (by rw[hr']; rfl)
 ·cases hp
noncomputable def E70a:Ad:=E70.addW 57 7 [0,1,5,6] [] shX1 pX1 fX1
theorem ok70a:Ab Tryz.prog E70a.env:=
 ok70.addW (n:=60) Tryz.func57 (show Tryz.f57.body=some (bod Tryz.f57) by kernel_rfl) (show (loops (bod Tryz.f57)).filter (fun b=>rid b==7)=[Ao Tryz.f57 7] by kernel_rfl) [0,1,5,6] [0,1,4,5] [] shX1 mX1 sX1
def shX2:S1:=⟨63,[(0,.Ac 37),(1,.Ac 37),(5,I64)],[]⟩
abbrev lX2 (f:Bool) (es:List PV) (g:Bool) (ms:List PV) (i:Int):LS:=([.l f es,.l g ms,.i i],[])
theorem qX2 (f:Bool) (es:List PV) (g:Bool) (ms:List PV) (i:Int):Al Tryz.prog E70a 60 57 (Ao Tryz.f57 4) [0,1,5] [4] (shX2.put (lX2 f es g ms i)).1 (shX2.put (lX2 f es g ms i)).2 =
 bif decide (W (i+1)<(es.length:Int)) then bif pX1 (lX1 f es g ms i 0) then bif crK es ms i 0 ((ms.length:Int)-(0+1)).toNat then some (.ret,tm 63 [(4,bv true)],[]) else some (.normal,shX2.put (lX2 f es g ms (W (i+1)))) else none
 else some (.exit 0,tm 63 [],[]):=by kernel_rfl
def pX2:LS->Bool
 | ([.l _ es,.l _ ms,.i i],[])=>big es&&big ms&&decide (0<=i)&&decide (i<=(es.length:Int))
 | _=>false
noncomputable def fX2:LS->DT (PX × List PV × List Row)
 | ([.l _ es,.l _ ms,.i i],[])=>.br (crI es ms i ((es.length:Int)-(i+1)).toNat) (.leaf (.ret,tm 63 [(4,bv true)],[])) (.leaf (.exit 0,tm 63 [],[]))
 | _=>.no
def mX2:LS->Nat
 | ([.l _ es,.l _ _,.i i],[])=>((es.length:Int)-(i+1)).toNat
 | _=>0
theorem sX2:∀ s r,pX2 s=true->(fX2 s).run=some r->r.1 ≠ .normal/\(Al Tryz.prog E70a 60 57 (Ao Tryz.f57 4) [0,1,5] [4] (shX2.put s).1 (shX2.put s).2=some r \/
   ∃ s',Al Tryz.prog E70a 60 57 (Ao Tryz.f57 4) [0,1,5] [4] (shX2.put s).1 (shX2.put s).2=some (.normal,shX2.put s')/\pX2 s'=true/\mX2 s'<mX2 s/\(fX2 s').run=some r):=by
 intro s r hp hr
 unfold pX2 at hp; split at hp
 ·rename_i f es g ms i
  simp only[Bool.and_eq_true,decide_eq_true_eq] at hp
  obtain ⟨⟨⟨h1,h2⟩,h3⟩,h4⟩:=hp
  have hr':=run_br2 hr
  refine ⟨by rw[hr']; cases crI es ms i ((es.length:Int)-(i+1)).toNat <;> simp,?_⟩
  rw[qX2]
  have hw:=W_id (n:=i+1) (by omega) (by omega)
  rw[hw]
  by_cases hi:i+1<(es.length:Int)
  ·rw[decide_eq_true hi,cond_true,show pX1 (lX1 f es g ms i 0)=true by simp[pX1]; omega,show ((ms.length:Int)-(0+1)).toNat=ms.length-1 by omega]
   obtain ⟨m,hm⟩:∃ m,((es.length:Int)-(i+1)).toNat=m+1:=⟨((es.length:Int)-(i+1)).toNat-1,by omega⟩
   rw[hm] at hr'
   simp only[crI] at hr'
   simp only[cond_true]
   cases hR:crK es ms i 0 (ms.length-1) with
   | true=>rw[hR] at hr'; exact .inl (by rw[cond_true,hr']; rfl)
   | false =>
    rw[hR] at hr'
    refine .inr ⟨lX2 f es g ms (i+1),rfl,by simp[pX2]; omega,by simp only[mX2]; omega,?_⟩
    rw[hr']
    simp only[fX2]
    rw[show ((es.length:Int)-(i+1+1)).toNat=m by omega]
    cases crI es ms (i+1) m <;> rfl
  ·rw[decide_eq_false hi]
   rw[show ((es.length:Int)-(i+1)).toNat=0 by omega] at hr'
   exact .inl (by rw[hr']; rfl)
 ·cases hp
noncomputable def E70b:Ad:=E70a.addW 57 4 [0,1,5] [] shX2 pX2 fX2
theorem ok70b:Ab Tryz.prog E70b.env:=
 ok70a.addW (n:=60) Tryz.func57 (show Tryz.f57.body=some (bod Tryz.f57) by kernel_rfl) (show (loops (bod Tryz.f57)).filter (fun b=>rid b==4)=[Ao Tryz.f57 4] by kernel_rfl) [0,1,5] [4] [] shX2 mX2 sX2
def crx (es ms:List PV):Bool:=fin es&&fin ms&&crI es ms 0 (es.length-1)
theorem qRCross (f:Bool) (es:List PV) (g:Bool) (ms:List PV):Ah Tryz.prog E70b 60 57 [.Ac f 37 es,.Ac g 37 ms] =
 bif big es then bif !fin es then some (bv false) else bif big ms then bif !fin ms then some (bv false) else bif pX2 (lX2 f es g ms 0) then bif crI es ms 0 ((es.length:Int)-(0+1)).toNat then some (bv true) else some (bv false) else none else none else none:=by kernel_rfl
def cCrx:List PV->Option (DT PV) | [.Ac _ 37 es,.Ac _ 37 ms]=>some (.br (big es&&big ms) (.leaf (bv (crx es ms))) .no) | _=>none
theorem qRCross' (f:Bool) (es:List PV) (g:Bool) (ms:List PV) (h:(big es&&big ms)=true):Ah Tryz.prog E70b 60 57 [.Ac f 37 es,.Ac g 37 ms]=some (bv (crx es ms)):=by
 rw[Bool.and_eq_true] at h
 have h':=h
 simp only[decide_eq_true_eq] at h'
 rw[qRCross,h.1,h.2,show pX2 (lX2 f es g ms 0)=true by simp[pX2]; omega,show ((es.length:Int)-(0+1)).toNat=es.length-1 by omega]
 unfold crx
 cases fin es <;> cases fin ms <;> cases crI es ms 0 (es.length-1) <;> rfl
theorem eRCrx:Hx.Enters Tryz.prog 57:=(Aa ok70b (qRCross' true [] true [] rfl)).1
theorem oRCrx (args:List PV) (d:DT PV) (r:PV) (h:cCrx args=some d) (hr:d.run=some r):Ak Tryz.prog 57 args r:=by
 unfold cCrx at h; split at h
 ·rename_i f es g ms; cases h; obtain ⟨h1,rfl⟩:=Aq hr; exact (Aa ok70b (qRCross' f es g ms h1)).2
 ·cases h
end Go.Hg
/- Geometry: line.Cross: rounds of its inner loop, by what ends there are. (printed by strip.py) -/
namespace Go.Hg
open Go.Hx Go.Proofs
abbrev rE (E:List PV):Row:=rN 37 2 false E
end Go.Hg
/- Geometry: line.Cross: its loops. (printed by strip.py) -/
namespace Go.Hg
open Go.Hx Go.Proofs
end Go.Hg
/- Geometry: line.Cross: its outer loop. (printed by strip.py) -/
namespace Go.Hg
open Go.Hx Go.Proofs

end Go.Hg
/- Geometry: line.Cross: what it comes to. (printed by strip.py) -/
namespace Go.Hg
open Go.Hx Go.Proofs
end Go.Hg
/- Geometry: plain laws: whole points that two segments have in common. -/
namespace Go.Hg
open Go.Hx Go.Proofs
theorem par {a b c d u v:Int} (h1:a*v=b*u) (h2:c*v=d*u) (hw:u ≠ 0\/v ≠ 0):a*d=b*c:=by
 rcases hw with hw | hw
 ·have:u*(a*d)=u*(b*c):=by grind
  exact Int.eq_of_mul_eq_mul_left hw this
 ·have:v*(a*d)=v*(b*c):=by grind
  exact Int.eq_of_mul_eq_mul_left hw this
end Go.Hg
/- Geometry: contracts: Cross, both; what it comes to. (printed by strip.py) -/
namespace Go.Hg
open Go.Hx Go.Proofs
noncomputable def E73:Ad:=E35 |>.Ag 57 cCrx
theorem ok73:Ab Tryz.prog E73.env:=(ok35).Ag eRCrx oRCrx
end Go.Hg
