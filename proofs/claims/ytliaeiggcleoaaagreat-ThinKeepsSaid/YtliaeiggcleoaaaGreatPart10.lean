/- Geometry: the reference's Cross: ends, rounds. -/
import Derived.Test.YtliaeiggcleoaaaGreatPart8
namespace Go.Hg
open Go.Hx Go.Proofs
def eq2 (es ms:List PV) (i j:Int):Bool:=(qX es i == qX ms j) && ((qY es i == qY ms j) && true)
def on4 (es:List PV) (i j:Int) (zs:List PV) (z:Int):Bool:=onX (qX es i) (qY es i) (qX es j) (qY es j) (qX zs z) (qY zs z)
def endK (es ms:List PV) (i k z:Int) (next:Option PV):Option PV:=
 bif inr es i then bif inr es (W (i + 1)) then bif inr ms k then bif inr ms (W (k + 1)) then bif on4 es i (W (i + 1)) es z then bif on4 ms k (W (k + 1)) es z then
  bif decide (0 < (ms.length:Int)) then bif eq2 es ms z 0 then some (bv true) else bif inr ms (W ((ms.length:Int) - 1)) then bif eq2 es ms z (W ((ms.length:Int) - 1)) then some (bv true) else next else none else none
 else next else next else none else none else none else none
theorem qEnd (f g:Bool) (es ms:List PV) (i k:Int):runP Tryz.prog E35 60 102 [.lst f 37 es,.lst g 37 ms,iv i,iv k] =
 bif decide (0 < (es.length:Int)) then bif inr es (W ((es.length:Int) - 1)) then endK es ms i k 0 (endK es ms i k (W ((es.length:Int) - 1)) (some (bv false))) else none else none:=by kernel_rfl
def endP (es ms:List PV) (i k z:Int):Bool:=on4 es i (i + 1) es z && on4 ms k (k + 1) es z && (eq2 es ms z 0 || eq2 es ms z ((ms.length:Int) - 1))
def endB (es ms:List PV) (i k:Int):Bool:=endP es ms i k 0 || endP es ms i k ((es.length:Int) - 1)
def endC (es ms:List PV) (i k:Int):Bool:=big es && big ms && decide (0 <= i) && decide (i + 1 < (es.length:Int)) && decide (0 <= k) && decide (k + 1 < (ms.length:Int))
theorem endK_eq {es ms:List PV} {i k:Int} (z:Int) (next:Option PV) (h:endC es ms i k = true):endK es ms i k z next = bif endP es ms i k z then some (bv true) else next:=by
 unfold endC at h
 simp only [Bool.and_eq_true,decide_eq_true_eq] at h
 obtain ⟨⟨⟨⟨⟨h1,h2⟩,h3⟩,h4⟩,h5⟩,h6⟩:=h
 unfold endK endP
 rw [W_id (n:=i + 1) (by omega) (by omega),W_id (n:=k + 1) (by omega) (by omega),W_id (n:=(ms.length:Int) - 1) (by omega) (by omega),inr_of h3 (by omega),inr_of (by omega) h4,inr_of h5 (by omega),inr_of (by omega) h6,inr_of (es:=ms) (i:=(ms.length:Int) - 1) (by omega) (by omega),decide_eq_true (show 0 < (ms.length:Int) by omega)]
 cases on4 es i (i + 1) es z <;> cases on4 ms k (k + 1) es z <;> cases eq2 es ms z 0 <;> cases eq2 es ms z ((ms.length:Int) - 1) <;> rfl
def cEnd:List PV -> Option (DT PV) | [.lst _ 37 es,.lst _ 37 ms,.val (.int .i64 i),.val (.int .i64 k)] => some (.br (endC es ms i k) (.leaf (bv (endB es ms i k))) .no) | _ => none
theorem qEnd' (f g:Bool) (es ms:List PV) (i k:Int) (h:endC es ms i k = true):runP Tryz.prog E35 60 102 [.lst f 37 es,.lst g 37 ms,iv i,iv k] = some (bv (endB es ms i k)):=by
 rw [qEnd,endK_eq _ _ h,endK_eq _ _ h]
 unfold endC at h
 simp only [Bool.and_eq_true,decide_eq_true_eq] at h
 obtain ⟨⟨⟨⟨⟨h1,h2⟩,h3⟩,h4⟩,h5⟩,h6⟩:=h
 rw [W_id (n:=(es.length:Int) - 1) (by omega) (by omega),inr_of (by omega) (by omega),decide_eq_true (show 0 < (es.length:Int) by omega)]
 unfold endB
 cases endP es ms i k 0 <;> cases endP es ms i k ((es.length:Int) - 1) <;> rfl
theorem eEnd:Hx.Enters Tryz.prog 102:=(runP_sound ok35 (qEnd' true true [ptv 0 0,ptv 0 0] [ptv 0 0,ptv 0 0] 0 0 rfl)).1
theorem oEnd (args:List PV) (d:DT PV) (r:PV) (h:cEnd args = some d) (hr:d.run = some r):PCall Tryz.prog 102 args r:=by
 unfold cEnd at h; split at h
 ·rename_i f es g ms i k; cases h; obtain ⟨h1,rfl⟩:=run_br hr; exact (runP_sound ok35 (qEnd' f g es ms i k h1)).2
 ·cases h
noncomputable def E70:EnvK:=E35.addF 102 cEnd
theorem ok70:EnvOK Tryz.prog E70.env:=ok35.addF eEnd oEnd
def mt4 (es:List PV) (i j:Int) (ms:List PV) (k l:Int):Int:=mt (qX es i) (qY es i) (qX es j) (qY es j) (qX ms k) (qY ms k) (qX ms l) (qY ms l)
def shX1:S1:=⟨63,[(0,.lst 37),(1,.lst 37),(5,I64),(6,I64)],[]⟩
abbrev lX1 (f:Bool) (es:List PV) (g:Bool) (ms:List PV) (i k:Int):LS:=([.l f es,.l g ms,.i i,.i k],[])
abbrev tX1 (f:Bool) (es:List PV) (g:Bool) (ms:List PV) (i:Int):List PV:=tm 63 [(0,.lst f 37 es),(1,.lst g 37 ms),(5,iv i)]
abbrev rX1 (f:Bool) (es:List PV) (g:Bool) (ms:List PV) (i:Int):List PV:=tm 63 [(0,.lst f 37 es),(1,.lst g 37 ms),(4,bv true),(5,iv i)]
theorem qX1 (f:Bool) (es:List PV) (g:Bool) (ms:List PV) (i k:Int):runB Tryz.prog E70 60 57 (lpb Tryz.f57 7) [0,1,5,6] [0,1,4,5] (shX1.put (lX1 f es g ms i k)).1 (shX1.put (lX1 f es g ms i k)).2 =
 bif decide (W (k + 1) < (ms.length:Int)) then bif inr es i then bif inr es (W (i + 1)) then bif inr ms k then bif inr ms (W (k + 1)) then
  bif mt4 es i (W (i + 1)) ms k (W (k + 1)) == 2 then some (.ret,rX1 f es g ms i,[]) else bif mt4 es i (W (i + 1)) ms k (W (k + 1)) == 1 then
   bif endC es ms i k then bif !endB es ms i k then some (.ret,rX1 f es g ms i,[]) else some (.normal,shX1.put (lX1 f es g ms i (W (k + 1)))) else none
  else some (.normal,shX1.put (lX1 f es g ms i (W (k + 1))))
 else none else none else none else none else some (.exit 2,tm 63 [(0,.lst f 37 es),(1,.lst g 37 ms),(5,iv i)],[]):=by kernel_rfl
end Go.Hg
/- Geometry: contracts: the reference's Cross. -/
namespace Go.Hg
open Go.Hx Go.Proofs
def xAt (es ms:List PV) (i k:Int):Bool:=(mt4 es i (i + 1) ms k (k + 1) == 2) || ((mt4 es i (i + 1) ms k (k + 1) == 1) && !endB es ms i k)
def crK (es ms:List PV) (i k:Int):Nat -> Bool
 | 0 => false
 | n + 1 => xAt es ms i k || crK es ms i (k + 1) n
def crI (es ms:List PV) (i:Int):Nat -> Bool
 | 0 => false
 | n + 1 => crK es ms i 0 (ms.length - 1) || crI es ms (i + 1) n
def pX1:LS -> Bool
 | ([.l _ es,.l _ ms,.i i,.i k],[]) => big es && big ms && decide (0 <= i) && decide (i + 1 < (es.length:Int)) && decide (0 <= k) && decide (k <= (ms.length:Int))
 | _ => false
noncomputable def fX1:LS -> DT (PX × List PV × List Row)
 | ([.l f es,.l g ms,.i i,.i k],[]) => .br (crK es ms i k ((ms.length:Int) - (k + 1)).toNat) (.leaf (.ret,rX1 f es g ms i,[])) (.leaf (.exit 2,tX1 f es g ms i,[]))
 | _ => .no
def mX1:LS -> Nat
 | ([.l _ _,.l _ ms,.i _,.i k],[]) => ((ms.length:Int) - (k + 1)).toNat
 | _ => 0
theorem sX1:∀ s r,pX1 s = true -> (fX1 s).run = some r -> r.1 ≠ .normal /\ (runB Tryz.prog E70 60 57 (lpb Tryz.f57 7) [0,1,5,6] [0,1,4,5] (shX1.put s).1 (shX1.put s).2 = some r \/
   ∃ s',runB Tryz.prog E70 60 57 (lpb Tryz.f57 7) [0,1,5,6] [0,1,4,5] (shX1.put s).1 (shX1.put s).2 = some (.normal,shX1.put s') /\ pX1 s' = true /\ mX1 s' < mX1 s /\ (fX1 s').run = some r):=by
 intro s r hp hr
 unfold pX1 at hp; split at hp
 ·rename_i f es g ms i k
  simp only [Bool.and_eq_true,decide_eq_true_eq] at hp
  obtain ⟨⟨⟨⟨⟨h1,h2⟩,h3⟩,h4⟩,h5⟩,h6⟩:=hp
  have hr':=run_br2 hr
  refine ⟨by rw [hr']; cases crK es ms i k ((ms.length:Int) - (k + 1)).toNat <;> simp,?_⟩
  rw [qX1]
  have hw:=W_id (n:=k + 1) (by omega) (by omega)
  have hw2:=W_id (n:=i + 1) (by omega) (by omega)
  rw [hw,hw2]
  by_cases hi:k + 1 < (ms.length:Int)
  ·have hc:endC es ms i k = true:=by unfold endC; simp; omega
   rw [decide_eq_true hi,cond_true,inr_of h3 (by omega),inr_of (by omega) h4,inr_of h5 (by omega),inr_of (by omega) hi,hc]
   obtain ⟨m,hm⟩:∃ m,((ms.length:Int) - (k + 1)).toNat = m + 1:=⟨((ms.length:Int) - (k + 1)).toNat - 1,by omega⟩
   rw [hm] at hr'
   simp only [crK] at hr'
   simp only [cond_true]
   generalize hX:(some (PX.normal,shX1.put (lX1 f es g ms i (k + 1))):Option (PX × List PV × List Row)) = X
   generalize hY:(some (PX.ret,rX1 f es g ms i,[]):Option (PX × List PV × List Row)) = Y
   have key:(bif mt4 es i (i + 1) ms k (k + 1) == 2 then Y else bif mt4 es i (i + 1) ms k (k + 1) == 1 then bif !endB es ms i k then Y else X else X) = bif xAt es ms i k then Y else X:=by
    unfold xAt
    cases mt4 es i (i + 1) ms k (k + 1) == 2 <;> cases mt4 es i (i + 1) ms k (k + 1) == 1 <;> cases endB es ms i k <;> rfl
   rw [key]
   cases hR:xAt es ms i k with
   | true => rw [hR] at hr'; exact .inl (by rw [cond_true,<- hY,hr']; rfl)
   | false =>
    rw [hR] at hr'
    refine .inr ⟨lX1 f es g ms i (k + 1),by rw [cond_false,<- hX],by simp [pX1]; omega,by simp only [mX1]; omega,?_⟩
    rw [hr']
    simp only [fX1]
    rw [show ((ms.length:Int) - (k + 1 + 1)).toNat = m by omega]
    cases crK es ms i (k + 1) m <;> rfl
  ·rw [decide_eq_false hi]
   rw [show ((ms.length:Int) - (k + 1)).toNat = 0 by omega] at hr'
   exact .inl (by rw [hr']; rfl)
 ·cases hp
noncomputable def E70a:EnvK:=E70.addW 57 7 [0,1,5,6] [] shX1 pX1 fX1
theorem ok70a:EnvOK Tryz.prog E70a.env:=
 ok70.addW (n:=60) Tryz.func57 (show Tryz.f57.body = some (bod Tryz.f57) by kernel_rfl) (show (loops (bod Tryz.f57)).filter (fun b => rid b == 7) = [lpb Tryz.f57 7] by kernel_rfl) [0,1,5,6] [0,1,4,5] [] shX1 mX1 sX1
def shX2:S1:=⟨63,[(0,.lst 37),(1,.lst 37),(5,I64)],[]⟩
abbrev lX2 (f:Bool) (es:List PV) (g:Bool) (ms:List PV) (i:Int):LS:=([.l f es,.l g ms,.i i],[])
theorem qX2 (f:Bool) (es:List PV) (g:Bool) (ms:List PV) (i:Int):runB Tryz.prog E70a 60 57 (lpb Tryz.f57 4) [0,1,5] [4] (shX2.put (lX2 f es g ms i)).1 (shX2.put (lX2 f es g ms i)).2 =
 bif decide (W (i + 1) < (es.length:Int)) then bif pX1 (lX1 f es g ms i 0) then bif crK es ms i 0 ((ms.length:Int) - (0 + 1)).toNat then some (.ret,tm 63 [(4,bv true)],[]) else some (.normal,shX2.put (lX2 f es g ms (W (i + 1)))) else none
 else some (.exit 0,tm 63 [],[]):=by kernel_rfl
def pX2:LS -> Bool
 | ([.l _ es,.l _ ms,.i i],[]) => big es && big ms && decide (0 <= i) && decide (i <= (es.length:Int))
 | _ => false
noncomputable def fX2:LS -> DT (PX × List PV × List Row)
 | ([.l _ es,.l _ ms,.i i],[]) => .br (crI es ms i ((es.length:Int) - (i + 1)).toNat) (.leaf (.ret,tm 63 [(4,bv true)],[])) (.leaf (.exit 0,tm 63 [],[]))
 | _ => .no
def mX2:LS -> Nat
 | ([.l _ es,.l _ _,.i i],[]) => ((es.length:Int) - (i + 1)).toNat
 | _ => 0
theorem sX2:∀ s r,pX2 s = true -> (fX2 s).run = some r -> r.1 ≠ .normal /\ (runB Tryz.prog E70a 60 57 (lpb Tryz.f57 4) [0,1,5] [4] (shX2.put s).1 (shX2.put s).2 = some r \/
   ∃ s',runB Tryz.prog E70a 60 57 (lpb Tryz.f57 4) [0,1,5] [4] (shX2.put s).1 (shX2.put s).2 = some (.normal,shX2.put s') /\ pX2 s' = true /\ mX2 s' < mX2 s /\ (fX2 s').run = some r):=by
 intro s r hp hr
 unfold pX2 at hp; split at hp
 ·rename_i f es g ms i
  simp only [Bool.and_eq_true,decide_eq_true_eq] at hp
  obtain ⟨⟨⟨h1,h2⟩,h3⟩,h4⟩:=hp
  have hr':=run_br2 hr
  refine ⟨by rw [hr']; cases crI es ms i ((es.length:Int) - (i + 1)).toNat <;> simp,?_⟩
  rw [qX2]
  have hw:=W_id (n:=i + 1) (by omega) (by omega)
  rw [hw]
  by_cases hi:i + 1 < (es.length:Int)
  ·rw [decide_eq_true hi,cond_true,show pX1 (lX1 f es g ms i 0) = true by simp [pX1]; omega,show ((ms.length:Int) - (0 + 1)).toNat = ms.length - 1 by omega]
   obtain ⟨m,hm⟩:∃ m,((es.length:Int) - (i + 1)).toNat = m + 1:=⟨((es.length:Int) - (i + 1)).toNat - 1,by omega⟩
   rw [hm] at hr'
   simp only [crI] at hr'
   simp only [cond_true]
   cases hR:crK es ms i 0 (ms.length - 1) with
   | true => rw [hR] at hr'; exact .inl (by rw [cond_true,hr']; rfl)
   | false =>
    rw [hR] at hr'
    refine .inr ⟨lX2 f es g ms (i + 1),rfl,by simp [pX2]; omega,by simp only [mX2]; omega,?_⟩
    rw [hr']
    simp only [fX2]
    rw [show ((es.length:Int) - (i + 1 + 1)).toNat = m by omega]
    cases crI es ms (i + 1) m <;> rfl
  ·rw [decide_eq_false hi]
   rw [show ((es.length:Int) - (i + 1)).toNat = 0 by omega] at hr'
   exact .inl (by rw [hr']; rfl)
 ·cases hp
noncomputable def E70b:EnvK:=E70a.addW 57 4 [0,1,5] [] shX2 pX2 fX2
theorem ok70b:EnvOK Tryz.prog E70b.env:=
 ok70a.addW (n:=60) Tryz.func57 (show Tryz.f57.body = some (bod Tryz.f57) by kernel_rfl) (show (loops (bod Tryz.f57)).filter (fun b => rid b == 4) = [lpb Tryz.f57 4] by kernel_rfl) [0,1,5] [4] [] shX2 mX2 sX2
def crx (es ms:List PV):Bool:=fin es && fin ms && crI es ms 0 (es.length - 1)
theorem qRCross (f:Bool) (es:List PV) (g:Bool) (ms:List PV):runP Tryz.prog E70b 60 57 [.lst f 37 es,.lst g 37 ms] =
 bif big es then bif !fin es then some (bv false) else bif big ms then bif !fin ms then some (bv false) else bif pX2 (lX2 f es g ms 0) then bif crI es ms 0 ((es.length:Int) - (0 + 1)).toNat then some (bv true) else some (bv false) else none else none else none:=by kernel_rfl
def cCrx:List PV -> Option (DT PV) | [.lst _ 37 es,.lst _ 37 ms] => some (.br (big es && big ms) (.leaf (bv (crx es ms))) .no) | _ => none
theorem qRCross' (f:Bool) (es:List PV) (g:Bool) (ms:List PV) (h:(big es && big ms) = true):runP Tryz.prog E70b 60 57 [.lst f 37 es,.lst g 37 ms] = some (bv (crx es ms)):=by
 rw [Bool.and_eq_true] at h
 have h':=h
 simp only [decide_eq_true_eq] at h'
 rw [qRCross,h.1,h.2,show pX2 (lX2 f es g ms 0) = true by simp [pX2]; omega,show ((es.length:Int) - (0 + 1)).toNat = es.length - 1 by omega]
 unfold crx
 cases fin es <;> cases fin ms <;> cases crI es ms 0 (es.length - 1) <;> rfl
theorem eRCrx:Hx.Enters Tryz.prog 57:=(runP_sound ok70b (qRCross' true [] true [] rfl)).1
theorem oRCrx (args:List PV) (d:DT PV) (r:PV) (h:cCrx args = some d) (hr:d.run = some r):PCall Tryz.prog 57 args r:=by
 unfold cCrx at h; split at h
 ·rename_i f es g ms; cases h; obtain ⟨h1,rfl⟩:=run_br hr; exact (runP_sound ok70b (qRCross' f es g ms h1)).2
 ·cases h
end Go.Hg
/- Geometry: line.Cross: rounds of its inner loop, by what ends there are. -/
namespace Go.Hg
open Go.Hx Go.Proofs
noncomputable def E71:EnvK:=(((E70.addF 57 cCrx).addV 55 6 [0,3,4,5,39,40,41]).addV 55 12 [3,4,5,66]).addV 55 14 [3,4,5,9,70]
theorem ok71:EnvOK Tryz.prog E71.env:=(((ok70.addF eRCrx oRCrx).addV 55 6 [0,3,4,5,39,40,41]).addV 55 12 [3,4,5,66]).addV 55 14 [3,4,5,9,70]
abbrev rS (n:Nat):Row:={ es:=[.sl 6 n 0 n],s:=1,t:=42,bv:=false }
abbrev rS0:Row:={ es:=[.val (.slice none 0 0)],s:=1,t:=42,bv:=false }
abbrev rE (E:List PV):Row:=rN 37 2 false E
def mtS (a b c d:Int) (ms:List PV) (k l:Int):Int:=mt a b c d (qX ms k) (qY ms k) (qX ms l) (qY ms l)
def onP (a b c d x y:Int):Bool:=onX a b c d x y
def onQ (ms:List PV) (k l x y:Int):Bool:=onX (qX ms k) (qY ms k) (qX ms l) (qY ms l) x y

noncomputable def lrOA (st:LSt):Row:=lrow 55 Tryz.f55 12 (tm 89 [(3,.ptr 0 1 0 0),(4,.ptr 1 1 0 0),(5,.ptr 2 1 0 0),(66,sgf 3)]) st
noncomputable def lrIA (st:LSt):Row:=lrow 55 Tryz.f55 14 (tm 89 [(3,.ptr 0 1 0 0),(4,.ptr 1 1 0 0),(5,.ptr 2 1 0 0),(9,.ptr 5 1 0 0),(70,sgf 6)]) st
def shIA:S1:=⟨25,[(0,.yld 7),(1,.ptr 6 1 0 0),(3,I64)],[.one 42 1 (.lst 37),.one 4 1 .bool,.raw,.one 42 1 (.lst 37),.raw,.one 143 4 (.agg [I64,I64,I64,I64]),.one 42 1 (.lst 37),.raw]⟩
def shOA:S1:=⟨25,[(0,.yld 4),(1,.ptr 3 1 0 0),(3,I64)],[.one 42 1 (.lst 37),.one 4 1 .bool,.raw,.one 42 1 (.lst 37),.raw]⟩
abbrev lIA (f:Bool) (ms:List PV) (res:Bool) (re:Row) (g:Bool) (es:List PV) (rO:Row) (a b c d:Int) (g2:Bool) (ms2:List PV) (rI:Row) (k:Int):LS:=([.i k],[.l f ms,.b res,.r re,.l g es,.r rO,.i a,.i b,.i c,.i d,.l g2 ms2,.r rI])
abbrev lOA (f:Bool) (ms:List PV) (res:Bool) (re:Row) (g:Bool) (es:List PV) (rO:Row) (i:Int):LS:=([.i i],[.l f ms,.b res,.r re,.l g es,.r rO])
theorem qIA (f:Bool) (ms:List PV) (res:Bool) (g:Bool) (es:List PV) (a b c d:Int) (g2:Bool) (ms2:List PV) (k:Int):runB Tryz.prog E71 60 128 (lpb Tryz.f128 1) [0,1,3] [] (shIA.put (lIA f ms res rS0 g es (lrOA .busy) a b c d g2 ms2 (lrIA .ready) k)).1 (shIA.put (lIA f ms res rS0 g es (lrOA .busy) a b c d g2 ms2 (lrIA .ready) k)).2 =
 bif decide (W (k + 1) < (ms2.length:Int)) then bif inr ms2 k then bif inr ms2 (W (k + 1)) then
  bif decide (mtS a b c d ms2 k (W (k + 1)) > 1) then some (.ret,tm 25 [],(shIA.put (lIA f ms true rS0 g es (lrOA .busy) a b c d g2 ms2 (lrIA (.done .ret)) 0)).2) else bif mtS a b c d ms2 k (W (k + 1)) == 1 then (some (.ret,tm 25 [],(shIA.put (lIA f ms true rS0 g es (lrOA .busy) a b c d g2 ms2 (lrIA (.done .ret)) 0)).2)) else some (.normal,shIA.put (lIA f ms res rS0 g es (lrOA .busy) a b c d g2 ms2 (lrIA .ready) (W (k + 1))))
 else none else none else some (.exit 0,tm 25 [],(shIA.put (lIA f ms res rS0 g es (lrOA .busy) a b c d g2 ms2 (lrIA .ready) 0)).2):=by kernel_rfl
noncomputable def lrOB (st:LSt):Row:=lrow 55 Tryz.f55 12 (tm 89 [(3,.ptr 0 1 0 0),(4,.ptr 1 1 0 0),(5,.ptr 2 1 0 0),(66,sgf 4)]) st
noncomputable def lrIB (st:LSt):Row:=lrow 55 Tryz.f55 14 (tm 89 [(3,.ptr 0 1 0 0),(4,.ptr 1 1 0 0),(5,.ptr 2 1 0 0),(9,.ptr 6 1 0 0),(70,sgf 7)]) st
def shIB:S1:=⟨25,[(0,.yld 8),(1,.ptr 7 1 0 0),(3,I64)],[.one 42 1 (.lst 37),.one 4 1 .bool,.raw,.many 37 2,.one 42 1 (.lst 37),.raw,.one 143 4 (.agg [I64,I64,I64,I64]),.one 42 1 (.lst 37),.raw]⟩
def shOB:S1:=⟨25,[(0,.yld 5),(1,.ptr 4 1 0 0),(3,I64)],[.one 42 1 (.lst 37),.one 4 1 .bool,.raw,.many 37 2,.one 42 1 (.lst 37),.raw]⟩
abbrev lIB (f:Bool) (ms:List PV) (res:Bool) (re:Row) (np:Bool) (P:List PV) (g:Bool) (es:List PV) (rO:Row) (a b c d:Int) (g2:Bool) (ms2:List PV) (rI:Row) (k:Int):LS:=([.i k],[.l f ms,.b res,.r re,.l np P,.l g es,.r rO,.i a,.i b,.i c,.i d,.l g2 ms2,.r rI])
abbrev lOB (f:Bool) (ms:List PV) (res:Bool) (re:Row) (np:Bool) (P:List PV) (g:Bool) (es:List PV) (rO:Row) (i:Int):LS:=([.i i],[.l f ms,.b res,.r re,.l np P,.l g es,.r rO])
theorem qIB (f:Bool) (ms:List PV) (res:Bool) (np:Bool) (P:List PV) (g:Bool) (es:List PV) (a b c d:Int) (g2:Bool) (ms2:List PV) (k:Int):runB Tryz.prog E71 60 128 (lpb Tryz.f128 1) [0,1,3] [] (shIB.put (lIB f ms res rS0 np P g es (lrOB .busy) a b c d g2 ms2 (lrIB .ready) k)).1 (shIB.put (lIB f ms res rS0 np P g es (lrOB .busy) a b c d g2 ms2 (lrIB .ready) k)).2 =
 bif decide (W (k + 1) < (ms2.length:Int)) then bif inr ms2 k then bif inr ms2 (W (k + 1)) then
  bif decide (mtS a b c d ms2 k (W (k + 1)) > 1) then some (.ret,tm 25 [],(shIB.put (lIB f ms true rS0 np P g es (lrOB .busy) a b c d g2 ms2 (lrIB (.done .ret)) 0)).2) else bif mtS a b c d ms2 k (W (k + 1)) == 1 then (some (.ret,tm 25 [],(shIB.put (lIB f ms true rS0 np P g es (lrOB .busy) a b c d g2 ms2 (lrIB (.done .ret)) 0)).2)) else some (.normal,shIB.put (lIB f ms res rS0 np P g es (lrOB .busy) a b c d g2 ms2 (lrIB .ready) (W (k + 1))))
 else none else none else some (.exit 0,tm 25 [],(shIB.put (lIB f ms res rS0 np P g es (lrOB .busy) a b c d g2 ms2 (lrIB .ready) 0)).2):=by kernel_rfl
noncomputable def lrOC (st:LSt):Row:=lrow 55 Tryz.f55 12 (tm 89 [(3,.ptr 0 1 0 0),(4,.ptr 1 1 0 0),(5,.ptr 2 1 0 0),(66,sgf 7)]) st
noncomputable def lrIC (st:LSt):Row:=lrow 55 Tryz.f55 14 (tm 89 [(3,.ptr 0 1 0 0),(4,.ptr 1 1 0 0),(5,.ptr 2 1 0 0),(9,.ptr 9 1 0 0),(70,sgf 10)]) st
def shIC:S1:=⟨25,[(0,.yld 11),(1,.ptr 10 1 0 0),(3,I64)],[.one 42 1 (.lst 37),.one 4 1 .bool,.raw,.many 37 2,.one 37 2 (.agg [I64,I64]),.many 37 2,.raw,.one 42 1 (.lst 37),.raw,.one 143 4 (.agg [I64,I64,I64,I64]),.one 42 1 (.lst 37),.raw]⟩
def shOC:S1:=⟨25,[(0,.yld 8),(1,.ptr 7 1 0 0),(3,I64)],[.one 42 1 (.lst 37),.one 4 1 .bool,.raw,.many 37 2,.one 37 2 (.agg [I64,I64]),.many 37 2,.raw,.one 42 1 (.lst 37),.raw]⟩
abbrev lIC (f:Bool) (ms:List PV) (res:Bool) (re:Row) (np:Bool) (P:List PV) (tx ty:Int) (nb:Bool) (B:List PV) (rr:Row) (g:Bool) (es:List PV) (rO:Row) (a b c d:Int) (g2:Bool) (ms2:List PV) (rI:Row) (k:Int):LS:=([.i k],[.l f ms,.b res,.r re,.l np P,.i tx,.i ty,.l nb B,.r rr,.l g es,.r rO,.i a,.i b,.i c,.i d,.l g2 ms2,.r rI])
abbrev lOC (f:Bool) (ms:List PV) (res:Bool) (re:Row) (np:Bool) (P:List PV) (tx ty:Int) (nb:Bool) (B:List PV) (rr:Row) (g:Bool) (es:List PV) (rO:Row) (i:Int):LS:=([.i i],[.l f ms,.b res,.r re,.l np P,.i tx,.i ty,.l nb B,.r rr,.l g es,.r rO])
theorem qIC (f:Bool) (ms:List PV) (res:Bool) (np:Bool) (P:List PV) (tx ty:Int) (nb:Bool) (B:List PV) (x y:Int) (g:Bool) (es:List PV) (a b c d:Int) (g2:Bool) (ms2:List PV) (k:Int):runB Tryz.prog E71 60 128 (lpb Tryz.f128 1) [0,1,3] [] (shIC.put (lIC f ms res (rS 1) np P tx ty nb B (rE [ptv x y]) g es (lrOC .busy) a b c d g2 ms2 (lrIC .ready) k)).1 (shIC.put (lIC f ms res (rS 1) np P tx ty nb B (rE [ptv x y]) g es (lrOC .busy) a b c d g2 ms2 (lrIC .ready) k)).2 =
 bif decide (W (k + 1) < (ms2.length:Int)) then bif inr ms2 k then bif inr ms2 (W (k + 1)) then
  bif decide (mtS a b c d ms2 k (W (k + 1)) > 1) then some (.ret,tm 25 [],(shIC.put (lIC f ms true (rS 1) np P tx ty nb B (rE [ptv x y]) g es (lrOC .busy) a b c d g2 ms2 (lrIC (.done .ret)) 0)).2) else bif mtS a b c d ms2 k (W (k + 1)) == 1 then (bif onP a b c d x y then bif onQ ms2 k (W (k + 1)) x y then some (.normal,shIC.put (lIC f ms res (rS 1) np P tx ty nb B (rE [ptv x y]) g es (lrOC .busy) a b c d g2 ms2 (lrIC .ready) (W (k + 1)))) else some (.ret,tm 25 [],(shIC.put (lIC f ms true (rS 1) np P tx ty nb B (rE [ptv x y]) g es (lrOC .busy) a b c d g2 ms2 (lrIC (.done .ret)) 0)).2) else some (.ret,tm 25 [],(shIC.put (lIC f ms true (rS 1) np P tx ty nb B (rE [ptv x y]) g es (lrOC .busy) a b c d g2 ms2 (lrIC (.done .ret)) 0)).2)) else some (.normal,shIC.put (lIC f ms res (rS 1) np P tx ty nb B (rE [ptv x y]) g es (lrOC .busy) a b c d g2 ms2 (lrIC .ready) (W (k + 1))))
 else none else none else some (.exit 0,tm 25 [],(shIC.put (lIC f ms res (rS 1) np P tx ty nb B (rE [ptv x y]) g es (lrOC .busy) a b c d g2 ms2 (lrIC .ready) 0)).2):=by kernel_rfl
theorem qID (f:Bool) (ms:List PV) (res:Bool) (np:Bool) (P:List PV) (tx ty:Int) (nb:Bool) (B:List PV) (x y z w:Int) (g:Bool) (es:List PV) (a b c d:Int) (g2:Bool) (ms2:List PV) (k:Int):runB Tryz.prog E71 60 128 (lpb Tryz.f128 1) [0,1,3] [] (shIC.put (lIC f ms res (rS 2) np P tx ty nb B (rE [ptv x y,ptv z w]) g es (lrOC .busy) a b c d g2 ms2 (lrIC .ready) k)).1 (shIC.put (lIC f ms res (rS 2) np P tx ty nb B (rE [ptv x y,ptv z w]) g es (lrOC .busy) a b c d g2 ms2 (lrIC .ready) k)).2 =
 bif decide (W (k + 1) < (ms2.length:Int)) then bif inr ms2 k then bif inr ms2 (W (k + 1)) then
  bif decide (mtS a b c d ms2 k (W (k + 1)) > 1) then some (.ret,tm 25 [],(shIC.put (lIC f ms true (rS 2) np P tx ty nb B (rE [ptv x y,ptv z w]) g es (lrOC .busy) a b c d g2 ms2 (lrIC (.done .ret)) 0)).2) else bif mtS a b c d ms2 k (W (k + 1)) == 1 then (bif onP a b c d x y then bif onQ ms2 k (W (k + 1)) x y then some (.normal,shIC.put (lIC f ms res (rS 2) np P tx ty nb B (rE [ptv x y,ptv z w]) g es (lrOC .busy) a b c d g2 ms2 (lrIC .ready) (W (k + 1)))) else (bif onP a b c d z w then bif onQ ms2 k (W (k + 1)) z w then some (.normal,shIC.put (lIC f ms res (rS 2) np P tx ty nb B (rE [ptv x y,ptv z w]) g es (lrOC .busy) a b c d g2 ms2 (lrIC .ready) (W (k + 1)))) else some (.ret,tm 25 [],(shIC.put (lIC f ms true (rS 2) np P tx ty nb B (rE [ptv x y,ptv z w]) g es (lrOC .busy) a b c d g2 ms2 (lrIC (.done .ret)) 0)).2) else some (.ret,tm 25 [],(shIC.put (lIC f ms true (rS 2) np P tx ty nb B (rE [ptv x y,ptv z w]) g es (lrOC .busy) a b c d g2 ms2 (lrIC (.done .ret)) 0)).2)) else (bif onP a b c d z w then bif onQ ms2 k (W (k + 1)) z w then some (.normal,shIC.put (lIC f ms res (rS 2) np P tx ty nb B (rE [ptv x y,ptv z w]) g es (lrOC .busy) a b c d g2 ms2 (lrIC .ready) (W (k + 1)))) else some (.ret,tm 25 [],(shIC.put (lIC f ms true (rS 2) np P tx ty nb B (rE [ptv x y,ptv z w]) g es (lrOC .busy) a b c d g2 ms2 (lrIC (.done .ret)) 0)).2) else some (.ret,tm 25 [],(shIC.put (lIC f ms true (rS 2) np P tx ty nb B (rE [ptv x y,ptv z w]) g es (lrOC .busy) a b c d g2 ms2 (lrIC (.done .ret)) 0)).2))) else some (.normal,shIC.put (lIC f ms res (rS 2) np P tx ty nb B (rE [ptv x y,ptv z w]) g es (lrOC .busy) a b c d g2 ms2 (lrIC .ready) (W (k + 1))))
 else none else none else some (.exit 0,tm 25 [],(shIC.put (lIC f ms res (rS 2) np P tx ty nb B (rE [ptv x y,ptv z w]) g es (lrOC .busy) a b c d g2 ms2 (lrIC .ready) 0)).2):=by kernel_rfl
end Go.Hg
/- Geometry: line.Cross: its loops. -/
namespace Go.Hg
open Go.Hx Go.Proofs
def cnt (a b c d:Int) (ms:List PV) (k l:Int) (E:List (Int × Int)):Bool:=E.any fun p => onP a b c d p.1 p.2 && onQ ms k l p.1 p.2
def xS (a b c d:Int) (ms:List PV) (E:List (Int × Int)) (k:Int):Bool:=decide (mtS a b c d ms k (k + 1) > 1) || ((mtS a b c d ms k (k + 1) == 1) && !cnt a b c d ms k (k + 1) E)
def crS (a b c d:Int) (ms:List PV) (E:List (Int × Int)) (k:Int):Nat -> Bool
 | 0 => false
 | n + 1 => xS a b c d ms E k || crS a b c d ms E (k + 1) n
def crO (es ms:List PV) (E:List (Int × Int)) (i:Int):Nat -> Bool
 | 0 => false
 | n + 1 => crS (qX es i) (qY es i) (qX es (i + 1)) (qY es (i + 1)) ms E 0 (ms.length - 1) || crO es ms E (i + 1) n
def selN {σ:Type} (n:Nat) (get:List PV -> List Row -> Option σ) (S:List PV) (H:List Row):Option σ:=match H[6]? with | some r => if r.es.length = n then get S H else none | none => none
theorem selN_get {σ:Type} {n:Nat} {get:List PV -> List Row -> Option σ} {emb:σ -> List PV × List Row} (h:∀ S H x,get S H = some x -> S = (emb x).1 /\ H = (emb x).2):∀ S H x,selN n get S H = some x -> S = (emb x).1 /\ H = (emb x).2:=by
 intro S H x hx
 unfold selN at hx
 split at hx
 ·split at hx
  ·exact h S H x hx
  ·cases hx
 ·cases hx
def rwX (r:Row) (j:Nat):Int:=((r.es.getD j .any).cellAt 0).getI
def rwY (r:Row) (j:Nat):Int:=((r.es.getD j .any).cellAt 1).getI

noncomputable def pIAx:LS -> Bool
 | ([.i k],[.l _ _,.b _,.r re,.l _ _,.r rO,.i _,.i _,.i _,.i _,.l _ ms2,.r rI]) => decide (0 <= k) && decide (k <= (ms2.length:Int)) && big ms2 && same rO (lrOA .busy) && same rI (lrIA .ready) && same re rS0
 | _ => false
noncomputable def fIAx:LS -> DT (PX × List PV × List Row)
 | ([.i k],[.l f ms,.b res,.r re,.l g es,.r rO,.i a,.i b,.i c,.i d,.l g2 ms2,.r rI]) => .br (crS a b c d ms2 [] k ((ms2.length:Int) - (k + 1)).toNat)
   (.leaf (.ret,tm 25 [],(shIA.put (lIA f ms true re g es rO a b c d g2 ms2 (lrIA (.done .ret)) 0)).2)) (.leaf (.exit 0,tm 25 [],(shIA.put (lIA f ms res re g es rO a b c d g2 ms2 rI 0)).2))
 | _ => .no
def mIAx:LS -> Nat
 | ([.i k],[.l _ _,.b _,.r _,.l _ _,.r _,.i _,.i _,.i _,.i _,.l _ ms2,.r _]) => ((ms2.length:Int) - (k + 1)).toNat
 | _ => 0
theorem sIAx:∀ s r,pIAx s = true -> (fIAx s).run = some r -> r.1 ≠ .normal /\ (runB Tryz.prog E71 60 128 (lpb Tryz.f128 1) [0,1,3] [] (shIA.put s).1 (shIA.put s).2 = some r \/
   ∃ s',runB Tryz.prog E71 60 128 (lpb Tryz.f128 1) [0,1,3] [] (shIA.put s).1 (shIA.put s).2 = some (.normal,shIA.put s') /\ pIAx s' = true /\ mIAx s' < mIAx s /\ (fIAx s').run = some r):=by
 intro s r hp hr
 unfold pIAx at hp; split at hp
 ·rename_i k f ms res re g es rO a b c d g2 ms2 rI
  simp only [Bool.and_eq_true,decide_eq_true_eq,same_iff] at hp
  obtain ⟨⟨⟨⟨⟨h1,h2⟩,h3⟩,rfl⟩,rfl⟩,rfl⟩:=hp
  have hr':=run_br2 hr
  refine ⟨by rw [hr']; generalize crS a b c d ms2 _ k _ = q; cases q <;> simp,?_⟩
  rw [qIA]
  have hw:=W_id (n:=k + 1) (by omega) (by omega)
  rw [hw]
  by_cases hi:k + 1 < (ms2.length:Int)
  ·rw [decide_eq_true hi,cond_true,inr_of h1 (by omega),inr_of (by omega) hi]
   obtain ⟨m,hm⟩:∃ m,((ms2.length:Int) - (k + 1)).toNat = m + 1:=⟨((ms2.length:Int) - (k + 1)).toNat - 1,by omega⟩
   rw [hm] at hr'
   replace hr':r = bif xS a b c d ms2 [] k || crS a b c d ms2 [] (k + 1) m then _ else _:=hr'
   simp only [cond_true]
   generalize hX:(some (PX.normal,shIA.put (lIA f ms res rS0 g es (lrOA .busy) a b c d g2 ms2 (lrIA .ready) (k + 1))):Option (PX × List PV × List Row)) = X
   generalize hY:(some (PX.ret,tm 25 [],(shIA.put (lIA f ms true rS0 g es (lrOA .busy) a b c d g2 ms2 (lrIA (.done .ret)) 0)).2):Option (PX × List PV × List Row)) = Y
   have key:(bif decide (mtS a b c d ms2 k (k + 1) > 1) then Y else bif mtS a b c d ms2 k (k + 1) == 1 then (Y) else X) = bif xS a b c d ms2 [] k then Y else X:=by
    unfold xS cnt
    simp only [List.any_nil]
    cases decide (mtS a b c d ms2 k (k + 1) > 1) <;> cases mtS a b c d ms2 k (k + 1) == 1 <;> rfl
   rw [key]
   cases hR:xS a b c d ms2 [] k with
   | true => rw [hR] at hr'; exact .inl (by rw [cond_true,<- hY,hr']; rfl)
   | false =>
    rw [hR] at hr'
    refine .inr ⟨lIA f ms res rS0 g es (lrOA .busy) a b c d g2 ms2 (lrIA .ready) (k + 1),by rw [cond_false,<- hX],?_,by simp only [mIAx]; omega,?_⟩
    ·simp only [pIAx,same_self,Bool.and_true,Bool.and_eq_true,decide_eq_true_eq]
     first | exact ⟨⟨by omega,by omega⟩,h3⟩ | exact ⟨⟨⟨by omega,by omega⟩,h3⟩,trivial,same_self _⟩
    ·rw [hr']
     simp only [fIAx]
     rw [show ((ms2.length:Int) - (k + 1 + 1)).toNat = m by omega]
     show (DT.br (crS a b c d ms2 [] (k + 1) m) _ _).run = _
     cases crS a b c d ms2 [] (k + 1) m <;> rfl
  ·rw [decide_eq_false hi]
   rw [show ((ms2.length:Int) - (k + 1)).toNat = 0 by omega] at hr'
   exact .inl (by rw [hr']; rfl)
 ·cases hp
noncomputable def pIBx:LS -> Bool
 | ([.i k],[.l _ _,.b _,.r re,.l _ _,.l _ _,.r rO,.i _,.i _,.i _,.i _,.l _ ms2,.r rI]) => decide (0 <= k) && decide (k <= (ms2.length:Int)) && big ms2 && same rO (lrOB .busy) && same rI (lrIB .ready) && same re rS0
 | _ => false
noncomputable def fIBx:LS -> DT (PX × List PV × List Row)
 | ([.i k],[.l f ms,.b res,.r re,.l np P,.l g es,.r rO,.i a,.i b,.i c,.i d,.l g2 ms2,.r rI]) => .br (crS a b c d ms2 [] k ((ms2.length:Int) - (k + 1)).toNat)
   (.leaf (.ret,tm 25 [],(shIB.put (lIB f ms true re np P g es rO a b c d g2 ms2 (lrIB (.done .ret)) 0)).2)) (.leaf (.exit 0,tm 25 [],(shIB.put (lIB f ms res re np P g es rO a b c d g2 ms2 rI 0)).2))
 | _ => .no
def mIBx:LS -> Nat
 | ([.i k],[.l _ _,.b _,.r _,.l _ _,.l _ _,.r _,.i _,.i _,.i _,.i _,.l _ ms2,.r _]) => ((ms2.length:Int) - (k + 1)).toNat
 | _ => 0
theorem sIBx:∀ s r,pIBx s = true -> (fIBx s).run = some r -> r.1 ≠ .normal /\ (runB Tryz.prog E71 60 128 (lpb Tryz.f128 1) [0,1,3] [] (shIB.put s).1 (shIB.put s).2 = some r \/
   ∃ s',runB Tryz.prog E71 60 128 (lpb Tryz.f128 1) [0,1,3] [] (shIB.put s).1 (shIB.put s).2 = some (.normal,shIB.put s') /\ pIBx s' = true /\ mIBx s' < mIBx s /\ (fIBx s').run = some r):=by
 intro s r hp hr
 unfold pIBx at hp; split at hp
 ·rename_i k f ms res re np P g es rO a b c d g2 ms2 rI
  simp only [Bool.and_eq_true,decide_eq_true_eq,same_iff] at hp
  obtain ⟨⟨⟨⟨⟨h1,h2⟩,h3⟩,rfl⟩,rfl⟩,rfl⟩:=hp
  have hr':=run_br2 hr
  refine ⟨by rw [hr']; generalize crS a b c d ms2 _ k _ = q; cases q <;> simp,?_⟩
  rw [qIB]
  have hw:=W_id (n:=k + 1) (by omega) (by omega)
  rw [hw]
  by_cases hi:k + 1 < (ms2.length:Int)
  ·rw [decide_eq_true hi,cond_true,inr_of h1 (by omega),inr_of (by omega) hi]
   obtain ⟨m,hm⟩:∃ m,((ms2.length:Int) - (k + 1)).toNat = m + 1:=⟨((ms2.length:Int) - (k + 1)).toNat - 1,by omega⟩
   rw [hm] at hr'
   replace hr':r = bif xS a b c d ms2 [] k || crS a b c d ms2 [] (k + 1) m then _ else _:=hr'
   simp only [cond_true]
   generalize hX:(some (PX.normal,shIB.put (lIB f ms res rS0 np P g es (lrOB .busy) a b c d g2 ms2 (lrIB .ready) (k + 1))):Option (PX × List PV × List Row)) = X
   generalize hY:(some (PX.ret,tm 25 [],(shIB.put (lIB f ms true rS0 np P g es (lrOB .busy) a b c d g2 ms2 (lrIB (.done .ret)) 0)).2):Option (PX × List PV × List Row)) = Y
   have key:(bif decide (mtS a b c d ms2 k (k + 1) > 1) then Y else bif mtS a b c d ms2 k (k + 1) == 1 then (Y) else X) = bif xS a b c d ms2 [] k then Y else X:=by
    unfold xS cnt
    simp only [List.any_nil]
    cases decide (mtS a b c d ms2 k (k + 1) > 1) <;> cases mtS a b c d ms2 k (k + 1) == 1 <;> rfl
   rw [key]
   cases hR:xS a b c d ms2 [] k with
   | true => rw [hR] at hr'; exact .inl (by rw [cond_true,<- hY,hr']; rfl)
   | false =>
    rw [hR] at hr'
    refine .inr ⟨lIB f ms res rS0 np P g es (lrOB .busy) a b c d g2 ms2 (lrIB .ready) (k + 1),by rw [cond_false,<- hX],?_,by simp only [mIBx]; omega,?_⟩
    ·simp only [pIBx,same_self,Bool.and_true,Bool.and_eq_true,decide_eq_true_eq]
     first | exact ⟨⟨by omega,by omega⟩,h3⟩ | exact ⟨⟨⟨by omega,by omega⟩,h3⟩,trivial,same_self _⟩
    ·rw [hr']
     simp only [fIBx]
     rw [show ((ms2.length:Int) - (k + 1 + 1)).toNat = m by omega]
     show (DT.br (crS a b c d ms2 [] (k + 1) m) _ _).run = _
     cases crS a b c d ms2 [] (k + 1) m <;> rfl
  ·rw [decide_eq_false hi]
   rw [show ((ms2.length:Int) - (k + 1)).toNat = 0 by omega] at hr'
   exact .inl (by rw [hr']; rfl)
 ·cases hp
noncomputable def pICx:LS -> Bool
 | ([.i k],[.l _ _,.b _,.r re,.l _ _,.i _,.i _,.l _ _,.r rr,.l _ _,.r rO,.i _,.i _,.i _,.i _,.l _ ms2,.r rI]) => decide (0 <= k) && decide (k <= (ms2.length:Int)) && big ms2 && same rO (lrOC .busy) && same rI (lrIC .ready) && (same re (rS 1) && same rr (rE [ptv (rwX rr 0) (rwY rr 0)]))
 | _ => false
noncomputable def fICx:LS -> DT (PX × List PV × List Row)
 | ([.i k],[.l f ms,.b res,.r re,.l np P,.i tx,.i ty,.l nb B,.r rr,.l g es,.r rO,.i a,.i b,.i c,.i d,.l g2 ms2,.r rI]) => .br (crS a b c d ms2 [(rwX rr 0,rwY rr 0)] k ((ms2.length:Int) - (k + 1)).toNat)
   (.leaf (.ret,tm 25 [],(shIC.put (lIC f ms true re np P tx ty nb B rr g es rO a b c d g2 ms2 (lrIC (.done .ret)) 0)).2)) (.leaf (.exit 0,tm 25 [],(shIC.put (lIC f ms res re np P tx ty nb B rr g es rO a b c d g2 ms2 rI 0)).2))
 | _ => .no
def mICx:LS -> Nat
 | ([.i k],[.l _ _,.b _,.r _,.l _ _,.i _,.i _,.l _ _,.r _,.l _ _,.r _,.i _,.i _,.i _,.i _,.l _ ms2,.r _]) => ((ms2.length:Int) - (k + 1)).toNat
 | _ => 0
theorem sICx:∀ s r,pICx s = true -> (fICx s).run = some r -> r.1 ≠ .normal /\ (runB Tryz.prog E71 60 128 (lpb Tryz.f128 1) [0,1,3] [] (shIC.put s).1 (shIC.put s).2 = some r \/
   ∃ s',runB Tryz.prog E71 60 128 (lpb Tryz.f128 1) [0,1,3] [] (shIC.put s).1 (shIC.put s).2 = some (.normal,shIC.put s') /\ pICx s' = true /\ mICx s' < mICx s /\ (fICx s').run = some r):=by
 intro s r hp hr
 unfold pICx at hp; split at hp
 ·rename_i k f ms res re np P tx ty nb B rr g es rO a b c d g2 ms2 rI
  simp only [Bool.and_eq_true,decide_eq_true_eq,same_iff] at hp
  obtain ⟨⟨⟨⟨⟨h1,h2⟩,h3⟩,rfl⟩,rfl⟩,rfl,hrr⟩:=hp
  obtain ⟨x,y,rfl⟩:∃ x y,rr = rE [ptv x y]:=⟨_,_,hrr⟩
  have hr':=run_br2 hr
  refine ⟨by rw [hr']; generalize crS a b c d ms2 _ k _ = q; cases q <;> simp,?_⟩
  rw [qIC]
  have hw:=W_id (n:=k + 1) (by omega) (by omega)
  rw [hw]
  by_cases hi:k + 1 < (ms2.length:Int)
  ·rw [decide_eq_true hi,cond_true,inr_of h1 (by omega),inr_of (by omega) hi]
   obtain ⟨m,hm⟩:∃ m,((ms2.length:Int) - (k + 1)).toNat = m + 1:=⟨((ms2.length:Int) - (k + 1)).toNat - 1,by omega⟩
   rw [hm] at hr'
   replace hr':r = bif xS a b c d ms2 [(x,y)] k || crS a b c d ms2 [(x,y)] (k + 1) m then _ else _:=hr'
   simp only [cond_true]
   generalize hX:(some (PX.normal,shIC.put (lIC f ms res (rS 1) np P tx ty nb B (rE [ptv x y]) g es (lrOC .busy) a b c d g2 ms2 (lrIC .ready) (k + 1))):Option (PX × List PV × List Row)) = X
   generalize hY:(some (PX.ret,tm 25 [],(shIC.put (lIC f ms true (rS 1) np P tx ty nb B (rE [ptv x y]) g es (lrOC .busy) a b c d g2 ms2 (lrIC (.done .ret)) 0)).2):Option (PX × List PV × List Row)) = Y
   have key:(bif decide (mtS a b c d ms2 k (k + 1) > 1) then Y else bif mtS a b c d ms2 k (k + 1) == 1 then (bif onP a b c d x y then bif onQ ms2 k (k + 1) x y then X else Y else Y) else X) = bif xS a b c d ms2 [(x,y)] k then Y else X:=by
    unfold xS cnt
    simp only [List.any_cons,List.any_nil]
    cases decide (mtS a b c d ms2 k (k + 1) > 1) <;> cases mtS a b c d ms2 k (k + 1) == 1 <;> cases onP a b c d x y <;> cases onQ ms2 k (k + 1) x y <;> rfl
   rw [key]
   cases hR:xS a b c d ms2 [(x,y)] k with
   | true => rw [hR] at hr'; exact .inl (by rw [cond_true,<- hY,hr']; rfl)
   | false =>
    rw [hR] at hr'
    refine .inr ⟨lIC f ms res (rS 1) np P tx ty nb B (rE [ptv x y]) g es (lrOC .busy) a b c d g2 ms2 (lrIC .ready) (k + 1),by rw [cond_false,<- hX],?_,by simp only [mICx]; omega,?_⟩
    ·simp only [pICx,same_self,Bool.and_true,Bool.and_eq_true,decide_eq_true_eq]
     first | exact ⟨⟨by omega,by omega⟩,h3⟩ | exact ⟨⟨⟨by omega,by omega⟩,h3⟩,trivial,same_self _⟩
    ·rw [hr']
     simp only [fICx]
     rw [show ((ms2.length:Int) - (k + 1 + 1)).toNat = m by omega]
     show (DT.br (crS a b c d ms2 [(x,y)] (k + 1) m) _ _).run = _
     cases crS a b c d ms2 [(x,y)] (k + 1) m <;> rfl
  ·rw [decide_eq_false hi]
   rw [show ((ms2.length:Int) - (k + 1)).toNat = 0 by omega] at hr'
   exact .inl (by rw [hr']; rfl)
 ·cases hp
noncomputable def pIDx:LS -> Bool
 | ([.i k],[.l _ _,.b _,.r re,.l _ _,.i _,.i _,.l _ _,.r rr,.l _ _,.r rO,.i _,.i _,.i _,.i _,.l _ ms2,.r rI]) => decide (0 <= k) && decide (k <= (ms2.length:Int)) && big ms2 && same rO (lrOC .busy) && same rI (lrIC .ready) && (same re (rS 2) && same rr (rE [ptv (rwX rr 0) (rwY rr 0),ptv (rwX rr 1) (rwY rr 1)]))
 | _ => false
noncomputable def fIDx:LS -> DT (PX × List PV × List Row)
 | ([.i k],[.l f ms,.b res,.r re,.l np P,.i tx,.i ty,.l nb B,.r rr,.l g es,.r rO,.i a,.i b,.i c,.i d,.l g2 ms2,.r rI]) => .br (crS a b c d ms2 [(rwX rr 0,rwY rr 0),(rwX rr 1,rwY rr 1)] k ((ms2.length:Int) - (k + 1)).toNat)
   (.leaf (.ret,tm 25 [],(shIC.put (lIC f ms true re np P tx ty nb B rr g es rO a b c d g2 ms2 (lrIC (.done .ret)) 0)).2)) (.leaf (.exit 0,tm 25 [],(shIC.put (lIC f ms res re np P tx ty nb B rr g es rO a b c d g2 ms2 rI 0)).2))
 | _ => .no
def mIDx:LS -> Nat
 | ([.i k],[.l _ _,.b _,.r _,.l _ _,.i _,.i _,.l _ _,.r _,.l _ _,.r _,.i _,.i _,.i _,.i _,.l _ ms2,.r _]) => ((ms2.length:Int) - (k + 1)).toNat
 | _ => 0
theorem sIDx:∀ s r,pIDx s = true -> (fIDx s).run = some r -> r.1 ≠ .normal /\ (runB Tryz.prog E71 60 128 (lpb Tryz.f128 1) [0,1,3] [] (shIC.put s).1 (shIC.put s).2 = some r \/
   ∃ s',runB Tryz.prog E71 60 128 (lpb Tryz.f128 1) [0,1,3] [] (shIC.put s).1 (shIC.put s).2 = some (.normal,shIC.put s') /\ pIDx s' = true /\ mIDx s' < mIDx s /\ (fIDx s').run = some r):=by
 intro s r hp hr
 unfold pIDx at hp; split at hp
 ·rename_i k f ms res re np P tx ty nb B rr g es rO a b c d g2 ms2 rI
  simp only [Bool.and_eq_true,decide_eq_true_eq,same_iff] at hp
  obtain ⟨⟨⟨⟨⟨h1,h2⟩,h3⟩,rfl⟩,rfl⟩,rfl,hrr⟩:=hp
  obtain ⟨x,y,z,w,rfl⟩:∃ x y z w,rr = rE [ptv x y,ptv z w]:=⟨_,_,_,_,hrr⟩
  have hr':=run_br2 hr
  refine ⟨by rw [hr']; generalize crS a b c d ms2 _ k _ = q; cases q <;> simp,?_⟩
  rw [qID]
  have hw:=W_id (n:=k + 1) (by omega) (by omega)
  rw [hw]
  by_cases hi:k + 1 < (ms2.length:Int)
  ·rw [decide_eq_true hi,cond_true,inr_of h1 (by omega),inr_of (by omega) hi]
   obtain ⟨m,hm⟩:∃ m,((ms2.length:Int) - (k + 1)).toNat = m + 1:=⟨((ms2.length:Int) - (k + 1)).toNat - 1,by omega⟩
   rw [hm] at hr'
   replace hr':r = bif xS a b c d ms2 [(x,y),(z,w)] k || crS a b c d ms2 [(x,y),(z,w)] (k + 1) m then _ else _:=hr'
   simp only [cond_true]
   generalize hX:(some (PX.normal,shIC.put (lIC f ms res (rS 2) np P tx ty nb B (rE [ptv x y,ptv z w]) g es (lrOC .busy) a b c d g2 ms2 (lrIC .ready) (k + 1))):Option (PX × List PV × List Row)) = X
   generalize hY:(some (PX.ret,tm 25 [],(shIC.put (lIC f ms true (rS 2) np P tx ty nb B (rE [ptv x y,ptv z w]) g es (lrOC .busy) a b c d g2 ms2 (lrIC (.done .ret)) 0)).2):Option (PX × List PV × List Row)) = Y
   have key:(bif decide (mtS a b c d ms2 k (k + 1) > 1) then Y else bif mtS a b c d ms2 k (k + 1) == 1 then (bif onP a b c d x y then bif onQ ms2 k (k + 1) x y then X else (bif onP a b c d z w then bif onQ ms2 k (k + 1) z w then X else Y else Y) else (bif onP a b c d z w then bif onQ ms2 k (k + 1) z w then X else Y else Y)) else X) = bif xS a b c d ms2 [(x,y),(z,w)] k then Y else X:=by
    unfold xS cnt
    simp only [List.any_cons,List.any_nil]
    cases decide (mtS a b c d ms2 k (k + 1) > 1) <;> cases mtS a b c d ms2 k (k + 1) == 1 <;> cases onP a b c d x y <;> cases onQ ms2 k (k + 1) x y <;> cases onP a b c d z w <;> cases onQ ms2 k (k + 1) z w <;> rfl
   rw [key]
   cases hR:xS a b c d ms2 [(x,y),(z,w)] k with
   | true => rw [hR] at hr'; exact .inl (by rw [cond_true,<- hY,hr']; rfl)
   | false =>
    rw [hR] at hr'
    refine .inr ⟨lIC f ms res (rS 2) np P tx ty nb B (rE [ptv x y,ptv z w]) g es (lrOC .busy) a b c d g2 ms2 (lrIC .ready) (k + 1),by rw [cond_false,<- hX],?_,by simp only [mIDx]; omega,?_⟩
    ·simp only [pIDx,same_self,Bool.and_true,Bool.and_eq_true,decide_eq_true_eq]
     first | exact ⟨⟨by omega,by omega⟩,h3⟩ | exact ⟨⟨⟨by omega,by omega⟩,h3⟩,trivial,same_self _⟩
    ·rw [hr']
     simp only [fIDx]
     rw [show ((ms2.length:Int) - (k + 1 + 1)).toNat = m by omega]
     show (DT.br (crS a b c d ms2 [(x,y),(z,w)] (k + 1) m) _ _).run = _
     cases crS a b c d ms2 [(x,y),(z,w)] (k + 1) m <;> rfl
  ·rw [decide_eq_false hi]
   rw [show ((ms2.length:Int) - (k + 1)).toNat = 0 by omega] at hr'
   exact .inl (by rw [hr']; rfl)
 ·cases hp
noncomputable def E71a:EnvK:=E71.addL2 128 1 [0,1,3] (byModel [] shIA.get pIAx fIAx)
theorem ok71a:EnvOK Tryz.prog E71a.env:=
 ok71.addL2 Tryz.func128 (show Tryz.f128.body = some (bod Tryz.f128) by kernel_rfl) (show (loops (bod Tryz.f128)).filter (fun b => rid b == 1) = [lpb Tryz.f128 1] by kernel_rfl) fun hs ro S H d x S' H' => loopW ok71 [0,1,3] [] shIA.put S1.get_put mIAx sIAx hs ro S H d x S' H'
noncomputable def E71b:EnvK:=E71a.addL2 128 1 [0,1,3] (byModel [] shIB.get pIBx fIBx)
theorem ok71b:EnvOK Tryz.prog E71b.env:=
 ok71a.addL2 Tryz.func128 (show Tryz.f128.body = some (bod Tryz.f128) by kernel_rfl) (show (loops (bod Tryz.f128)).filter (fun b => rid b == 1) = [lpb Tryz.f128 1] by kernel_rfl) fun hs ro S H d x S' H' => loopW ok71 [0,1,3] [] shIB.put S1.get_put mIBx sIBx hs ro S H d x S' H'
noncomputable def E71c:EnvK:=E71b.addL2 128 1 [0,1,3] (byModel [] (selN 1 shIC.get) pICx fICx)
theorem ok71c:EnvOK Tryz.prog E71c.env:=
 ok71b.addL2 Tryz.func128 (show Tryz.f128.body = some (bod Tryz.f128) by kernel_rfl) (show (loops (bod Tryz.f128)).filter (fun b => rid b == 1) = [lpb Tryz.f128 1] by kernel_rfl) fun hs ro S H d x S' H' => loopW ok71 [0,1,3] [] shIC.put (selN_get S1.get_put) mICx sICx hs ro S H d x S' H'
noncomputable def E71d:EnvK:=E71c.addL2 128 1 [0,1,3] (byModel [] (selN 2 shIC.get) pIDx fIDx)
theorem ok71d:EnvOK Tryz.prog E71d.env:=
 ok71c.addL2 Tryz.func128 (show Tryz.f128.body = some (bod Tryz.f128) by kernel_rfl) (show (loops (bod Tryz.f128)).filter (fun b => rid b == 1) = [lpb Tryz.f128 1] by kernel_rfl) fun hs ro S H d x S' H' => loopW ok71 [0,1,3] [] shIC.put (selN_get S1.get_put) mIDx sIDx hs ro S H d x S' H'
end Go.Hg
/- Geometry: line.Cross: its outer loop. -/
namespace Go.Hg
open Go.Hx Go.Proofs

theorem qOA (f:Bool) (ms:List PV) (res:Bool) (g:Bool) (es:List PV) (i:Int):runB Tryz.prog E71d 60 128 (lpb Tryz.f128 1) [0,1,3] [] (shOA.put (lOA f ms res rS0 g es (lrOA .ready) i)).1 (shOA.put (lOA f ms res rS0 g es (lrOA .ready) i)).2 =
 bif decide (W (i + 1) < (es.length:Int)) then bif inr es i then bif inr es (W (i + 1)) then
  bif pIAx (lIA f ms res rS0 g es (lrOA .busy) (qX es i) (qY es i) (qX es (W (i + 1))) (qY es (W (i + 1))) false ms (lrIA .ready) 0) then bif crS (qX es i) (qY es i) (qX es (W (i + 1))) (qY es (W (i + 1))) ms [] 0 ((ms.length:Int) - (0 + 1)).toNat then some (.ret,tm 25 [],(shOA.put (lOA f ms true rS0 g es (lrOA (.done .ret)) 0)).2) else some (.normal,shOA.put (lOA f ms res rS0 g es (lrOA .ready) (W (i + 1)))) else none
 else none else none else some (.exit 0,tm 25 [],(shOA.put (lOA f ms res rS0 g es (lrOA .ready) 0)).2):=by kernel_rfl
noncomputable def pOAx:LS -> Bool
 | ([.i i],[.l _ ms,.b _,.r re,.l _ es,.r rO]) => decide (0 <= i) && decide (i <= (es.length:Int)) && big es && big ms && same rO (lrOA .ready) && same re rS0
 | _ => false
noncomputable def fOAx:LS -> DT (PX × List PV × List Row)
 | ([.i i],[.l f ms,.b res,.r re,.l g es,.r rO]) => .br (crO es ms [] i ((es.length:Int) - (i + 1)).toNat)
   (.leaf (.ret,tm 25 [],(shOA.put (lOA f ms true re g es (lrOA (.done .ret)) 0)).2)) (.leaf (.exit 0,tm 25 [],(shOA.put (lOA f ms res re g es rO 0)).2))
 | _ => .no
def mOAx:LS -> Nat
 | ([.i i],[.l _ _,.b _,.r _,.l _ es,.r _]) => ((es.length:Int) - (i + 1)).toNat
 | _ => 0
theorem sOAx:∀ s r,pOAx s = true -> (fOAx s).run = some r -> r.1 ≠ .normal /\ (runB Tryz.prog E71d 60 128 (lpb Tryz.f128 1) [0,1,3] [] (shOA.put s).1 (shOA.put s).2 = some r \/
   ∃ s',runB Tryz.prog E71d 60 128 (lpb Tryz.f128 1) [0,1,3] [] (shOA.put s).1 (shOA.put s).2 = some (.normal,shOA.put s') /\ pOAx s' = true /\ mOAx s' < mOAx s /\ (fOAx s').run = some r):=by
 intro s r hp hr
 unfold pOAx at hp; split at hp
 ·rename_i i f ms res re g es rO
  simp only [Bool.and_eq_true,decide_eq_true_eq,same_iff] at hp
  obtain ⟨⟨⟨⟨⟨h1,h2⟩,h3⟩,h4⟩,rfl⟩,rfl⟩:=hp
  have hr':=run_br2 hr
  refine ⟨by rw [hr']; generalize crO es ms _ i _ = q; cases q <;> simp,?_⟩
  rw [qOA]
  have hw:=W_id (n:=i + 1) (by omega) (by omega)
  rw [hw]
  by_cases hi:i + 1 < (es.length:Int)
  ·have hp:pIAx (lIA f ms res rS0 g es (lrOA .busy) (qX es i) (qY es i) (qX es (i + 1)) (qY es (i + 1)) false ms (lrIA .ready) 0) = true:=by
    simp only [pIAx,same_self,Bool.and_true,Bool.and_eq_true,decide_eq_true_eq]
    first | exact ⟨⟨by omega,by omega⟩,h4⟩ | exact ⟨⟨⟨by omega,by omega⟩,h4⟩,trivial,same_self _⟩
   rw [decide_eq_true hi,cond_true,inr_of h1 (by omega),inr_of (by omega) hi,hp,show ((ms.length:Int) - (0 + 1)).toNat = ms.length - 1 by omega]
   obtain ⟨m,hm⟩:∃ m,((es.length:Int) - (i + 1)).toNat = m + 1:=⟨((es.length:Int) - (i + 1)).toNat - 1,by omega⟩
   rw [hm] at hr'
   replace hr':r = bif crS (qX es i) (qY es i) (qX es (i + 1)) (qY es (i + 1)) ms [] 0 (ms.length - 1) || crO es ms [] (i + 1) m then _ else _:=hr'
   simp only [cond_true]
   cases hR:crS (qX es i) (qY es i) (qX es (i + 1)) (qY es (i + 1)) ms [] 0 (ms.length - 1) with
   | true => rw [hR] at hr'; exact .inl (by rw [cond_true,hr']; rfl)
   | false =>
    rw [hR] at hr'
    refine .inr ⟨lOA f ms res rS0 g es (lrOA .ready) (i + 1),by rw [cond_false],?_,by simp only [mOAx]; omega,?_⟩
    ·simp only [pOAx,same_self,Bool.and_true,Bool.and_eq_true,decide_eq_true_eq]
     first | exact ⟨⟨⟨by omega,by omega⟩,h3⟩,h4⟩ | exact ⟨⟨⟨⟨by omega,by omega⟩,h3⟩,h4⟩,trivial,same_self _⟩
    ·rw [hr']
     simp only [fOAx]
     rw [show ((es.length:Int) - (i + 1 + 1)).toNat = m by omega]
     show (DT.br (crO es ms [] (i + 1) m) _ _).run = _
     cases crO es ms [] (i + 1) m <;> rfl
  ·rw [decide_eq_false hi]
   rw [show ((es.length:Int) - (i + 1)).toNat = 0 by omega] at hr'
   exact .inl (by rw [hr']; rfl)
 ·cases hp
theorem qOB (f:Bool) (ms:List PV) (res:Bool) (np:Bool) (P:List PV) (g:Bool) (es:List PV) (i:Int):runB Tryz.prog E71d 60 128 (lpb Tryz.f128 1) [0,1,3] [] (shOB.put (lOB f ms res rS0 np P g es (lrOB .ready) i)).1 (shOB.put (lOB f ms res rS0 np P g es (lrOB .ready) i)).2 =
 bif decide (W (i + 1) < (es.length:Int)) then bif inr es i then bif inr es (W (i + 1)) then
  bif pIBx (lIB f ms res rS0 np P g es (lrOB .busy) (qX es i) (qY es i) (qX es (W (i + 1))) (qY es (W (i + 1))) false ms (lrIB .ready) 0) then bif crS (qX es i) (qY es i) (qX es (W (i + 1))) (qY es (W (i + 1))) ms [] 0 ((ms.length:Int) - (0 + 1)).toNat then some (.ret,tm 25 [],(shOB.put (lOB f ms true rS0 np P g es (lrOB (.done .ret)) 0)).2) else some (.normal,shOB.put (lOB f ms res rS0 np P g es (lrOB .ready) (W (i + 1)))) else none
 else none else none else some (.exit 0,tm 25 [],(shOB.put (lOB f ms res rS0 np P g es (lrOB .ready) 0)).2):=by kernel_rfl
noncomputable def pOBx:LS -> Bool
 | ([.i i],[.l _ ms,.b _,.r re,.l _ _,.l _ es,.r rO]) => decide (0 <= i) && decide (i <= (es.length:Int)) && big es && big ms && same rO (lrOB .ready) && same re rS0
 | _ => false
noncomputable def fOBx:LS -> DT (PX × List PV × List Row)
 | ([.i i],[.l f ms,.b res,.r re,.l np P,.l g es,.r rO]) => .br (crO es ms [] i ((es.length:Int) - (i + 1)).toNat)
   (.leaf (.ret,tm 25 [],(shOB.put (lOB f ms true re np P g es (lrOB (.done .ret)) 0)).2)) (.leaf (.exit 0,tm 25 [],(shOB.put (lOB f ms res re np P g es rO 0)).2))
 | _ => .no
def mOBx:LS -> Nat
 | ([.i i],[.l _ _,.b _,.r _,.l _ _,.l _ es,.r _]) => ((es.length:Int) - (i + 1)).toNat
 | _ => 0
theorem sOBx:∀ s r,pOBx s = true -> (fOBx s).run = some r -> r.1 ≠ .normal /\ (runB Tryz.prog E71d 60 128 (lpb Tryz.f128 1) [0,1,3] [] (shOB.put s).1 (shOB.put s).2 = some r \/
   ∃ s',runB Tryz.prog E71d 60 128 (lpb Tryz.f128 1) [0,1,3] [] (shOB.put s).1 (shOB.put s).2 = some (.normal,shOB.put s') /\ pOBx s' = true /\ mOBx s' < mOBx s /\ (fOBx s').run = some r):=by
 intro s r hp hr
 unfold pOBx at hp; split at hp
 ·rename_i i f ms res re np P g es rO
  simp only [Bool.and_eq_true,decide_eq_true_eq,same_iff] at hp
  obtain ⟨⟨⟨⟨⟨h1,h2⟩,h3⟩,h4⟩,rfl⟩,rfl⟩:=hp
  have hr':=run_br2 hr
  refine ⟨by rw [hr']; generalize crO es ms _ i _ = q; cases q <;> simp,?_⟩
  rw [qOB]
  have hw:=W_id (n:=i + 1) (by omega) (by omega)
  rw [hw]
  by_cases hi:i + 1 < (es.length:Int)
  ·have hp:pIBx (lIB f ms res rS0 np P g es (lrOB .busy) (qX es i) (qY es i) (qX es (i + 1)) (qY es (i + 1)) false ms (lrIB .ready) 0) = true:=by
    simp only [pIBx,same_self,Bool.and_true,Bool.and_eq_true,decide_eq_true_eq]
    first | exact ⟨⟨by omega,by omega⟩,h4⟩ | exact ⟨⟨⟨by omega,by omega⟩,h4⟩,trivial,same_self _⟩
   rw [decide_eq_true hi,cond_true,inr_of h1 (by omega),inr_of (by omega) hi,hp,show ((ms.length:Int) - (0 + 1)).toNat = ms.length - 1 by omega]
   obtain ⟨m,hm⟩:∃ m,((es.length:Int) - (i + 1)).toNat = m + 1:=⟨((es.length:Int) - (i + 1)).toNat - 1,by omega⟩
   rw [hm] at hr'
   replace hr':r = bif crS (qX es i) (qY es i) (qX es (i + 1)) (qY es (i + 1)) ms [] 0 (ms.length - 1) || crO es ms [] (i + 1) m then _ else _:=hr'
   simp only [cond_true]
   cases hR:crS (qX es i) (qY es i) (qX es (i + 1)) (qY es (i + 1)) ms [] 0 (ms.length - 1) with
   | true => rw [hR] at hr'; exact .inl (by rw [cond_true,hr']; rfl)
   | false =>
    rw [hR] at hr'
    refine .inr ⟨lOB f ms res rS0 np P g es (lrOB .ready) (i + 1),by rw [cond_false],?_,by simp only [mOBx]; omega,?_⟩
    ·simp only [pOBx,same_self,Bool.and_true,Bool.and_eq_true,decide_eq_true_eq]
     first | exact ⟨⟨⟨by omega,by omega⟩,h3⟩,h4⟩ | exact ⟨⟨⟨⟨by omega,by omega⟩,h3⟩,h4⟩,trivial,same_self _⟩
    ·rw [hr']
     simp only [fOBx]
     rw [show ((es.length:Int) - (i + 1 + 1)).toNat = m by omega]
     show (DT.br (crO es ms [] (i + 1) m) _ _).run = _
     cases crO es ms [] (i + 1) m <;> rfl
  ·rw [decide_eq_false hi]
   rw [show ((es.length:Int) - (i + 1)).toNat = 0 by omega] at hr'
   exact .inl (by rw [hr']; rfl)
 ·cases hp
theorem qOC (f:Bool) (ms:List PV) (res:Bool) (np:Bool) (P:List PV) (tx ty:Int) (nb:Bool) (B:List PV) (x y:Int) (g:Bool) (es:List PV) (i:Int):runB Tryz.prog E71d 60 128 (lpb Tryz.f128 1) [0,1,3] [] (shOC.put (lOC f ms res (rS 1) np P tx ty nb B (rE [ptv x y]) g es (lrOC .ready) i)).1 (shOC.put (lOC f ms res (rS 1) np P tx ty nb B (rE [ptv x y]) g es (lrOC .ready) i)).2 =
 bif decide (W (i + 1) < (es.length:Int)) then bif inr es i then bif inr es (W (i + 1)) then
  bif pICx (lIC f ms res (rS 1) np P tx ty nb B (rE [ptv x y]) g es (lrOC .busy) (qX es i) (qY es i) (qX es (W (i + 1))) (qY es (W (i + 1))) false ms (lrIC .ready) 0) then bif crS (qX es i) (qY es i) (qX es (W (i + 1))) (qY es (W (i + 1))) ms [(x,y)] 0 ((ms.length:Int) - (0 + 1)).toNat then some (.ret,tm 25 [],(shOC.put (lOC f ms true (rS 1) np P tx ty nb B (rE [ptv x y]) g es (lrOC (.done .ret)) 0)).2) else some (.normal,shOC.put (lOC f ms res (rS 1) np P tx ty nb B (rE [ptv x y]) g es (lrOC .ready) (W (i + 1)))) else none
 else none else none else some (.exit 0,tm 25 [],(shOC.put (lOC f ms res (rS 1) np P tx ty nb B (rE [ptv x y]) g es (lrOC .ready) 0)).2):=by kernel_rfl
noncomputable def pOCx:LS -> Bool
 | ([.i i],[.l _ ms,.b _,.r re,.l _ _,.i _,.i _,.l _ _,.r rr,.l _ es,.r rO]) => decide (0 <= i) && decide (i <= (es.length:Int)) && big es && big ms && same rO (lrOC .ready) && (same re (rS 1) && same rr (rE [ptv (rwX rr 0) (rwY rr 0)]))
 | _ => false
noncomputable def fOCx:LS -> DT (PX × List PV × List Row)
 | ([.i i],[.l f ms,.b res,.r re,.l np P,.i tx,.i ty,.l nb B,.r rr,.l g es,.r rO]) => .br (crO es ms [(rwX rr 0,rwY rr 0)] i ((es.length:Int) - (i + 1)).toNat)
   (.leaf (.ret,tm 25 [],(shOC.put (lOC f ms true re np P tx ty nb B rr g es (lrOC (.done .ret)) 0)).2)) (.leaf (.exit 0,tm 25 [],(shOC.put (lOC f ms res re np P tx ty nb B rr g es rO 0)).2))
 | _ => .no
def mOCx:LS -> Nat
 | ([.i i],[.l _ _,.b _,.r _,.l _ _,.i _,.i _,.l _ _,.r _,.l _ es,.r _]) => ((es.length:Int) - (i + 1)).toNat
 | _ => 0
theorem sOCx:∀ s r,pOCx s = true -> (fOCx s).run = some r -> r.1 ≠ .normal /\ (runB Tryz.prog E71d 60 128 (lpb Tryz.f128 1) [0,1,3] [] (shOC.put s).1 (shOC.put s).2 = some r \/
   ∃ s',runB Tryz.prog E71d 60 128 (lpb Tryz.f128 1) [0,1,3] [] (shOC.put s).1 (shOC.put s).2 = some (.normal,shOC.put s') /\ pOCx s' = true /\ mOCx s' < mOCx s /\ (fOCx s').run = some r):=by
 intro s r hp hr
 unfold pOCx at hp; split at hp
 ·rename_i i f ms res re np P tx ty nb B rr g es rO
  simp only [Bool.and_eq_true,decide_eq_true_eq,same_iff] at hp
  obtain ⟨⟨⟨⟨⟨h1,h2⟩,h3⟩,h4⟩,rfl⟩,rfl,hrr⟩:=hp
  obtain ⟨x,y,rfl⟩:∃ x y,rr = rE [ptv x y]:=⟨_,_,hrr⟩
  have hr':=run_br2 hr
  refine ⟨by rw [hr']; generalize crO es ms _ i _ = q; cases q <;> simp,?_⟩
  rw [qOC]
  have hw:=W_id (n:=i + 1) (by omega) (by omega)
  rw [hw]
  by_cases hi:i + 1 < (es.length:Int)
  ·have hp:pICx (lIC f ms res (rS 1) np P tx ty nb B (rE [ptv x y]) g es (lrOC .busy) (qX es i) (qY es i) (qX es (i + 1)) (qY es (i + 1)) false ms (lrIC .ready) 0) = true:=by
    simp only [pICx,same_self,Bool.and_true,Bool.and_eq_true,decide_eq_true_eq]
    first | exact ⟨⟨by omega,by omega⟩,h4⟩ | exact ⟨⟨⟨by omega,by omega⟩,h4⟩,trivial,same_self _⟩
   rw [decide_eq_true hi,cond_true,inr_of h1 (by omega),inr_of (by omega) hi,hp,show ((ms.length:Int) - (0 + 1)).toNat = ms.length - 1 by omega]
   obtain ⟨m,hm⟩:∃ m,((es.length:Int) - (i + 1)).toNat = m + 1:=⟨((es.length:Int) - (i + 1)).toNat - 1,by omega⟩
   rw [hm] at hr'
   replace hr':r = bif crS (qX es i) (qY es i) (qX es (i + 1)) (qY es (i + 1)) ms [(x,y)] 0 (ms.length - 1) || crO es ms [(x,y)] (i + 1) m then _ else _:=hr'
   simp only [cond_true]
   cases hR:crS (qX es i) (qY es i) (qX es (i + 1)) (qY es (i + 1)) ms [(x,y)] 0 (ms.length - 1) with
   | true => rw [hR] at hr'; exact .inl (by rw [cond_true,hr']; rfl)
   | false =>
    rw [hR] at hr'
    refine .inr ⟨lOC f ms res (rS 1) np P tx ty nb B (rE [ptv x y]) g es (lrOC .ready) (i + 1),by rw [cond_false],?_,by simp only [mOCx]; omega,?_⟩
    ·simp only [pOCx,same_self,Bool.and_true,Bool.and_eq_true,decide_eq_true_eq]
     first | exact ⟨⟨⟨by omega,by omega⟩,h3⟩,h4⟩ | exact ⟨⟨⟨⟨by omega,by omega⟩,h3⟩,h4⟩,trivial,same_self _⟩
    ·rw [hr']
     simp only [fOCx]
     rw [show ((es.length:Int) - (i + 1 + 1)).toNat = m by omega]
     show (DT.br (crO es ms [(x,y)] (i + 1) m) _ _).run = _
     cases crO es ms [(x,y)] (i + 1) m <;> rfl
  ·rw [decide_eq_false hi]
   rw [show ((es.length:Int) - (i + 1)).toNat = 0 by omega] at hr'
   exact .inl (by rw [hr']; rfl)
 ·cases hp
theorem qOD (f:Bool) (ms:List PV) (res:Bool) (np:Bool) (P:List PV) (tx ty:Int) (nb:Bool) (B:List PV) (x y z w:Int) (g:Bool) (es:List PV) (i:Int):runB Tryz.prog E71d 60 128 (lpb Tryz.f128 1) [0,1,3] [] (shOC.put (lOC f ms res (rS 2) np P tx ty nb B (rE [ptv x y,ptv z w]) g es (lrOC .ready) i)).1 (shOC.put (lOC f ms res (rS 2) np P tx ty nb B (rE [ptv x y,ptv z w]) g es (lrOC .ready) i)).2 =
 bif decide (W (i + 1) < (es.length:Int)) then bif inr es i then bif inr es (W (i + 1)) then
  bif pIDx (lIC f ms res (rS 2) np P tx ty nb B (rE [ptv x y,ptv z w]) g es (lrOC .busy) (qX es i) (qY es i) (qX es (W (i + 1))) (qY es (W (i + 1))) false ms (lrIC .ready) 0) then bif crS (qX es i) (qY es i) (qX es (W (i + 1))) (qY es (W (i + 1))) ms [(x,y),(z,w)] 0 ((ms.length:Int) - (0 + 1)).toNat then some (.ret,tm 25 [],(shOC.put (lOC f ms true (rS 2) np P tx ty nb B (rE [ptv x y,ptv z w]) g es (lrOC (.done .ret)) 0)).2) else some (.normal,shOC.put (lOC f ms res (rS 2) np P tx ty nb B (rE [ptv x y,ptv z w]) g es (lrOC .ready) (W (i + 1)))) else none
 else none else none else some (.exit 0,tm 25 [],(shOC.put (lOC f ms res (rS 2) np P tx ty nb B (rE [ptv x y,ptv z w]) g es (lrOC .ready) 0)).2):=by kernel_rfl
noncomputable def pODx:LS -> Bool
 | ([.i i],[.l _ ms,.b _,.r re,.l _ _,.i _,.i _,.l _ _,.r rr,.l _ es,.r rO]) => decide (0 <= i) && decide (i <= (es.length:Int)) && big es && big ms && same rO (lrOC .ready) && (same re (rS 2) && same rr (rE [ptv (rwX rr 0) (rwY rr 0),ptv (rwX rr 1) (rwY rr 1)]))
 | _ => false
noncomputable def fODx:LS -> DT (PX × List PV × List Row)
 | ([.i i],[.l f ms,.b res,.r re,.l np P,.i tx,.i ty,.l nb B,.r rr,.l g es,.r rO]) => .br (crO es ms [(rwX rr 0,rwY rr 0),(rwX rr 1,rwY rr 1)] i ((es.length:Int) - (i + 1)).toNat)
   (.leaf (.ret,tm 25 [],(shOC.put (lOC f ms true re np P tx ty nb B rr g es (lrOC (.done .ret)) 0)).2)) (.leaf (.exit 0,tm 25 [],(shOC.put (lOC f ms res re np P tx ty nb B rr g es rO 0)).2))
 | _ => .no
def mODx:LS -> Nat
 | ([.i i],[.l _ _,.b _,.r _,.l _ _,.i _,.i _,.l _ _,.r _,.l _ es,.r _]) => ((es.length:Int) - (i + 1)).toNat
 | _ => 0
theorem sODx:∀ s r,pODx s = true -> (fODx s).run = some r -> r.1 ≠ .normal /\ (runB Tryz.prog E71d 60 128 (lpb Tryz.f128 1) [0,1,3] [] (shOC.put s).1 (shOC.put s).2 = some r \/
   ∃ s',runB Tryz.prog E71d 60 128 (lpb Tryz.f128 1) [0,1,3] [] (shOC.put s).1 (shOC.put s).2 = some (.normal,shOC.put s') /\ pODx s' = true /\ mODx s' < mODx s /\ (fODx s').run = some r):=by
 intro s r hp hr
 unfold pODx at hp; split at hp
 ·rename_i i f ms res re np P tx ty nb B rr g es rO
  simp only [Bool.and_eq_true,decide_eq_true_eq,same_iff] at hp
  obtain ⟨⟨⟨⟨⟨h1,h2⟩,h3⟩,h4⟩,rfl⟩,rfl,hrr⟩:=hp
  obtain ⟨x,y,z,w,rfl⟩:∃ x y z w,rr = rE [ptv x y,ptv z w]:=⟨_,_,_,_,hrr⟩
  have hr':=run_br2 hr
  refine ⟨by rw [hr']; generalize crO es ms _ i _ = q; cases q <;> simp,?_⟩
  rw [qOD]
  have hw:=W_id (n:=i + 1) (by omega) (by omega)
  rw [hw]
  by_cases hi:i + 1 < (es.length:Int)
  ·have hp:pIDx (lIC f ms res (rS 2) np P tx ty nb B (rE [ptv x y,ptv z w]) g es (lrOC .busy) (qX es i) (qY es i) (qX es (i + 1)) (qY es (i + 1)) false ms (lrIC .ready) 0) = true:=by
    simp only [pIDx,same_self,Bool.and_true,Bool.and_eq_true,decide_eq_true_eq]
    first | exact ⟨⟨by omega,by omega⟩,h4⟩ | exact ⟨⟨⟨by omega,by omega⟩,h4⟩,trivial,same_self _⟩
   rw [decide_eq_true hi,cond_true,inr_of h1 (by omega),inr_of (by omega) hi,hp,show ((ms.length:Int) - (0 + 1)).toNat = ms.length - 1 by omega]
   obtain ⟨m,hm⟩:∃ m,((es.length:Int) - (i + 1)).toNat = m + 1:=⟨((es.length:Int) - (i + 1)).toNat - 1,by omega⟩
   rw [hm] at hr'
   replace hr':r = bif crS (qX es i) (qY es i) (qX es (i + 1)) (qY es (i + 1)) ms [(x,y),(z,w)] 0 (ms.length - 1) || crO es ms [(x,y),(z,w)] (i + 1) m then _ else _:=hr'
   simp only [cond_true]
   cases hR:crS (qX es i) (qY es i) (qX es (i + 1)) (qY es (i + 1)) ms [(x,y),(z,w)] 0 (ms.length - 1) with
   | true => rw [hR] at hr'; exact .inl (by rw [cond_true,hr']; rfl)
   | false =>
    rw [hR] at hr'
    refine .inr ⟨lOC f ms res (rS 2) np P tx ty nb B (rE [ptv x y,ptv z w]) g es (lrOC .ready) (i + 1),by rw [cond_false],?_,by simp only [mODx]; omega,?_⟩
    ·simp only [pODx,same_self,Bool.and_true,Bool.and_eq_true,decide_eq_true_eq]
     first | exact ⟨⟨⟨by omega,by omega⟩,h3⟩,h4⟩ | exact ⟨⟨⟨⟨by omega,by omega⟩,h3⟩,h4⟩,trivial,same_self _⟩
    ·rw [hr']
     simp only [fODx]
     rw [show ((es.length:Int) - (i + 1 + 1)).toNat = m by omega]
     show (DT.br (crO es ms [(x,y),(z,w)] (i + 1) m) _ _).run = _
     cases crO es ms [(x,y),(z,w)] (i + 1) m <;> rfl
  ·rw [decide_eq_false hi]
   rw [show ((es.length:Int) - (i + 1)).toNat = 0 by omega] at hr'
   exact .inl (by rw [hr']; rfl)
 ·cases hp
noncomputable def E72a:EnvK:=E71.addL2 128 1 [0,1,3] (byModel [] shOA.get pOAx fOAx)
theorem ok72a:EnvOK Tryz.prog E72a.env:=
 ok71.addL2 Tryz.func128 (show Tryz.f128.body = some (bod Tryz.f128) by kernel_rfl) (show (loops (bod Tryz.f128)).filter (fun b => rid b == 1) = [lpb Tryz.f128 1] by kernel_rfl) fun hs ro S H d x S' H' => loopW ok71d [0,1,3] [] shOA.put S1.get_put mOAx sOAx hs ro S H d x S' H'
noncomputable def E72b:EnvK:=E72a.addL2 128 1 [0,1,3] (byModel [] shOB.get pOBx fOBx)
theorem ok72b:EnvOK Tryz.prog E72b.env:=
 ok72a.addL2 Tryz.func128 (show Tryz.f128.body = some (bod Tryz.f128) by kernel_rfl) (show (loops (bod Tryz.f128)).filter (fun b => rid b == 1) = [lpb Tryz.f128 1] by kernel_rfl) fun hs ro S H d x S' H' => loopW ok71d [0,1,3] [] shOB.put S1.get_put mOBx sOBx hs ro S H d x S' H'
noncomputable def E72c:EnvK:=E72b.addL2 128 1 [0,1,3] (byModel [] (selN 1 shOC.get) pOCx fOCx)
theorem ok72c:EnvOK Tryz.prog E72c.env:=
 ok72b.addL2 Tryz.func128 (show Tryz.f128.body = some (bod Tryz.f128) by kernel_rfl) (show (loops (bod Tryz.f128)).filter (fun b => rid b == 1) = [lpb Tryz.f128 1] by kernel_rfl) fun hs ro S H d x S' H' => loopW ok71d [0,1,3] [] shOC.put (selN_get S1.get_put) mOCx sOCx hs ro S H d x S' H'
noncomputable def E72d:EnvK:=E72c.addL2 128 1 [0,1,3] (byModel [] (selN 2 shOC.get) pODx fODx)
theorem ok72d:EnvOK Tryz.prog E72d.env:=
 ok72c.addL2 Tryz.func128 (show Tryz.f128.body = some (bod Tryz.f128) by kernel_rfl) (show (loops (bod Tryz.f128)).filter (fun b => rid b == 1) = [lpb Tryz.f128 1] by kernel_rfl) fun hs ro S H d x S' H' => loopW ok71d [0,1,3] [] shOC.put (selN_get S1.get_put) mODx sODx hs ro S H d x S' H'
end Go.Hg
/- Geometry: line.Cross: what it comes to. -/
namespace Go.Hg
open Go.Hx Go.Proofs
def F5:Option PV:=some (bv false)
def yn (b:Bool):Option PV:=bif b then some (bv true) else some (bv false)
abbrev nE (es:List PV):Nat:=((es.length:Int) - (0 + 1)).toNat
noncomputable def oA (f:Bool) (es:List PV) (g:Bool) (ms:List PV):Option PV:=bif pOAx (lOA g ms false rS0 f es (lrOA .ready) 0) then yn (crO es ms [] 0 (nE es)) else none
noncomputable def oB (f:Bool) (es:List PV) (g:Bool) (ms:List PV) (l:Int):Option PV:=bif pOBx (lOB g ms false rS0 false [qp es 0,qp es l] f es (lrOB .ready) 0) then yn (crO es ms [] 0 (nE es)) else none
noncomputable def oC (f:Bool) (es:List PV) (g:Bool) (ms:List PV) (l z:Int):Option PV:=
 bif pOCx (lOC g ms false (rS 1) false [qp es 0,qp es l] (qX es z) (qY es z) false [qp es z] (rE [qp es z]) f es (lrOC .ready) 0) then yn (crO es ms [(qX es z,qY es z)] 0 (nE es)) else none
noncomputable def oD (f:Bool) (es:List PV) (g:Bool) (ms:List PV) (l:Int):Option PV:=
 bif pODx (lOC g ms false (rS 2) false [qp es 0,qp es l] (qX es 0) (qY es 0) false [qp es 0] (rE [qp es 0,qp es l]) f es (lrOC .ready) 0) then yn (crO es ms [(qX es 0,qY es 0),(qX es l,qY es l)] 0 (nE es)) else none
def mtc (es ms:List PV) (z:Int) (yes no:Option PV):Option PV:=
 bif decide (0 < (ms.length:Int)) then bif eq2 es ms z 0 then yes else bif inr ms (W ((ms.length:Int) - 1)) then bif eq2 es ms z (W ((ms.length:Int) - 1)) then yes else no else none else none
theorem qCross (f:Bool) (es:List PV) (g:Bool) (ms:List PV):runP Tryz.prog E72d 100 55 [.lst f 37 es,.lst g 37 ms] =
 bif big es then bif !fin es then F5 else bif big ms then bif !fin ms then F5 else
  bif decide ((es.length:Int) > 0) then bif decide ((ms.length:Int) > 0) then
   bif decide (0 < (es.length:Int)) then bif inr es (W ((es.length:Int) - 1)) then
    mtc es ms 0 (mtc es ms (W ((es.length:Int) - 1)) (oD f es g ms (W ((es.length:Int) - 1))) (oC f es g ms (W ((es.length:Int) - 1)) 0))
     (mtc es ms (W ((es.length:Int) - 1)) (oC f es g ms (W ((es.length:Int) - 1)) (W ((es.length:Int) - 1))) (oB f es g ms (W ((es.length:Int) - 1))))
   else none else none
  else oA f es g ms else oA f es g ms else none else none:=by kernel_rfl
end Go.Hg
/- Geometry: plain laws: whole points that two segments have in common. -/
namespace Go.Hg
open Go.Hx Go.Proofs
theorem par {a b c d u v:Int} (h1:a * v = b * u) (h2:c * v = d * u) (hw:u ≠ 0 \/ v ≠ 0):a * d = b * c:=by
 rcases hw with hw | hw
 ·have:u * (a * d) = u * (b * c):=by grind
  exact Int.eq_of_mul_eq_mul_left hw this
 ·have:v * (a * d) = v * (b * c):=by grind
  exact Int.eq_of_mul_eq_mul_left hw this
theorem mt_range (a b c d e f g h:Int):0 <= mt a b c d e f g h /\ mt a b c d e f g h <= 2:=by
 unfold mt
 cases bdd a b && bdd c d && bdd e f && bdd g h
 ·exact ⟨by simp,by simp⟩
 ·simp only [cond_true]
  cases (sd a b c d e f == 0) && (sd a b c d g h == 0) && (sd e f g h a b == 0) && (sd e f g h c d == 0)
  ·show 0 <= nfl _ _ _ _ /\ nfl _ _ _ _ <= 2
   unfold nfl
   cases decide (sd a b c d e f * sd a b c d g h > 0) || decide (sd e f g h a b * sd e f g h c d > 0) <;> decide
  ·show 0 <= fl _ _ _ _ _ _ _ _ /\ fl _ _ _ _ _ _ _ _ <= 2
   unfold fl
   have:=cmp2_range (ifI (lessP (ifI (lessP g h e f) e g) (ifI (lessP g h e f) f h) (ifI (lessP c d a b) a c) (ifI (lessP c d a b) b d)) (ifI (lessP g h e f) e g) (ifI (lessP c d a b) a c))
    (ifI (lessP (ifI (lessP g h e f) e g) (ifI (lessP g h e f) f h) (ifI (lessP c d a b) a c) (ifI (lessP c d a b) b d)) (ifI (lessP g h e f) f h) (ifI (lessP c d a b) b d))
    (ifI (lessP (ifI (lessP c d a b) c a) (ifI (lessP c d a b) d b) (ifI (lessP g h e f) g e) (ifI (lessP g h e f) h f)) (ifI (lessP g h e f) g e) (ifI (lessP c d a b) c a))
    (ifI (lessP (ifI (lessP c d a b) c a) (ifI (lessP c d a b) d b) (ifI (lessP g h e f) g e) (ifI (lessP g h e f) h f)) (ifI (lessP g h e f) h f) (ifI (lessP c d a b) d b))
   dsimp only
   omega
end Go.Hg
/- Geometry: contracts: Cross, both; what it comes to. -/
namespace Go.Hg
open Go.Hx Go.Proofs
theorem xS_eq {es ms:List PV} {E:List (Int × Int)} {i k:Int} (h:cnt (qX es i) (qY es i) (qX es (i + 1)) (qY es (i + 1)) ms k (k + 1) E = endB es ms i k):xS (qX es i) (qY es i) (qX es (i + 1)) (qY es (i + 1)) ms E k = xAt es ms i k:=by
 unfold xS xAt
 rw [h]
 have e:mtS (qX es i) (qY es i) (qX es (i + 1)) (qY es (i + 1)) ms k (k + 1) = mt4 es i (i + 1) ms k (k + 1):=rfl
 rw [e]
 have r:=mt_range (qX es i) (qY es i) (qX es (i + 1)) (qY es (i + 1)) (qX ms k) (qY ms k) (qX ms (k + 1)) (qY ms (k + 1))
 congr 1
 rw [Bool.eq_iff_iff,decide_eq_true_eq,beq_iff_eq]
 unfold mt4
 omega
theorem crS_eq {es ms:List PV} {E:List (Int × Int)} {i:Int} (h:∀ k,0 <= k -> k + 1 < (ms.length:Int) -> cnt (qX es i) (qY es i) (qX es (i + 1)) (qY es (i + 1)) ms k (k + 1) E = endB es ms i k):
  ∀ (n:Nat) (k:Int),0 <= k -> k + n + 1 <= (ms.length:Int) \/ n = 0 -> crS (qX es i) (qY es i) (qX es (i + 1)) (qY es (i + 1)) ms E k n = crK es ms i k n
 | 0,k,_,_ => rfl
 | n + 1,k,h0,h1 => by
  simp only [crS,crK]
  rw [xS_eq (h k h0 (by omega)),crS_eq h n (k + 1) (by omega) (by omega)]
theorem crO_eq {es ms:List PV} {E:List (Int × Int)} (h:∀ i k,0 <= i -> i + 1 < (es.length:Int) -> 0 <= k -> k + 1 < (ms.length:Int) -> cnt (qX es i) (qY es i) (qX es (i + 1)) (qY es (i + 1)) ms k (k + 1) E = endB es ms i k):
  ∀ (n:Nat) (i:Int),0 <= i -> i + n + 1 <= (es.length:Int) \/ n = 0 -> crO es ms E i n = crI es ms i n
 | 0,i,_,_ => rfl
 | n + 1,i,h0,h1 => by
  simp only [crO,crI]
  rw [crS_eq (fun k g0 g1 => h i k h0 (by omega) g0 g1) (ms.length - 1) 0 (by omega) (by omega),crO_eq h n (i + 1) (by omega) (by omega)]
theorem yn_eq (b:Bool):yn b = some (bv b):=by cases b <;> rfl
theorem cross_eq (f:Bool) (es:List PV) (g:Bool) (ms:List PV) (h:(big es && big ms) = true):runP Tryz.prog E72d 100 55 [.lst f 37 es,.lst g 37 ms] = some (bv (crx es ms)):=by
 rw [Bool.and_eq_true] at h
 have h':=h
 simp only [decide_eq_true_eq] at h'
 rw [qCross,h.1,h.2]
 unfold crx
 cases hfe:fin es with
 | false => rfl
 | true =>
 cases hfm:fin ms with
 | false => rfl
 | true =>
 simp only [cond_true,cond_false,Bool.not_true,Bool.and_self,Bool.true_and]
 have hn:nE es = es.length - 1:=by unfold nE; omega
 have hpA:pOAx (lOA g ms false rS0 f es (lrOA .ready) 0) = true:=by simp [pOAx,same_self]; omega
 have final:∀ E:List (Int × Int),(∀ i k,0 <= i -> i + 1 < (es.length:Int) -> 0 <= k -> k + 1 < (ms.length:Int) -> cnt (qX es i) (qY es i) (qX es (i + 1)) (qY es (i + 1)) ms k (k + 1) E = endB es ms i k) -> yn (crO es ms E 0 (nE es)) = some (bv (crI es ms 0 (es.length - 1))):=fun E hE => by
  rw [yn_eq,hn,crO_eq hE (es.length - 1) 0 (by omega) (by omega)]
 by_cases he:(es.length:Int) > 0
 ·by_cases hm:(ms.length:Int) > 0
  ·rw [decide_eq_true he,decide_eq_true hm,W_id (n:=(es.length:Int) - 1) (by omega) (by omega),inr_of (es:=es) (i:=(es.length:Int) - 1) (by omega) (by omega)]
   simp only [cond_true]
   have mt_eq:∀ (z:Int) (y n:Option PV),mtc es ms z y n = bif (eq2 es ms z 0 || eq2 es ms z ((ms.length:Int) - 1)) then y else n:=fun z y n => by
    unfold mtc
    rw [W_id (n:=(ms.length:Int) - 1) (by omega) (by omega),decide_eq_true (show 0 < (ms.length:Int) from hm),inr_of (es:=ms) (by omega) (by omega)]
    cases eq2 es ms z 0 <;> cases eq2 es ms z ((ms.length:Int) - 1) <;> rfl
   rw [mt_eq,mt_eq,mt_eq]
   have hB:oB f es g ms ((es.length:Int) - 1) = yn (crO es ms [] 0 (nE es)):=by
    unfold oB; rw [show pOBx (lOB g ms false rS0 false [qp es 0,qp es ((es.length:Int) - 1)] f es (lrOB .ready) 0) = true by simp [pOBx,same_self]; omega]; rfl
   have hCC:∀ z,oC f es g ms ((es.length:Int) - 1) z = yn (crO es ms [(qX es z,qY es z)] 0 (nE es)):=fun z => by
    have hs:same (rE [qp es z]) (rE [ptv (rwX (rE [qp es z]) 0) (rwY (rE [qp es z]) 0)]) = true:=same_self _
    unfold oC; rw [show pOCx (lOC g ms false (rS 1) false [qp es 0,qp es ((es.length:Int) - 1)] (qX es z) (qY es z) false [qp es z] (rE [qp es z]) f es (lrOC .ready) 0) = true by
     simp only [pOCx,same_self,hs,Bool.and_true,Bool.and_eq_true,decide_eq_true_eq]; omega]; rfl
   have hDD:oD f es g ms ((es.length:Int) - 1) = yn (crO es ms [(qX es 0,qY es 0),(qX es ((es.length:Int) - 1),qY es ((es.length:Int) - 1))] 0 (nE es)):=by
    have hs:same (rE [qp es 0,qp es ((es.length:Int) - 1)]) (rE [ptv (rwX (rE [qp es 0,qp es ((es.length:Int) - 1)]) 0) (rwY (rE [qp es 0,qp es ((es.length:Int) - 1)]) 0),ptv (rwX (rE [qp es 0,qp es ((es.length:Int) - 1)]) 1) (rwY (rE [qp es 0,qp es ((es.length:Int) - 1)]) 1)]) = true:=same_self _
    unfold oD; rw [show pODx (lOC g ms false (rS 2) false [qp es 0,qp es ((es.length:Int) - 1)] (qX es 0) (qY es 0) false [qp es 0] (rE [qp es 0,qp es ((es.length:Int) - 1)]) f es (lrOC .ready) 0) = true by
     simp only [pODx,same_self,hs,Bool.and_true,Bool.and_eq_true,decide_eq_true_eq]; omega]; rfl
   rw [hB,hCC,hCC,hDD]
   have ce:∀ (i k z:Int) ,(onP (qX es i) (qY es i) (qX es (i + 1)) (qY es (i + 1)) (qX es z) (qY es z) && onQ ms k (k + 1) (qX es z) (qY es z)) = (on4 es i (i + 1) es z && on4 ms k (k + 1) es z):=fun i k z => rfl
   cases m0:(eq2 es ms 0 0 || eq2 es ms 0 ((ms.length:Int) - 1)) <;> cases m1:(eq2 es ms ((es.length:Int) - 1) 0 || eq2 es ms ((es.length:Int) - 1) ((ms.length:Int) - 1)) <;> simp only [cond_true,cond_false] <;>
    refine final _ (fun i k _ _ _ _ => ?_) <;> unfold cnt endB endP <;> rw [m0,m1] <;> simp [ce]
  ·rw [decide_eq_true he,decide_eq_false hm]
   simp only [cond_true,cond_false]
   unfold oA
   rw [hpA]
   exact final [] (fun i k _ _ _ _ => by omega)
 ·rw [decide_eq_false he]
  simp only [cond_false]
  unfold oA
  rw [hpA]
  exact final [] (fun i k _ _ _ _ => by omega)
theorem eCrx:Hx.Enters Tryz.prog 55:=(runP_sound ok72d (cross_eq true [] true [] rfl)).1
theorem oCrx (args:List PV) (d:DT PV) (r:PV) (h:cCrx args = some d) (hr:d.run = some r):PCall Tryz.prog 55 args r:=by
 unfold cCrx at h; split at h
 ·rename_i f es g ms; cases h; obtain ⟨h1,rfl⟩:=run_br hr; exact (runP_sound ok72d (cross_eq f es g ms h1)).2
 ·cases h
noncomputable def E73:EnvK:=(E35.addF 57 cCrx).addF 55 cCrx
theorem ok73:EnvOK Tryz.prog E73.env:=(ok35.addF eRCrx oRCrx).addF eCrx oCrx
end Go.Hg
