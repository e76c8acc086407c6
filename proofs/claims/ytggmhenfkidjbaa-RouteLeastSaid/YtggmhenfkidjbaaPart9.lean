import Derived.Test.YtggmhenfkidjbaaPart8
import Derived.Test.YtggmhenfkidjbaaPart5
namespace Go.Hr
open Go.Hx Go.Hg Go.Hn Go.Proofs
def EY:S1:=⟨116,[(4,.ptr 2 1 0 0),(7,.CQ 49),(8,.mp 4),(9,.sl 5),(10,.ptr 6 1 0 0),(15,.ptr 8 1 0 0),(57,.CQ 49),(58,C4),(59,C4),(74,.sl 11),(75,C4),(76,C4)],
 [.one 30 3 aS,.one 30 3 aS,.one 30 3 aS,.map 30 4,.map 30 78,.many 78 5,.Gl 78 5 (.agg [C4,C4,C4,.nil,C4]),.dead,.Gl 49 8 aW,.one 30 3 aS,.one 30 3 aS,.many 116 6]⟩
abbrev I6 (f:Bool) (us:List PV) (n k:Nat) (f2:Bool) (us2:List PV) (len i:Int) (n2 k2:Nat) (l2 j p0 p1 p2:Int) (q0 q1 q2:Int) (s0 s1 s2:Int) (D0 D:List (PV × PV)) (nl:Bool) (es:List PV) (x y z:Int) (rc:Int)
 (wi:Int) (wf:Bool) (wl:List PV) (lv:Int) (cs nm:ByteArray) (st:Bool) (wt ds a0 a1 a2 b0 b1 b2:Int) (nl2:Bool) (ab:List PV):LS:=
 ([.l f us,.n n,.n k,.l f2 us2,.i len,.i i,.n n2,.n k2,.i l2,.i j],[.i p0,.i p1,.i p2,.i q0,.i q1,.i q2,.i s0,.i s1,.i s2,.m D0,.m D,.l nl es,.i x,.i y,.i z,.i rc,
  .i wi,.l wf wl,.i lv,.s cs,.s nm,.b st,.i wt,.i ds,.i a0,.i a1,.i a2,.i b0,.i b1,.i b2,.l nl2 ab])
noncomputable abbrev x18Pn (f:Bool) (us:List PV) (n k:Nat) (f2:Bool) (us2:List PV) (len i p0 p1 p2:Int) (q0 q1 q2:Int) (s0 s1 s2:Int) (D0 D:List (PV × PV)) (nl:Bool) (es:List PV) (x y z:Int) (rc:Int)
 (wi:Int) (wf:Bool) (wl:List PV) (lv:Int) (cs nm:ByteArray) (st:Bool) (wt ds a0 a1 a2 b0 b1 b2:Int) (nl2:Bool) (ab:List PV):PX × List PV × List Row:=
 (.exit 4,tm 116 [(4,.ptr 2 1 0 0),(7,.CQ f 49 us),(8,.mp 4),(9,.sl 5 n 0 k),(10,.ptr 6 1 0 0),(57,.CQ f2 49 us2),(58,iv len),(59,iv i)],
  (EY.put (I6 f us n k f2 us2 len i 0 0 0 0 p0 p1 p2 q0 q1 q2 s0 s1 s2 D0 D nl es x y z rc wi wf wl lv cs nm st wt ds a0 a1 a2 b0 b1 b2 nl2 ab)).2)
noncomputable abbrev h18Pn (p0 p1 p2:Int) (q0 q1 q2:Int) (s0 s1 s2:Int) (D0 D:List (PV × PV)) (nl:Bool) (es:List PV) (x y z:Int) (rc:Int)
 (wi:Int) (wf:Bool) (wl:List PV) (lv:Int) (cs nm:ByteArray) (st:Bool) (wt ds a0 a1 a2 b0 b1 b2:Int) (nl2:Bool) (ab:List PV) (j:Int):List Row:=
 (EY.put (I6 false [] 0 0 false [] 0 0 0 0 0 0 p0 p1 p2 q0 q1 q2 s0 s1 s2 D0 D nl es x y z rc wi wf wl lv cs nm st wt ds a0 a1 a2 b0 b1 b2 nl2 ab)).2++[abRow (rE ab j),C6]
theorem q18Pn (f:Bool) (us:List PV) (n k:Nat) (f2:Bool) (us2:List PV) (len i:Int) (n2 k2:Nat) (l2 j p0 p1 p2:Int) (q0 q1 q2:Int) (s0 s1 s2:Int) (D0 D:List (PV × PV)) (es:List PV) (x y z:Int) (rc:Int)
 (wi:Int) (wf:Bool) (wl:List PV) (lv:Int) (cs nm:ByteArray) (st:Bool) (wt ds a0 a1 a2 b0 b1 b2:Int) (nl2:Bool) (ab:List PV):
 CR Try.prog R54 60 33 (CZ Try.f33 18) [4,7,8,9,10,15,57,58,59,74,75,76] [4,7,8,9,10,57,58,59] (EY.put (I6 f us n k f2 us2 len i n2 k2 l2 j p0 p1 p2 q0 q1 q2 s0 s1 s2 D0 D false es x y z rc wi wf wl lv cs nm st wt ds a0 a1 a2 b0 b1 b2 nl2 ab)).1 (EY.put (I6 f us n k f2 us2 len i n2 k2 l2 j p0 p1 p2 q0 q1 q2 s0 s1 s2 D0 D false es x y z rc wi wf wl lv cs nm st wt ds a0 a1 a2 b0 b1 b2 nl2 ab)).2 =
 bif decide (j<l2) then ixR ab n2 k2 j (J0 ab n2 (bif eq3 (cI (rE ab j) 0) (cI (rE ab j) 1) (cI (rE ab j) 2) x y z then bif !DA D (Dy (cI (rE ab j) 3) (cI (rE ab j) 4) (cI (rE ab j) 5)) then
  bif GQ (h18Pn p0 p1 p2 q0 q1 q2 s0 s1 s2 D0 D false es x y z rc wi wf wl lv cs nm st wt ds a0 a1 a2 b0 b1 b2 nl2 ab j) (h18Pn p0 p1 p2 q0 q1 q2 s0 s1 s2 D0 D false es x y z rc wi wf wl lv cs nm st wt ds a0 a1 a2 b0 b1 b2 nl2 ab j) then
  bif decide (wl.length<=100000) then bif (es.length==n)&&(decide (k<=n)&&decide ((n+1)*56<=140737488355328)) then
   some (.normal,EY.put (I6 f us (max n (k+1)) (k+1) f2 us2 len i n2 k2 l2 (W (j+1)) p0 p1 p2 q0 q1 q2 s0 s1 s2 D0 D false (es.take k++GW (cI (rE ab j) 3) (cI (rE ab j) 4) (cI (rE ab j) 5) false [iv wi] (W (rc+Df wl))::es.drop (k+1)) x y z rc wi wf wl lv cs nm st wt ds a0 a1 a2 b0 b1 b2 nl2 ab))
  else none else none else none
  else some (.normal,EY.put (I6 f us n k f2 us2 len i n2 k2 l2 (W (j+1)) p0 p1 p2 q0 q1 q2 s0 s1 s2 D0 D false es x y z rc wi wf wl lv cs nm st wt ds a0 a1 a2 b0 b1 b2 nl2 ab))
  else some (.normal,EY.put (I6 f us n k f2 us2 len i n2 k2 l2 (W (j+1)) p0 p1 p2 q0 q1 q2 s0 s1 s2 D0 D false es x y z rc wi wf wl lv cs nm st wt ds a0 a1 a2 b0 b1 b2 nl2 ab))))
 else some (x18Pn f us n k f2 us2 len i p0 p1 p2 q0 q1 q2 s0 s1 s2 D0 D false es x y z rc wi wf wl lv cs nm st wt ds a0 a1 a2 b0 b1 b2 nl2 ab):=by kernel_rfl
theorem q18NPn (f:Bool) (us:List PV) (k:Nat) (f2:Bool) (us2:List PV) (len i j p0 p1 p2:Int) (q0 q1 q2:Int) (s0 s1 s2:Int) (D0 D:List (PV × PV)) (es:List PV) (x y z:Int) (rc:Int)
 (wi:Int) (wf:Bool) (wl:List PV) (lv:Int) (cs nm:ByteArray) (st:Bool) (wt ds a0 a1 a2 b0 b1 b2:Int) (nl2:Bool) (ab:List PV) (hj:0<=j) (hj2:j<(ab.length:Int)) (hab:ab.length<=2) (hk:k<=es.length) (hes:es.length<=600000) (hwl:wl.length<=1000) (hrc:0<=rc) (hrc2:rc<=1000000000000000000):
 CR Try.prog R54 60 33 (CZ Try.f33 18) [4,7,8,9,10,15,57,58,59,74,75,76] [4,7,8,9,10,57,58,59] (EY.put (I6 f us es.length k f2 us2 len i ab.length ab.length ab.length j p0 p1 p2 q0 q1 q2 s0 s1 s2 D0 D false es x y z rc wi wf wl lv cs nm st wt ds a0 a1 a2 b0 b1 b2 nl2 ab)).1 (EY.put (I6 f us es.length k f2 us2 len i ab.length ab.length ab.length j p0 p1 p2 q0 q1 q2 s0 s1 s2 D0 D false es x y z rc wi wf wl lv cs nm st wt ds a0 a1 a2 b0 b1 b2 nl2 ab)).2 =
 some (.normal,EY.put (I6 f us (Jd x y z D ([]++[iv wi]) (rc+Df wl) (es,k) (aE ab j)).1.length (Jd x y z D ([]++[iv wi]) (rc+Df wl) (es,k) (aE ab j)).2 f2 us2 len i ab.length ab.length ab.length (j+1) p0 p1 p2 q0 q1 q2 s0 s1 s2 D0 D false (Jd x y z D ([]++[iv wi]) (rc+Df wl) (es,k) (aE ab j)).1 x y z rc wi wf wl lv cs nm st wt ds a0 a1 a2 b0 b1 b2 nl2 ab)):=by
 obtain⟨w1,w2⟩:=GX hwl;rw[q18Pn,Ac hj2,Am,G5 rfl hj hj2,DQ rfl,Dc (n:=j+1) (by omega) (by omega),Dc (n:=rc+Df wl) (by omega) (by omega),rE_a,EF,
  Ac (show wl.length<=100000 by omega),show ((es.length==es.length)&&(decide (k<=es.length)&&decide ((es.length+1)*56<=140737488355328)))=true by simp only[AR,Cf,Aa,Ab];omega]
 simp only[Am];unfold Jd cdJ;cases h1:eq3 (cI (aE ab j) 0) (cI (aE ab j) 1) (cI (aE ab j) 2) x y z with
 | false=>rfl
 | true =>
  cases h2:DA D (Dy (cI (aE ab j) 3) (cI (aE ab j) 4) (cI (aE ab j) 5)) with
  | true=>rfl
  | false =>
   have e1:=Ng (z:=elZ (aE ab j) ([]++[iv wi]) (rc+Df wl)) hk;simp only[Am,BU,Bn,e1];rfl
def p18Pn:LS->Bool
 | ([.l _ _,.n n,.n k,.l _ _,.i _,.i _,.n n2,.n k2,.i l2,.i j],[.i _,.i _,.i _,.i _,.i _,.i _,.i _,.i _,.i _,.m _,.m _,.l nl es,.i _,.i _,.i _,.i rc,
  .i _,.l _ wl,.i _,.s _,.s _,.b _,.i _,.i _,.i _,.i _,.i _,.i _,.i _,.i _,.l _ ab]) =>
  decide (n=es.length)&&decide (k<=es.length)&&decide (n2=ab.length)&&decide (k2=ab.length)&&decide (l2=(ab.length:Int))&&decide (0<=j)&&decide (j<=(ab.length:Int))&&decide (ab.length<=2)&&decide ((es.length:Int)<=500000+j)&&decide (wl.length<=1000)&&decide (0<=rc)&&decide (rc<=1000000000000000000) && !nl
 | _=>false
noncomputable def f18Pn:LS->DT (PX × List PV × List Row)
 | ([.l f us,.n _,.n k,.l f2 us2,.i len,.i i,.n _,.n _,.i _,.i j],[.i p0,.i p1,.i p2,.i q0,.i q1,.i q2,.i s0,.i s1,.i s2,.m D0,.m D,.l _ es,.i x,.i y,.i z,.i rc,
  .i wi,.l wf wl,.i lv,.s cs,.s nm,.b st,.i wt,.i ds,.i a0,.i a1,.i a2,.i b0,.i b1,.i b2,.l nl2 ab]) =>
  .leaf (x18Pn f us (G7 x y z D ([]++[iv wi]) (rc+Df wl) (es,k) (ab.drop j.toNat)).1.length (G7 x y z D ([]++[iv wi]) (rc+Df wl) (es,k) (ab.drop j.toNat)).2 f2 us2 len i p0 p1 p2 q0 q1 q2 s0 s1 s2 D0 D false (G7 x y z D ([]++[iv wi]) (rc+Df wl) (es,k) (ab.drop j.toNat)).1 x y z rc wi wf wl lv cs nm st wt ds a0 a1 a2 b0 b1 b2 nl2 ab)
 | _=>.no
def m18Pn:LS->Nat
 | ([.l _ _,.n _,.n _,.l _ _,.i _,.i _,.n _,.n _,.i l2,.i j],_)=>(l2-j).toNat
 | _=>0
theorem s18Pn:∀ s r,p18Pn s=true->(f18Pn s).run=some r->r.1 ≠ .normal/\(CR Try.prog R54 60 33 (CZ Try.f33 18) [4,7,8,9,10,15,57,58,59,74,75,76] [4,7,8,9,10,57,58,59] (EY.put s).1 (EY.put s).2=some r \/
   ∃ s',CR Try.prog R54 60 33 (CZ Try.f33 18) [4,7,8,9,10,15,57,58,59,74,75,76] [4,7,8,9,10,57,58,59] (EY.put s).1 (EY.put s).2=some (.normal,EY.put s')/\p18Pn s'=true/\m18Pn s'<m18Pn s/\(f18Pn s').run=some r):=by
 intro t r hp hr;unfold p18Pn at hp;split at hp
 ·rename_i f us n k f2 us2 len i n2 k2 l2 j p0 p1 p2 q0 q1 q2 s0 s1 s2 D0 D nl es x y z rc wi wf wl lv cs nm st wt ds a0 a1 a2 b0 b1 b2 nl2 ab;simp only[Aa,Ab,Al] at hp;obtain⟨⟨⟨⟨⟨⟨⟨⟨⟨⟨⟨⟨rfl,h2⟩,rfl⟩,rfl⟩,rfl⟩,h6⟩,h7⟩,h8⟩,h9⟩,h10⟩,h11⟩,h12⟩,rfl⟩:=hp;have hr':=(Ah hr).symm;refine⟨by rw[hr'];simp,?_⟩;rw[show EY.put ([.l f us,.n es.length,.n k,.l f2 us2,.i len,.i i,.n ab.length,.n ab.length,.i (ab.length:Int),.i j],[.i p0,.i p1,.i p2,.i q0,.i q1,.i q2,.i s0,.i s1,.i s2,.m D0,.m D,.l false es,.i x,.i y,.i z,.i rc,
   .i wi,.l wf wl,.i lv,.s cs,.s nm,.b st,.i wt,.i ds,.i a0,.i a1,.i a2,.i b0,.i b1,.i b2,.l nl2 ab])=EY.put (I6 f us es.length k f2 us2 len i ab.length ab.length ab.length j p0 p1 p2 q0 q1 q2 s0 s1 s2 D0 D false es x y z rc wi wf wl lv cs nm st wt ds a0 a1 a2 b0 b1 b2 nl2 ab) from rfl]
  by_cases hi:j<(ab.length:Int)
  ·rw[q18NPn (hj:=h6) (hj2:=hi) (hab:=h8) (hk:=h2) (hes:=by omega) (hwl:=h10) (hrc:=h11) (hrc2:=h12)];obtain⟨g1,g2,g3⟩:=JC (x:=x) (y:=y) (z:=z) (D:=D) (ps:=[]++[iv wi]) (c:=rc+Df wl) (s:=(es,k)) (e:=aE ab j) h2;simp only at g1 g2 g3;refine .inr ⟨_,rfl,?_,?_,?_⟩
   ·simp only[p18Pn,Aa,Ab,Al];exact⟨⟨⟨⟨⟨⟨⟨⟨⟨⟨⟨⟨trivial,g1⟩,trivial⟩,trivial⟩,trivial⟩,by omega⟩,by omega⟩,h8⟩,by omega⟩,h10⟩,h11⟩,h12⟩,trivial⟩
   ·simp only[m18Pn];omega
   ·rw[hr',Db h6 hi];rfl
  ·rw[q18Pn,Aj hi];rw[AG (by omega)] at hr';exact .inl (by rw[hr'];rfl)
 ·cases hp
noncomputable def R55:CO:=R54.C8 33 18 [4,7,8,9,10,15,57,58,59,74,75,76] [false,false,false,false,false,false,false,false,true,true,true,false] EY p18Pn f18Pn
theorem okR55:Ck Try.prog R55.env:=
 okR54.C8 (n:=60) Try.func33 (show Try.f33.body=some (DL Try.f33) by kernel_rfl) (show (loops (DL Try.f33)).filter (fun b=>Ed b==18)=[CZ Try.f33 18] by kernel_rfl) [4,7,8,9,10,15,57,58,59,74,75,76] [4,7,8,9,10,57,58,59] [false,false,false,false,false,false,false,false,true,true,true,false] EY m18Pn s18Pn
def GG:S1:=⟨116,[(4,.ptr 2 1 0 0),(7,.CQ 49),(8,.mp 4),(9,.sl 5),(10,.ptr 6 1 0 0),(57,.CQ 49),(58,C4),(59,C4)],
 [.one 30 3 aS,.one 30 3 aS,.one 30 3 aS,.map 30 4,.map 30 78,.many 78 5,.Gl 78 5 (.agg [C4,C4,C4,.nil,C4]),.dead]⟩
abbrev l14Pn (f:Bool) (us:List PV) (n k:Nat) (f2:Bool) (us2:List PV) (len i p0 p1 p2:Int) (q0 q1 q2:Int) (s0 s1 s2:Int) (D0 D:List (PV × PV)) (nl:Bool) (es:List PV) (x y z:Int) (rc:Int):LS:=
 ([.l f us,.n n,.n k,.l f2 us2,.i len,.i i],[.i p0,.i p1,.i p2,.i q0,.i q1,.i q2,.i s0,.i s1,.i s2,.m D0,.m D,.l nl es,.i x,.i y,.i z,.i rc])
noncomputable abbrev x14Pn (f:Bool) (us:List PV) (n k:Nat) (p0 p1 p2:Int) (q0 q1 q2:Int) (s0 s1 s2:Int) (D0 D:List (PV × PV)) (nl:Bool) (es:List PV) (x y z:Int) (rc:Int):PX × List PV × List Row:=
 (.exit 2,tm 116 [(4,.ptr 2 1 0 0),(7,.CQ f 49 us),(8,.mp 4),(9,.sl 5 n 0 k)],(GG.put (l14Pn f us n k false [] 0 0 p0 p1 p2 q0 q1 q2 s0 s1 s2 D0 D nl es x y z rc)).2)
theorem q14Pn (f:Bool) (us:List PV) (n k:Nat) (f2:Bool) (us2:List PV) (len i p0 p1 p2:Int) (q0 q1 q2:Int) (s0 s1 s2:Int) (D0 D:List (PV × PV)) (es:List PV) (x y z:Int) (rc:Int):
 CR Try.prog R55 60 33 (CZ Try.f33 14) [4,7,8,9,10,57,58,59] [4,7,8,9] (GG.put (l14Pn f us n k f2 us2 len i p0 p1 p2 q0 q1 q2 s0 s1 s2 D0 D false es x y z rc)).1 (GG.put (l14Pn f us n k f2 us2 len i p0 p1 p2 q0 q1 q2 s0 s1 s2 D0 D false es x y z rc)).2 =
 bif decide (i<len) then bif H8 us2 i then bif stB (wL (us2.getD i.toNat .any)) then
  bif p18Pn (I6 f us n k f2 us2 len i 2 2 2 0 p0 p1 p2 q0 q1 q2 s0 s1 s2 D0 D false es x y z rc (wI (us2.getD i.toNat .any)) false (wL (us2.getD i.toNat .any)) (wLv (us2.getD i.toNat .any)) (cS (us2.getD i.toNat .any) 3) (cS (us2.getD i.toNat .any) 4) (Lc (us2.getD i.toNat .any)) (cI (us2.getD i.toNat .any) 6) (cI (us2.getD i.toNat .any) 7)
    (gX (eF (us2.getD i.toNat .any))) (gY (eF (us2.getD i.toNat .any))) (gL (eF (us2.getD i.toNat .any))) (gX (eL (us2.getD i.toNat .any))) (gY (eL (us2.getD i.toNat .any))) (gL (eL (us2.getD i.toNat .any))) false (abL (us2.getD i.toNat .any))) then
   some (.normal,GG.put (l14Pn f us (G7 x y z D ([]++[iv (wI (us2.getD i.toNat .any))]) (rc+Df (wL (us2.getD i.toNat .any))) (es,k) ((abL (us2.getD i.toNat .any)).drop (0:Int).toNat)).1.length (G7 x y z D ([]++[iv (wI (us2.getD i.toNat .any))]) (rc+Df (wL (us2.getD i.toNat .any))) (es,k) ((abL (us2.getD i.toNat .any)).drop (0:Int).toNat)).2 f2 us2 len (W (i+1)) p0 p1 p2 q0 q1 q2 s0 s1 s2 D0 D false
    (G7 x y z D ([]++[iv (wI (us2.getD i.toNat .any))]) (rc+Df (wL (us2.getD i.toNat .any))) (es,k) ((abL (us2.getD i.toNat .any)).drop (0:Int).toNat)).1 x y z rc)) else none else none else none
 else some (x14Pn f us n k p0 p1 p2 q0 q1 q2 s0 s1 s2 D0 D false es x y z rc):=by kernel_rfl
def p14Pn:LS->Bool
 | ([.l _ _,.n n,.n k,.l _ us2,.i len,.i i],[.i _,.i _,.i _,.i _,.i _,.i _,.i _,.i _,.i _,.m _,.m _,.l nl es,.i _,.i _,.i _,.i rc]) =>
  decide (n=es.length)&&decide (k<=es.length)&&decide (len=(us2.length:Int))&&decide (0<=i)&&decide (i<=(us2.length:Int))&&decide (us2.length<=100)&&decide ((es.length:Int)<=400000+2*i)&&(us2.all G8)&&decide (0<=rc)&&decide (rc<=1000000000000000000) && !nl
 | _=>false
noncomputable def f14Pn:LS->DT (PX × List PV × List Row)
 | ([.l f us,.n _,.n k,.l _ us2,.i _,.i i],[.i p0,.i p1,.i p2,.i q0,.i q1,.i q2,.i s0,.i s1,.i s2,.m D0,.m D,.l _ es,.i x,.i y,.i z,.i rc]) =>
  .leaf (x14Pn f us (Dt x y z D [] rc (es,k) (us2.drop i.toNat)).1.length (Dt x y z D [] rc (es,k) (us2.drop i.toNat)).2 p0 p1 p2 q0 q1 q2 s0 s1 s2 D0 D false (Dt x y z D [] rc (es,k) (us2.drop i.toNat)).1 x y z rc)
 | _=>.no
def m14Pn:LS->Nat
 | ([.l _ _,.n _,.n _,.l _ _,.i len,.i i],_)=>(len-i).toNat
 | _=>0
theorem s14Pn:∀ s r,p14Pn s=true->(f14Pn s).run=some r->r.1 ≠ .normal/\(CR Try.prog R55 60 33 (CZ Try.f33 14) [4,7,8,9,10,57,58,59] [4,7,8,9] (GG.put s).1 (GG.put s).2=some r \/
   ∃ s',CR Try.prog R55 60 33 (CZ Try.f33 14) [4,7,8,9,10,57,58,59] [4,7,8,9] (GG.put s).1 (GG.put s).2=some (.normal,GG.put s')/\p14Pn s'=true/\m14Pn s'<m14Pn s/\(f14Pn s').run=some r):=by
 intro t r hp hr;unfold p14Pn at hp;split at hp
 ·rename_i f us n k f2 us2 len i p0 p1 p2 q0 q1 q2 s0 s1 s2 D0 D nl es x y z rc;simp only[Aa,Ab,Al] at hp;obtain⟨⟨⟨⟨⟨⟨⟨⟨⟨⟨rfl,h2⟩,rfl⟩,h4⟩,h5⟩,h6⟩,h7⟩,h8⟩,h9⟩,h10⟩,rfl⟩:=hp;have hr':=(Ah hr).symm;refine⟨by rw[hr'];simp,?_⟩;rw[show GG.put ([.l f us,.n es.length,.n k,.l f2 us2,.i (us2.length:Int),.i i],[.i p0,.i p1,.i p2,.i q0,.i q1,.i q2,.i s0,.i s1,.i s2,.m D0,.m D,.l false es,.i x,.i y,.i z,.i rc]) =
   GG.put (l14Pn f us es.length k f2 us2 us2.length i p0 p1 p2 q0 q1 q2 s0 s1 s2 D0 D false es x y z rc) from rfl,q14Pn]
  by_cases hi:i<(us2.length:Int)
  ·have hu:=Ap.1 h8 _ (aE_mem h4 hi);have hu0:¬ (wL (us2.getD i.toNat .any)).length=0/\(wL (us2.getD i.toNat .any)).length<=1000:=by
    have:G8 (us2.getD i.toNat .any)=true:=hu;simp only[G8,Aa,Al,AQ,Ab] at this;exact this
   rw[Db h4 hi] at hr';generalize us2.getD i.toNat .any=e at *;have hp18:p18Pn (I6 f us es.length k f2 us2 us2.length i 2 2 2 0 p0 p1 p2 q0 q1 q2 s0 s1 s2 D0 D false es x y z rc (wI e) false (wL e) (wLv e) (cS e 3) (cS e 4) (Lc e) (cI e 6) (cI e 7) (gX (eF e)) (gY (eF e)) (gL (eF e)) (gX (eL e)) (gY (eL e)) (gL (eL e)) false (abL e))=true:=by
    simp only[p18Pn,Aa,Ab,Al,Ay,AC];exact⟨⟨⟨⟨⟨⟨⟨⟨⟨⟨⟨⟨trivial,h2⟩,trivial⟩,trivial⟩,by decide⟩,by decide⟩,by decide⟩,by decide⟩,by omega⟩,hu0.2⟩,h9⟩,h10⟩,trivial⟩
   rw[Ac hi,D1 h4 hi,Kw hu0.1 (by omega),hp18,Dc (n:=i+1) (by omega) (by omega),show (0:Int).toNat=0 from rfl,AM];obtain⟨g1,g2,g3⟩:=I5 (x:=x) (y:=y) (z:=z) (D:=D) (ps:=[]) (rc:=rc) (s:=(es,k)) (e:=e) h2;simp only at g1 g2 g3;refine .inr ⟨l14Pn f us (Ib x y z D [] rc (es,k) e).1.length (Ib x y z D [] rc (es,k) e).2 f2 us2 us2.length (i+1) p0 p1 p2 q0 q1 q2 s0 s1 s2 D0 D false (Ib x y z D [] rc (es,k) e).1 x y z rc,rfl,?_,?_,?_⟩
   ·simp only[p14Pn,Aa,Ab,Al];exact⟨⟨⟨⟨⟨⟨⟨⟨⟨⟨trivial,g1⟩,trivial⟩,by omega⟩,by omega⟩,h6⟩,by omega⟩,h8⟩,h9⟩,h10⟩,trivial⟩
   ·simp only[m14Pn];omega
   ·rw[hr'];rfl
  ·rw[Aj hi];rw[AG (by omega)] at hr';exact .inl (by rw[hr'];rfl)
 ·cases hp
noncomputable def R56:CO:=R55.LD Try.prog [false,false,false,false,false,true,false,false] 33 14 [4,7,8,9,10,57,58,59] [false,false,false,false,false,false,true,false] GG p14Pn f14Pn
theorem okR56:Ck Try.prog R56.env:=
 okR55.LD (n:=60) Try.func33 (show Try.f33.body=some (DL Try.f33) by kernel_rfl) (show (loops (DL Try.f33)).filter (fun b=>Ed b==14)=[CZ Try.f33 14] by kernel_rfl) [false,false,false,false,false,true,false,false] [4,7,8,9,10,57,58,59] [4,7,8,9] [false,false,false,false,false,false,true,false] GG m14Pn s14Pn
def EZ:S1:=⟨116,[(4,.ptr 2 1 0 0),(7,.CQ 49),(8,.mp 4),(9,.sl 5),(10,.ptr 6 1 0 0),(15,.ptr 8 1 0 0),(57,.CQ 49),(58,C4),(59,C4),(74,.sl 11),(75,C4),(76,C4)],
 [.one 30 3 aS,.one 30 3 aS,.one 30 3 aS,.map 30 4,.map 30 78,.many 78 5,.Gl 78 5 (.agg [C4,C4,C4,.CQ 3,C4]),.dead,.Gl 49 8 aW,.one 30 3 aS,.one 30 3 aS,.many 116 6]⟩
abbrev I7 (f:Bool) (us:List PV) (n k:Nat) (f2:Bool) (us2:List PV) (len i:Int) (n2 k2:Nat) (l2 j p0 p1 p2:Int) (q0 q1 q2:Int) (s0 s1 s2:Int) (D0 D:List (PV × PV)) (nl:Bool) (es:List PV) (x y z:Int) (rf:Bool) (rp:List PV) (rc:Int)
 (wi:Int) (wf:Bool) (wl:List PV) (lv:Int) (cs nm:ByteArray) (st:Bool) (wt ds a0 a1 a2 b0 b1 b2:Int) (nl2:Bool) (ab:List PV):LS:=
 ([.l f us,.n n,.n k,.l f2 us2,.i len,.i i,.n n2,.n k2,.i l2,.i j],[.i p0,.i p1,.i p2,.i q0,.i q1,.i q2,.i s0,.i s1,.i s2,.m D0,.m D,.l nl es,.i x,.i y,.i z,.l rf rp,.i rc,
  .i wi,.l wf wl,.i lv,.s cs,.s nm,.b st,.i wt,.i ds,.i a0,.i a1,.i a2,.i b0,.i b1,.i b2,.l nl2 ab])
noncomputable abbrev x18Pl (f:Bool) (us:List PV) (n k:Nat) (f2:Bool) (us2:List PV) (len i p0 p1 p2:Int) (q0 q1 q2:Int) (s0 s1 s2:Int) (D0 D:List (PV × PV)) (nl:Bool) (es:List PV) (x y z:Int) (rf:Bool) (rp:List PV) (rc:Int)
 (wi:Int) (wf:Bool) (wl:List PV) (lv:Int) (cs nm:ByteArray) (st:Bool) (wt ds a0 a1 a2 b0 b1 b2:Int) (nl2:Bool) (ab:List PV):PX × List PV × List Row:=
 (.exit 4,tm 116 [(4,.ptr 2 1 0 0),(7,.CQ f 49 us),(8,.mp 4),(9,.sl 5 n 0 k),(10,.ptr 6 1 0 0),(57,.CQ f2 49 us2),(58,iv len),(59,iv i)],
  (EZ.put (I7 f us n k f2 us2 len i 0 0 0 0 p0 p1 p2 q0 q1 q2 s0 s1 s2 D0 D nl es x y z rf rp rc wi wf wl lv cs nm st wt ds a0 a1 a2 b0 b1 b2 nl2 ab)).2)
noncomputable abbrev h18Pl (p0 p1 p2:Int) (q0 q1 q2:Int) (s0 s1 s2:Int) (D0 D:List (PV × PV)) (nl:Bool) (es:List PV) (x y z:Int) (rf:Bool) (rp:List PV) (rc:Int)
 (wi:Int) (wf:Bool) (wl:List PV) (lv:Int) (cs nm:ByteArray) (st:Bool) (wt ds a0 a1 a2 b0 b1 b2:Int) (nl2:Bool) (ab:List PV) (j:Int):List Row:=
 (EZ.put (I7 false [] 0 0 false [] 0 0 0 0 0 0 p0 p1 p2 q0 q1 q2 s0 s1 s2 D0 D nl es x y z rf rp rc wi wf wl lv cs nm st wt ds a0 a1 a2 b0 b1 b2 nl2 ab)).2++[abRow (rE ab j),C6]
theorem q18Pl (f:Bool) (us:List PV) (n k:Nat) (f2:Bool) (us2:List PV) (len i:Int) (n2 k2:Nat) (l2 j p0 p1 p2:Int) (q0 q1 q2:Int) (s0 s1 s2:Int) (D0 D:List (PV × PV)) (es:List PV) (x y z:Int) (rf:Bool) (rp:List PV) (rc:Int)
 (wi:Int) (wf:Bool) (wl:List PV) (lv:Int) (cs nm:ByteArray) (st:Bool) (wt ds a0 a1 a2 b0 b1 b2:Int) (nl2:Bool) (ab:List PV):
 CR Try.prog R56 60 33 (CZ Try.f33 18) [4,7,8,9,10,15,57,58,59,74,75,76] [4,7,8,9,10,57,58,59] (EZ.put (I7 f us n k f2 us2 len i n2 k2 l2 j p0 p1 p2 q0 q1 q2 s0 s1 s2 D0 D false es x y z rf rp rc wi wf wl lv cs nm st wt ds a0 a1 a2 b0 b1 b2 nl2 ab)).1 (EZ.put (I7 f us n k f2 us2 len i n2 k2 l2 j p0 p1 p2 q0 q1 q2 s0 s1 s2 D0 D false es x y z rf rp rc wi wf wl lv cs nm st wt ds a0 a1 a2 b0 b1 b2 nl2 ab)).2 =
 bif decide (j<l2) then ixR ab n2 k2 j (J0 ab n2 (bif eq3 (cI (rE ab j) 0) (cI (rE ab j) 1) (cI (rE ab j) 2) x y z then bif !DA D (Dy (cI (rE ab j) 3) (cI (rE ab j) 4) (cI (rE ab j) 5)) then
  bif decide (0<rp.length) then bif decide ((0+rp.length)*8<=140737488355328) then bif GQ (h18Pl p0 p1 p2 q0 q1 q2 s0 s1 s2 D0 D false es x y z rf rp rc wi wf wl lv cs nm st wt ds a0 a1 a2 b0 b1 b2 nl2 ab j) (h18Pl p0 p1 p2 q0 q1 q2 s0 s1 s2 D0 D false es x y z rf rp rc wi wf wl lv cs nm st wt ds a0 a1 a2 b0 b1 b2 nl2 ab j) then
  bif okF2 rp wi then bif decide (wl.length<=100000) then bif (es.length==n)&&(decide (k<=n)&&decide ((n+1)*56<=140737488355328)) then
   some (.normal,EZ.put (I7 f us (max n (k+1)) (k+1) f2 us2 len i n2 k2 l2 (W (j+1)) p0 p1 p2 q0 q1 q2 s0 s1 s2 D0 D false (es.take k++GW (cI (rE ab j) 3) (cI (rE ab j) 4) (cI (rE ab j) 5) false (newQ2 rp wi) (W (rc+Df wl))::es.drop (k+1)) x y z rf rp rc wi wf wl lv cs nm st wt ds a0 a1 a2 b0 b1 b2 nl2 ab))
  else none else none else none else none else none else none
  else some (.normal,EZ.put (I7 f us n k f2 us2 len i n2 k2 l2 (W (j+1)) p0 p1 p2 q0 q1 q2 s0 s1 s2 D0 D false es x y z rf rp rc wi wf wl lv cs nm st wt ds a0 a1 a2 b0 b1 b2 nl2 ab))
  else some (.normal,EZ.put (I7 f us n k f2 us2 len i n2 k2 l2 (W (j+1)) p0 p1 p2 q0 q1 q2 s0 s1 s2 D0 D false es x y z rf rp rc wi wf wl lv cs nm st wt ds a0 a1 a2 b0 b1 b2 nl2 ab))))
 else some (x18Pl f us n k f2 us2 len i p0 p1 p2 q0 q1 q2 s0 s1 s2 D0 D false es x y z rf rp rc wi wf wl lv cs nm st wt ds a0 a1 a2 b0 b1 b2 nl2 ab):=by kernel_rfl
theorem q18NPl (f:Bool) (us:List PV) (k:Nat) (f2:Bool) (us2:List PV) (len i j p0 p1 p2:Int) (q0 q1 q2:Int) (s0 s1 s2:Int) (D0 D:List (PV × PV)) (es:List PV) (x y z:Int) (rf:Bool) (rp:List PV) (rc:Int)
 (wi:Int) (wf:Bool) (wl:List PV) (lv:Int) (cs nm:ByteArray) (st:Bool) (wt ds a0 a1 a2 b0 b1 b2:Int) (nl2:Bool) (ab:List PV) (hj:0<=j) (hj2:j<(ab.length:Int)) (hab:ab.length<=2) (hk:k<=es.length) (hes:es.length<=600000) (hwl:wl.length<=1000) (hrc:0<=rc) (hrc2:rc<=1000000000000000000) (hr0:0<rp.length) (hr1:rp.length<=100000):
 CR Try.prog R56 60 33 (CZ Try.f33 18) [4,7,8,9,10,15,57,58,59,74,75,76] [4,7,8,9,10,57,58,59] (EZ.put (I7 f us es.length k f2 us2 len i ab.length ab.length ab.length j p0 p1 p2 q0 q1 q2 s0 s1 s2 D0 D false es x y z rf rp rc wi wf wl lv cs nm st wt ds a0 a1 a2 b0 b1 b2 nl2 ab)).1 (EZ.put (I7 f us es.length k f2 us2 len i ab.length ab.length ab.length j p0 p1 p2 q0 q1 q2 s0 s1 s2 D0 D false es x y z rf rp rc wi wf wl lv cs nm st wt ds a0 a1 a2 b0 b1 b2 nl2 ab)).2 =
 some (.normal,EZ.put (I7 f us (Jd x y z D (rp++[iv wi]) (rc+Df wl) (es,k) (aE ab j)).1.length (Jd x y z D (rp++[iv wi]) (rc+Df wl) (es,k) (aE ab j)).2 f2 us2 len i ab.length ab.length ab.length (j+1) p0 p1 p2 q0 q1 q2 s0 s1 s2 D0 D false (Jd x y z D (rp++[iv wi]) (rc+Df wl) (es,k) (aE ab j)).1 x y z rf rp rc wi wf wl lv cs nm st wt ds a0 a1 a2 b0 b1 b2 nl2 ab)):=by
 obtain⟨w1,w2⟩:=GX hwl;rw[q18Pl,Ac hj2,Am,G5 rfl hj hj2,DQ rfl,Dc (n:=j+1) (by omega) (by omega),Dc (n:=rc+Df wl) (by omega) (by omega),rE_a,EF,Ac hr0,Ac (show (0+rp.length)*8<=140737488355328 by omega),okF2_of (wi:=wi) (show rp.length<=1000000 by omega),newQ2_eq,
  Ac (show wl.length<=100000 by omega),show ((es.length==es.length)&&(decide (k<=es.length)&&decide ((es.length+1)*56<=140737488355328)))=true by simp only[AR,Cf,Aa,Ab];omega]
 simp only[Am];unfold Jd cdJ;cases h1:eq3 (cI (aE ab j) 0) (cI (aE ab j) 1) (cI (aE ab j) 2) x y z with
 | false=>rfl
 | true =>
  cases h2:DA D (Dy (cI (aE ab j) 3) (cI (aE ab j) 4) (cI (aE ab j) 5)) with
  | true=>rfl
  | false =>
   have e1:=Ng (z:=elZ (aE ab j) (rp++[iv wi]) (rc+Df wl)) hk;simp only[Am,BU,Bn,e1];rfl
def p18Pl:LS->Bool
 | ([.l _ _,.n n,.n k,.l _ _,.i _,.i _,.n n2,.n k2,.i l2,.i j],[.i _,.i _,.i _,.i _,.i _,.i _,.i _,.i _,.i _,.m _,.m _,.l nl es,.i _,.i _,.i _,.l _ rp,.i rc,
  .i _,.l _ wl,.i _,.s _,.s _,.b _,.i _,.i _,.i _,.i _,.i _,.i _,.i _,.i _,.l _ ab]) =>
  decide (n=es.length)&&decide (k<=es.length)&&decide (n2=ab.length)&&decide (k2=ab.length)&&decide (l2=(ab.length:Int))&&decide (0<=j)&&decide (j<=(ab.length:Int))&&decide (ab.length<=2)&&decide ((es.length:Int)<=500000+j)&&decide (wl.length<=1000)&&decide (0<=rc)&&decide (rc<=1000000000000000000) && !nl&&decide (0<rp.length)&&decide (rp.length<=100000)
 | _=>false
noncomputable def f18Pl:LS->DT (PX × List PV × List Row)
 | ([.l f us,.n _,.n k,.l f2 us2,.i len,.i i,.n _,.n _,.i _,.i j],[.i p0,.i p1,.i p2,.i q0,.i q1,.i q2,.i s0,.i s1,.i s2,.m D0,.m D,.l _ es,.i x,.i y,.i z,.l rf rp,.i rc,
  .i wi,.l wf wl,.i lv,.s cs,.s nm,.b st,.i wt,.i ds,.i a0,.i a1,.i a2,.i b0,.i b1,.i b2,.l nl2 ab]) =>
  .leaf (x18Pl f us (G7 x y z D (rp++[iv wi]) (rc+Df wl) (es,k) (ab.drop j.toNat)).1.length (G7 x y z D (rp++[iv wi]) (rc+Df wl) (es,k) (ab.drop j.toNat)).2 f2 us2 len i p0 p1 p2 q0 q1 q2 s0 s1 s2 D0 D false (G7 x y z D (rp++[iv wi]) (rc+Df wl) (es,k) (ab.drop j.toNat)).1 x y z rf rp rc wi wf wl lv cs nm st wt ds a0 a1 a2 b0 b1 b2 nl2 ab)
 | _=>.no
def m18Pl:LS->Nat
 | ([.l _ _,.n _,.n _,.l _ _,.i _,.i _,.n _,.n _,.i l2,.i j],_)=>(l2-j).toNat
 | _=>0
theorem s18Pl:∀ s r,p18Pl s=true->(f18Pl s).run=some r->r.1 ≠ .normal/\(CR Try.prog R56 60 33 (CZ Try.f33 18) [4,7,8,9,10,15,57,58,59,74,75,76] [4,7,8,9,10,57,58,59] (EZ.put s).1 (EZ.put s).2=some r \/
   ∃ s',CR Try.prog R56 60 33 (CZ Try.f33 18) [4,7,8,9,10,15,57,58,59,74,75,76] [4,7,8,9,10,57,58,59] (EZ.put s).1 (EZ.put s).2=some (.normal,EZ.put s')/\p18Pl s'=true/\m18Pl s'<m18Pl s/\(f18Pl s').run=some r):=by
 intro t r hp hr;unfold p18Pl at hp;split at hp
 ·rename_i f us n k f2 us2 len i n2 k2 l2 j p0 p1 p2 q0 q1 q2 s0 s1 s2 D0 D nl es x y z rf rp rc wi wf wl lv cs nm st wt ds a0 a1 a2 b0 b1 b2 nl2 ab;simp only[Aa,Ab,Al] at hp;obtain⟨⟨⟨⟨⟨⟨⟨⟨⟨⟨⟨⟨⟨⟨rfl,h2⟩,rfl⟩,rfl⟩,rfl⟩,h6⟩,h7⟩,h8⟩,h9⟩,h10⟩,h11⟩,h12⟩,rfl⟩,h14⟩,h15⟩:=hp;have hr':=(Ah hr).symm;refine⟨by rw[hr'];simp,?_⟩;rw[show EZ.put ([.l f us,.n es.length,.n k,.l f2 us2,.i len,.i i,.n ab.length,.n ab.length,.i (ab.length:Int),.i j],[.i p0,.i p1,.i p2,.i q0,.i q1,.i q2,.i s0,.i s1,.i s2,.m D0,.m D,.l false es,.i x,.i y,.i z,.l rf rp,.i rc,
   .i wi,.l wf wl,.i lv,.s cs,.s nm,.b st,.i wt,.i ds,.i a0,.i a1,.i a2,.i b0,.i b1,.i b2,.l nl2 ab])=EZ.put (I7 f us es.length k f2 us2 len i ab.length ab.length ab.length j p0 p1 p2 q0 q1 q2 s0 s1 s2 D0 D false es x y z rf rp rc wi wf wl lv cs nm st wt ds a0 a1 a2 b0 b1 b2 nl2 ab) from rfl]
  by_cases hi:j<(ab.length:Int)
  ·rw[q18NPl (hj:=h6) (hj2:=hi) (hab:=h8) (hk:=h2) (hes:=by omega) (hwl:=h10) (hrc:=h11) (hrc2:=h12) (hr0:=h14) (hr1:=h15)];obtain⟨g1,g2,g3⟩:=JC (x:=x) (y:=y) (z:=z) (D:=D) (ps:=rp++[iv wi]) (c:=rc+Df wl) (s:=(es,k)) (e:=aE ab j) h2;simp only at g1 g2 g3;refine .inr ⟨_,rfl,?_,?_,?_⟩
   ·simp only[p18Pl,Aa,Ab,Al];exact⟨⟨⟨⟨⟨⟨⟨⟨⟨⟨⟨⟨⟨⟨trivial,g1⟩,trivial⟩,trivial⟩,trivial⟩,by omega⟩,by omega⟩,h8⟩,by omega⟩,h10⟩,h11⟩,h12⟩,trivial⟩,h14⟩,h15⟩
   ·simp only[m18Pl];omega
   ·rw[hr',Db h6 hi];rfl
  ·rw[q18Pl,Aj hi];rw[AG (by omega)] at hr';exact .inl (by rw[hr'];rfl)
 ·cases hp
noncomputable def R57:CO:=R56.C8 33 18 [4,7,8,9,10,15,57,58,59,74,75,76] [false,false,false,false,false,false,false,false,true,true,true,false] EZ p18Pl f18Pl
theorem okR57:Ck Try.prog R57.env:=
 okR56.C8 (n:=60) Try.func33 (show Try.f33.body=some (DL Try.f33) by kernel_rfl) (show (loops (DL Try.f33)).filter (fun b=>Ed b==18)=[CZ Try.f33 18] by kernel_rfl) [4,7,8,9,10,15,57,58,59,74,75,76] [4,7,8,9,10,57,58,59] [false,false,false,false,false,false,false,false,true,true,true,false] EZ m18Pl s18Pl
def GH:S1:=⟨116,[(4,.ptr 2 1 0 0),(7,.CQ 49),(8,.mp 4),(9,.sl 5),(10,.ptr 6 1 0 0),(57,.CQ 49),(58,C4),(59,C4)],
 [.one 30 3 aS,.one 30 3 aS,.one 30 3 aS,.map 30 4,.map 30 78,.many 78 5,.Gl 78 5 (.agg [C4,C4,C4,.CQ 3,C4]),.dead]⟩
abbrev l14Pl (f:Bool) (us:List PV) (n k:Nat) (f2:Bool) (us2:List PV) (len i p0 p1 p2:Int) (q0 q1 q2:Int) (s0 s1 s2:Int) (D0 D:List (PV × PV)) (nl:Bool) (es:List PV) (x y z:Int) (rf:Bool) (rp:List PV) (rc:Int):LS:=
 ([.l f us,.n n,.n k,.l f2 us2,.i len,.i i],[.i p0,.i p1,.i p2,.i q0,.i q1,.i q2,.i s0,.i s1,.i s2,.m D0,.m D,.l nl es,.i x,.i y,.i z,.l rf rp,.i rc])
noncomputable abbrev x14Pl (f:Bool) (us:List PV) (n k:Nat) (p0 p1 p2:Int) (q0 q1 q2:Int) (s0 s1 s2:Int) (D0 D:List (PV × PV)) (nl:Bool) (es:List PV) (x y z:Int) (rf:Bool) (rp:List PV) (rc:Int):PX × List PV × List Row:=
 (.exit 2,tm 116 [(4,.ptr 2 1 0 0),(7,.CQ f 49 us),(8,.mp 4),(9,.sl 5 n 0 k)],(GH.put (l14Pl f us n k false [] 0 0 p0 p1 p2 q0 q1 q2 s0 s1 s2 D0 D nl es x y z rf rp rc)).2)
theorem q14Pl (f:Bool) (us:List PV) (n k:Nat) (f2:Bool) (us2:List PV) (len i p0 p1 p2:Int) (q0 q1 q2:Int) (s0 s1 s2:Int) (D0 D:List (PV × PV)) (es:List PV) (x y z:Int) (rf:Bool) (rp:List PV) (rc:Int):
 CR Try.prog R57 60 33 (CZ Try.f33 14) [4,7,8,9,10,57,58,59] [4,7,8,9] (GH.put (l14Pl f us n k f2 us2 len i p0 p1 p2 q0 q1 q2 s0 s1 s2 D0 D false es x y z rf rp rc)).1 (GH.put (l14Pl f us n k f2 us2 len i p0 p1 p2 q0 q1 q2 s0 s1 s2 D0 D false es x y z rf rp rc)).2 =
 bif decide (i<len) then bif H8 us2 i then bif stB (wL (us2.getD i.toNat .any)) then
  bif p18Pl (I7 f us n k f2 us2 len i 2 2 2 0 p0 p1 p2 q0 q1 q2 s0 s1 s2 D0 D false es x y z rf rp rc (wI (us2.getD i.toNat .any)) false (wL (us2.getD i.toNat .any)) (wLv (us2.getD i.toNat .any)) (cS (us2.getD i.toNat .any) 3) (cS (us2.getD i.toNat .any) 4) (Lc (us2.getD i.toNat .any)) (cI (us2.getD i.toNat .any) 6) (cI (us2.getD i.toNat .any) 7)
    (gX (eF (us2.getD i.toNat .any))) (gY (eF (us2.getD i.toNat .any))) (gL (eF (us2.getD i.toNat .any))) (gX (eL (us2.getD i.toNat .any))) (gY (eL (us2.getD i.toNat .any))) (gL (eL (us2.getD i.toNat .any))) false (abL (us2.getD i.toNat .any))) then
   some (.normal,GH.put (l14Pl f us (G7 x y z D (rp++[iv (wI (us2.getD i.toNat .any))]) (rc+Df (wL (us2.getD i.toNat .any))) (es,k) ((abL (us2.getD i.toNat .any)).drop (0:Int).toNat)).1.length (G7 x y z D (rp++[iv (wI (us2.getD i.toNat .any))]) (rc+Df (wL (us2.getD i.toNat .any))) (es,k) ((abL (us2.getD i.toNat .any)).drop (0:Int).toNat)).2 f2 us2 len (W (i+1)) p0 p1 p2 q0 q1 q2 s0 s1 s2 D0 D false
    (G7 x y z D (rp++[iv (wI (us2.getD i.toNat .any))]) (rc+Df (wL (us2.getD i.toNat .any))) (es,k) ((abL (us2.getD i.toNat .any)).drop (0:Int).toNat)).1 x y z rf rp rc)) else none else none else none
 else some (x14Pl f us n k p0 p1 p2 q0 q1 q2 s0 s1 s2 D0 D false es x y z rf rp rc):=by kernel_rfl
def p14Pl:LS->Bool
 | ([.l _ _,.n n,.n k,.l _ us2,.i len,.i i],[.i _,.i _,.i _,.i _,.i _,.i _,.i _,.i _,.i _,.m _,.m _,.l nl es,.i _,.i _,.i _,.l _ rp,.i rc]) =>
  decide (n=es.length)&&decide (k<=es.length)&&decide (len=(us2.length:Int))&&decide (0<=i)&&decide (i<=(us2.length:Int))&&decide (us2.length<=100)&&decide ((es.length:Int)<=400000+2*i)&&(us2.all G8)&&decide (0<=rc)&&decide (rc<=1000000000000000000) && !nl&&decide (0<rp.length)&&decide (rp.length<=100000)
 | _=>false
noncomputable def f14Pl:LS->DT (PX × List PV × List Row)
 | ([.l f us,.n _,.n k,.l _ us2,.i _,.i i],[.i p0,.i p1,.i p2,.i q0,.i q1,.i q2,.i s0,.i s1,.i s2,.m D0,.m D,.l _ es,.i x,.i y,.i z,.l rf rp,.i rc]) =>
  .leaf (x14Pl f us (Dt x y z D rp rc (es,k) (us2.drop i.toNat)).1.length (Dt x y z D rp rc (es,k) (us2.drop i.toNat)).2 p0 p1 p2 q0 q1 q2 s0 s1 s2 D0 D false (Dt x y z D rp rc (es,k) (us2.drop i.toNat)).1 x y z rf rp rc)
 | _=>.no
def m14Pl:LS->Nat
 | ([.l _ _,.n _,.n _,.l _ _,.i len,.i i],_)=>(len-i).toNat
 | _=>0
theorem s14Pl:∀ s r,p14Pl s=true->(f14Pl s).run=some r->r.1 ≠ .normal/\(CR Try.prog R57 60 33 (CZ Try.f33 14) [4,7,8,9,10,57,58,59] [4,7,8,9] (GH.put s).1 (GH.put s).2=some r \/
   ∃ s',CR Try.prog R57 60 33 (CZ Try.f33 14) [4,7,8,9,10,57,58,59] [4,7,8,9] (GH.put s).1 (GH.put s).2=some (.normal,GH.put s')/\p14Pl s'=true/\m14Pl s'<m14Pl s/\(f14Pl s').run=some r):=by
 intro t r hp hr;unfold p14Pl at hp;split at hp
 ·rename_i f us n k f2 us2 len i p0 p1 p2 q0 q1 q2 s0 s1 s2 D0 D nl es x y z rf rp rc;simp only[Aa,Ab,Al] at hp;obtain⟨⟨⟨⟨⟨⟨⟨⟨⟨⟨⟨⟨rfl,h2⟩,rfl⟩,h4⟩,h5⟩,h6⟩,h7⟩,h8⟩,h9⟩,h10⟩,rfl⟩,h14⟩,h15⟩:=hp;have hr':=(Ah hr).symm;refine⟨by rw[hr'];simp,?_⟩;rw[show GH.put ([.l f us,.n es.length,.n k,.l f2 us2,.i (us2.length:Int),.i i],[.i p0,.i p1,.i p2,.i q0,.i q1,.i q2,.i s0,.i s1,.i s2,.m D0,.m D,.l false es,.i x,.i y,.i z,.l rf rp,.i rc]) =
   GH.put (l14Pl f us es.length k f2 us2 us2.length i p0 p1 p2 q0 q1 q2 s0 s1 s2 D0 D false es x y z rf rp rc) from rfl,q14Pl]
  by_cases hi:i<(us2.length:Int)
  ·have hu:=Ap.1 h8 _ (aE_mem h4 hi);have hu0:¬ (wL (us2.getD i.toNat .any)).length=0/\(wL (us2.getD i.toNat .any)).length<=1000:=by
    have:G8 (us2.getD i.toNat .any)=true:=hu;simp only[G8,Aa,Al,AQ,Ab] at this;exact this
   rw[Db h4 hi] at hr';generalize us2.getD i.toNat .any=e at *;have hp18:p18Pl (I7 f us es.length k f2 us2 us2.length i 2 2 2 0 p0 p1 p2 q0 q1 q2 s0 s1 s2 D0 D false es x y z rf rp rc (wI e) false (wL e) (wLv e) (cS e 3) (cS e 4) (Lc e) (cI e 6) (cI e 7) (gX (eF e)) (gY (eF e)) (gL (eF e)) (gX (eL e)) (gY (eL e)) (gL (eL e)) false (abL e))=true:=by
    simp only[p18Pl,Aa,Ab,Al,Ay,AC];exact⟨⟨⟨⟨⟨⟨⟨⟨⟨⟨⟨⟨⟨⟨trivial,h2⟩,trivial⟩,trivial⟩,by decide⟩,by decide⟩,by decide⟩,by decide⟩,by omega⟩,hu0.2⟩,h9⟩,h10⟩,trivial⟩,h14⟩,h15⟩
   rw[Ac hi,D1 h4 hi,Kw hu0.1 (by omega),hp18,Dc (n:=i+1) (by omega) (by omega),show (0:Int).toNat=0 from rfl,AM];obtain⟨g1,g2,g3⟩:=I5 (x:=x) (y:=y) (z:=z) (D:=D) (ps:=rp) (rc:=rc) (s:=(es,k)) (e:=e) h2;simp only at g1 g2 g3;refine .inr ⟨l14Pl f us (Ib x y z D rp rc (es,k) e).1.length (Ib x y z D rp rc (es,k) e).2 f2 us2 us2.length (i+1) p0 p1 p2 q0 q1 q2 s0 s1 s2 D0 D false (Ib x y z D rp rc (es,k) e).1 x y z rf rp rc,rfl,?_,?_,?_⟩
   ·simp only[p14Pl,Aa,Ab,Al];exact⟨⟨⟨⟨⟨⟨⟨⟨⟨⟨⟨⟨trivial,g1⟩,trivial⟩,by omega⟩,by omega⟩,h6⟩,by omega⟩,h8⟩,h9⟩,h10⟩,trivial⟩,h14⟩,h15⟩
   ·simp only[m14Pl];omega
   ·rw[hr'];rfl
  ·rw[Aj hi];rw[AG (by omega)] at hr';exact .inl (by rw[hr'];rfl)
 ·cases hp
noncomputable def R58:CO:=R57.C8 33 14 [4,7,8,9,10,57,58,59] [false,false,false,false,false,false,true,false] GH p14Pl f14Pl
theorem okR58:Ck Try.prog R58.env:=
 okR57.C8 (n:=60) Try.func33 (show Try.f33.body=some (DL Try.f33) by kernel_rfl) (show (loops (DL Try.f33)).filter (fun b=>Ed b==14)=[CZ Try.f33 14] by kernel_rfl) [4,7,8,9,10,57,58,59] [4,7,8,9] [false,false,false,false,false,false,true,false] GH m14Pl s14Pl
abbrev Dl (x y z c:Int):PV:=.agg [iv x,iv y,iv z,.val (.slice none 0 0),iv c]
abbrev rwnil (x y z c:Int):Row:={ es:=[Dl x y z c],s:=5,t:=78,bv:=false }
abbrev rwz:Row:={ es:=[IE],s:=5,t:=78,bv:=false }
theorem qDf0 (x y z c:Int):JV Try.prog R58 60 60 [.sl 0 1 0 1,.fn (.func 61) [] [.ptr 1 1 0 0]] [rwnil x y z c,rwnil x y z c] =
 bif eq3 x y z x y z then some (.sl 0 1 0 0,[rwz,rwnil x y z c]) else some (.sl 0 1 0 1,[rwnil x y z c,rwnil x y z c]):=by kernel_rfl
noncomputable def cDf0:List PV->List Row->Option (DT (PV × List Row))
 | [.sl 0 1 0 1,.fn (.func 61) [] [.ptr 1 1 0 0]],[⟨[.agg [.val (.int .i64 x),.val (.int .i64 y),.val (.int .i64 z),.val (.slice none 0 0),.val (.int .i64 c)]],5,78,false,true,false,none,false⟩,
   ⟨[.agg [.val (.int .i64 a),.val (.int .i64 b),.val (.int .i64 d),.val (.slice none 0 0),.val (.int .i64 e)]],5,78,false,true,false,none,false⟩] =>
  some (.br (dB (x=a/\y=b/\z=d/\c=e)) (.leaf (.sl 0 1 0 0,[rwz,rwnil x y z c])) .no)
 | _,_=>none
noncomputable def cDfB (ags:List PV) (H:List Row):Option (DT (PV × List Row)):=
 match H with
 | r::_=>(match r.bv with | true=>cDf ags H | false=>cDf0 ags H)
 | []=>none
theorem oDfB (args:List PV) (H:List Row) (d:DT (PV × List Row)) (q:PV) (H':List Row) (h:cDfB args H=some d) (hd:d.run=some (q,H')):ET Try.prog 0 60 args H q H':=by
 unfold cDfB at h;split at h
 ·split at h
  ·exact oDf args _ d q H' h hd
  ·unfold cDf0 at h;split at h
   ·rename_i x y z c a b d0 e heq;rw[heq];cases h;obtain⟨hc,he⟩:=FK hd;cases he;rw[D3] at hc;obtain⟨rfl,rfl,rfl,rfl⟩:=hc;refine (Dm okR58 ((qDf0 x y z c).trans ?_)).2;rw[show eq3 x y z x y z=true by simp[eq3]];rfl
   ·cases h
 ·cases h
noncomputable def R59:CO:=R58.ER 60 cDfB
theorem okR59:Ck Try.prog R59.env:=okR58.ER eDf oDfB
def sh6P:S1:=⟨116,[(4,.ptr 2 1 0 0),(7,.CQ 49),(8,.mp 4),(9,.sl 5)],
 [.one 30 3 aS,.one 30 3 aS,.one 30 3 aS,.map 30 4,.map 30 78,.many 78 5]⟩
abbrev l6P (f:Bool) (us:List PV) (n k:Nat) (p0 p1 p2:Int) (q0 q1 q2:Int) (s0 s1 s2:Int) (D0 D:List (PV × PV)) (nl:Bool) (es:List PV):LS:=
 ([.l f us,.n n,.n k],[.i p0,.i p1,.i p2,.i q0,.i q1,.i q2,.i s0,.i s1,.i s2,.m D0,.m D,.l nl es])
noncomputable abbrev x6P (p0 p1 p2:Int) (q0 q1 q2:Int) (s0 s1 s2:Int) (D0 D:List (PV × PV)):PX × List PV × List Row:=
 (.ret,tm 116 [(6,.mp 4)],(sh6P.put (l6P false [] 0 0 p0 p1 p2 q0 q1 q2 s0 s1 s2 D0 D true [])).2.take 5++[C6])
theorem q6P (f:Bool) (us:List PV) (n k:Nat) (p0 p1 p2:Int) (q0 q1 q2:Int) (s0 s1 s2:Int) (D0 D:List (PV × PV)) (es:List PV):
 CR Try.prog R59 60 33 (CZ Try.f33 6) [4,7,8,9] [6] (sh6P.put (l6P f us n k p0 p1 p2 q0 q1 q2 s0 s1 s2 D0 D false es)).1 (sh6P.put (l6P f us n k p0 p1 p2 q0 q1 q2 s0 s1 s2 D0 D false es)).2 =
 J0 es n (bif decide (n=es.length)&&decide (k<=es.length)&&decide (k<=1000000)&&(es.take k).all JB then
  bif !decide ((k:Int) > 0) then some (x6P p0 p1 p2 q0 q1 q2 s0 s1 s2 D0 D) else
  J0 es n (bif decide (n=es.length)&&decide (k<=es.length)&&decide (es.length<=1000000)&&ED nER es then
   bif DA D (Dy (gX (CW es k)) (gY (CW es k)) (gL (CW es k))) then some (.normal,sh6P.put (l6P f us n (Md es k).length p0 p1 p2 q0 q1 q2 s0 s1 s2 D0 D false (Nh es k))) else
   bif p14Pl (l14Pl f us n (Md es k).length f us us.length 0 p0 p1 p2 q0 q1 q2 s0 s1 s2 D0 (Ej D (Dy (gX (CW es k)) (gY (CW es k)) (gL (CW es k))) (G6 (CW es k))) false (Nh es k) (gX (CW es k)) (gY (CW es k)) (gL (CW es k)) false (rP (CW es k)) (rC (CW es k))) then
    some (.normal,sh6P.put (l6P f us (wjE us D es k).1.length (wjE us D es k).2 p0 p1 p2 q0 q1 q2 s0 s1 s2 D0 (Ej D (Dy (gX (CW es k)) (gY (CW es k)) (gL (CW es k))) (G6 (CW es k))) false (wjE us D es k).1)) else none
  else none) else none):=by kernel_rfl
def sh6FP:S1:=⟨116,[(4,.ptr 2 1 0 0),(7,.CQ 49),(8,.mp 4),(9,.sl 5)],
 [.one 30 3 aS,.one 30 3 aS,.one 30 3 aS,.map 30 4,.map 30 78,.Gl 78 5 (.agg [C4,C4,C4,.nil,C4])]⟩
abbrev l6FP (f:Bool) (us:List PV) (n k:Nat) (p0 p1 p2:Int) (q0 q1 q2:Int) (s0 s1 s2:Int) (D0 D:List (PV × PV)) (x y z c:Int):LS:=
 ([.l f us,.n n,.n k],[.i p0,.i p1,.i p2,.i q0,.i q1,.i q2,.i s0,.i s1,.i s2,.m D0,.m D,.i x,.i y,.i z,.i c])
theorem q6FP (f:Bool) (us:List PV) (p0 p1 p2:Int) (q0 q1 q2:Int) (s0 s1 s2:Int) (D0:List (PV × PV)) (x y z c:Int):
 CR Try.prog R59 60 33 (CZ Try.f33 6) [4,7,8,9] [6] (sh6FP.put (l6FP f us 1 1 p0 p1 p2 q0 q1 q2 s0 s1 s2 D0 [] x y z c)).1 (sh6FP.put (l6FP f us 1 1 p0 p1 p2 q0 q1 q2 s0 s1 s2 D0 [] x y z c)).2 =
 bif dB (x=x/\y=y/\z=z/\c=c) then
  bif p14Pn (l14Pn f us 1 0 f us us.length 0 p0 p1 p2 q0 q1 q2 s0 s1 s2 D0 [(Dy x y z,Dl x y z c)] false [IE] x y z c) then
   some (.normal,sh6P.put (l6P f us (Dt x y z [(Dy x y z,Dl x y z c)] [] c ([IE],0) (us.drop (0:Int).toNat)).1.length (Dt x y z [(Dy x y z,Dl x y z c)] [] c ([IE],0) (us.drop (0:Int).toNat)).2 p0 p1 p2 q0 q1 q2 s0 s1 s2 D0 [(Dy x y z,Dl x y z c)] false (Dt x y z [(Dy x y z,Dl x y z c)] [] c ([IE],0) (us.drop (0:Int).toNat)).1)) else none
 else none:=by kernel_rfl
abbrev FG (t:T3):PV:=Dy t.1 t.2.1 t.2.2
def JD (e:PV):Rc:=(EN e,(rC e,Dh (rP e)))
def E7 (r:Rc):PV:=GW r.1.1 r.1.2.1 r.1.2.2 false (r.2.2.map iv) r.2.1
theorem dec_encN (r:Rc):JD (E7 r)=r:=by
 show (r.1,(r.2.1,Dh (r.2.2.map iv)))=r
 rw[ids_iv]
theorem ltE_enc (a b:Rc):ltE (E7 a) (E7 b)=decide (kLt a.2 b.2):=by
 unfold ltE;rw[Cz];show kcmp a.2.1 (a.2.2.map iv) b.2.1 (b.2.2.map iv)<0 ↔ _
 rw[kcmp_neg,ids_iv,ids_iv]
theorem lsE_enc:∀ (N:List Rc) (b:Rc),lsE false (E7 b) (N.map E7)=E7 (DC b N)
 | [],_=>rfl
 | x::N,b=>by
  rw[AZ,lsE,At,ltE_enc,DC];cases decide (kLt x.2 b.2) with
  | true=>exact lsE_enc N x
  | false=>exact lsE_enc N b
theorem bst_enc (n:Rc) (N:List Rc) (z:PV):lsE true z ((n::N).map E7)=E7 (DC n N):=by
 rw[AZ,lsE,Am];exact lsE_enc N n
theorem eqT_enc (t:T3) (r:Rc):H9 t.1 t.2.1 t.2.2 (E7 r)=decide (r.1=t):=by
 cases h:H9 t.1 t.2.1 t.2.2 (E7 r) with
 | true=>have:=eqS_iff.1 h;exact (Ac this).symm
 | false =>
  refine (Aj fun e => ?_).symm;rw[show H9 t.1 t.2.1 t.2.2 (E7 r)=true from eqS_iff.2 e] at h;cases h
theorem keep_enc (t:T3):∀ N:List Rc,CU (H9 t.1 t.2.1 t.2.2) (N.map E7)=(F3 t N).map E7
 | []=>rfl
 | x::N=>by
  have ih:=keep_enc t N;show List.filter _ (E7 x::N.map E7)=_
  rw[B3,eqT_enc];show _=(List.filter _ (x::N)).map E7
  rw[B3];cases decide (x.1=t) with
  | true=>exact ih
  | false =>
   show E7 x::CU _ (N.map E7)=E7 x::(F3 t N).map E7
   rw[ih]
def encV (r:Rc):PV:=if r.2.2=[] then Dl r.1.1 r.1.2.1 r.1.2.2 r.2.1 else E7 r
def Fy (r:Rc):PV × PV:=(FG r.1,encV r)
theorem Ir {s t:T3}:ID (FG s) (FG t)=decide (s=t):=by
 cases h:ID (FG s) (FG t) with
 | true =>
  rw[keq_stv] at h;exact (Ac (Prod.ext h.1 (Prod.ext h.2.1 h.2.2))).symm
 | false =>
  refine (Aj fun e => ?_).symm;subst e;rw[show ID (FG s) (FG s)=true from keq_stv.2 ⟨rfl,rfl,rfl⟩] at h;cases h
theorem KC (t:T3):∀ D:List Rc,DA (D.map Fy) (FG t)=decide (t ∈ D.map (·.1))
 | []=>by simp[DA]
 | x::D=>by
  show (ID (FG t) (FG x.1)||DA (D.map Fy) (FG t))=_
  rw[Ir,KC t D];by_cases h:t=x.1
  ·rw[Ac h,Ac (show t ∈ (x::D).map (·.1) by rw[h];simp)];rfl
  ·rw[Aj h,By,Cz];simp only[AZ,AK,h,Dk]
theorem mput_enc {t:T3} {v:PV}:∀ {D:List Rc},t ∉ D.map (·.1)->Ej (D.map Fy) (FG t) v=D.map Fy++[(FG t,v)]
 | [],_=>rfl
 | x::D,h=>by
  simp only[AZ,AK,not_or] at h;show (bif ID (FG t) (FG x.1) then _ else (FG x.1,encV x)::Ej (D.map Fy) (FG t) v)=_
  rw[Ir,Aj h.1,At,mput_enc h.2];rfl
def nxA (x y z:Int) (D:List (PV × PV)) (ps:List PV) (c:Int) (a:PV):List PV:=bif cdJ a x y z D then [elZ a ps c] else []
def nxW (x y z:Int) (D:List (PV × PV)) (ps:List PV) (rc:Int) (e:PV):List PV:=(abL e).flatMap (nxA x y z D (ps++[iv (wI e)]) (rc+Df (wL e)))
theorem stJ_take {x y z:Int} {D:List (PV × PV)} {ps:List PV} {c:Int} {s:List PV × Nat} {e:PV} (h:s.2<=s.1.length):(Jd x y z D ps c s e).1.take (Jd x y z D ps c s e).2=s.1.take s.2++nxA x y z D ps c e:=by
 unfold Jd nxA;cases cdJ e x y z D with
 | false=>show s.1.take s.2=_++[];rw[BW]
 | true=>exact apS_take h
theorem wayJ_take {x y z:Int} {D:List (PV × PV)} {ps:List PV} {rc:Int} {s:List PV × Nat} {e:PV} (h:s.2<=s.1.length):(Ib x y z D ps rc s e).1.take (Ib x y z D ps rc s e).2=s.1.take s.2++nxW x y z D ps rc e:=by
 have a:=JC (x:=x) (y:=y) (z:=z) (D:=D) (ps:=ps++[iv (wI e)]) (c:=rc+Df (wL e)) (s:=s) (e:=ab1 (eF e) (eL e)) h;show (Jd x y z D _ _ (Jd x y z D _ _ s _) _).1.take (Jd x y z D _ _ (Jd x y z D _ _ s _) _).2=_
 rw[stJ_take a.1,stJ_take h,BG];show _=_++(nxA _ _ _ _ _ _ _++(nxA _ _ _ _ _ _ _++[]))
 rw[BW]
theorem wayJs_len {x y z:Int} {D:List (PV × PV)} {ps:List PV} {rc:Int}:∀ {l:List PV} {s:List PV × Nat},s.2<=s.1.length->(Dt x y z D ps rc s l).2<=(Dt x y z D ps rc s l).1.length/\(Dt x y z D ps rc s l).1.length<=s.1.length+2*l.length
 | [],s,h=>⟨h,by simp[Dt]⟩
 | e::l,s,h=>by
  obtain⟨a1,a2,a3⟩:=I5 (x:=x) (y:=y) (z:=z) (D:=D) (ps:=ps) (rc:=rc) (s:=s) (e:=e) h;obtain⟨b1,b2⟩:=wayJs_len (l:=l) a1;refine⟨b1,?_⟩;show (Dt x y z D ps rc (Ib x y z D ps rc s e) l).1.length<=_
  simp only[Ay];omega
theorem Me {x y z:Int} {D:List (PV × PV)} {ps:List PV} {rc:Int}:∀ {l:List PV} {s:List PV × Nat},s.2<=s.1.length->(Dt x y z D ps rc s l).1.take (Dt x y z D ps rc s l).2=s.1.take s.2++l.flatMap (nxW x y z D ps rc)
 | [],s,_=>by show s.1.take s.2=_++[];rw[BW]
 | e::l,s,h=>by
  obtain⟨a1,_,_⟩:=I5 (x:=x) (y:=y) (z:=z) (D:=D) (ps:=ps) (rc:=rc) (s:=s) (e:=e) h;show (Dt x y z D ps rc (Ib x y z D ps rc s e) l).1.take (Dt x y z D ps rc (Ib x y z D ps rc s e) l).2=_
  rw[Me a1,wayJ_take h,BG,CN]
theorem apS_norm {es:List PV} {k:Nat} {z:PV} (h:Em nER es) (hz:nER z=z):Em nER (apS es k z):=fun e he=>by
 rcases A5.1 he with he | he
 ·exact h e (BQ he)
 ·rcases AK.1 he with rfl | he
  ·exact hz
  ·exact h e (BI he)
theorem stJ_norm {x y z:Int} {D:List (PV × PV)} {ps:List PV} {c:Int} {s:List PV × Nat} {e:PV} (h:Em nER s.1):Em nER (Jd x y z D ps c s e).1:=by
 unfold Jd;cases cdJ e x y z D with
 | false=>exact h
 | true=>exact apS_norm h rfl
theorem Mf {x y z:Int} {D:List (PV × PV)} {ps:List PV} {rc:Int}:∀ {l:List PV} {s:List PV × Nat},Em nER s.1->Em nER (Dt x y z D ps rc s l).1
 | [],_,h=>h
 | _::l,_,h=>Mf (l:=l) (stJ_norm (stJ_norm h))
theorem after_norm {d:PV->Bool} {es:List PV} {k:Nat} (h:Em nER es):Em nER (Fx d IE es k):=fun e he=>by
 unfold Fx at he;rcases A5.1 he with he | he
 ·rcases A5.1 he with he | he
  ·unfold CU at he;exact h e (BQ (Bf.1 he).1)
  ·rw[(List.mem_replicate.1 he).2];rfl
 ·exact h e (BI he)
theorem after_take {d:PV->Bool} {z:PV} {es:List PV} {k:Nat}:(Fx d z es k).take (CU d (es.take k)).length=CU d (es.take k):=by
 unfold Fx;rw[BG,List.take_left'];rfl
theorem cdJ_enc {t:T3} {D:List Rc} (a b:PV):cdJ (ab1 a b) t.1 t.2.1 t.2.2 (D.map Fy)=(decide (EN a=t) && !decide (EN b ∈ D.map (·.1))):=by
 unfold cdJ;rw[<- KC];congr 1
 show eq3 (gX a) (gY a) (gL a) t.1 t.2.1 t.2.2=_
 cases h:eq3 (gX a) (gY a) (gL a) t.1 t.2.1 t.2.2 with
 | true =>
  simp only[eq3,BD,Aa,Aw] at h;exact (Ac (Prod.ext h.1.1 (Prod.ext h.1.2 h.2))).symm
 | false =>
  refine (Aj fun e => ?_).symm;have h1:gX a=t.1:=congrArg (·.1) e;have h2:gY a=t.2.1:=congrArg (·.2.1) e;have h3:gL a=t.2.2:=congrArg (·.2.2) e;rw[h1,h2,h3] at h;simp[eq3] at h
def nx1 (D:List Rc) (r:Rc) (g:Eg):Option Rc:=if g.1=r.1/\g.2.1 ∉ D.map (·.1) then some (g.2.1,kAdd r.2 g.2.2.1 g.2.2.2) else none
theorem nxA_enc {D:List Rc} {r:Rc} (a b:PV) (id w:Int):nxA r.1.1 r.1.2.1 r.1.2.2 (D.map Fy) (r.2.2.map iv++[iv id]) (r.2.1+w) (ab1 a b)=((nx1 D r (EN a,EN b,id,w)).toList).map E7:=by
 unfold nxA nx1;rw[cdJ_enc];by_cases h1:EN a=r.1
 ·by_cases h2:EN b ∈ D.map (·.1)
  ·rw[Ac h1,Ac h2,An (fun h=>h.2 h2)];rfl
  ·rw[Ac h1,Aj h2,Ai ⟨h1,h2⟩];show [elZ (ab1 a b) (r.2.2.map iv++[iv id]) (r.2.1+w)]=[E7 (EN b,kAdd r.2 id w)]
   have:r.2.2.map iv++[iv id]=(r.2.2++[id]).map iv:=by simp
   rw[this];rfl
 ·rw[Aj h1,An (fun h=>h1 h.1)];rfl
theorem nxW_enc {D:List Rc} {r:Rc} (e:PV):nxW r.1.1 r.1.2.1 r.1.2.2 (D.map Fy) (r.2.2.map iv) r.2.1 e=(Hb (eE e) D r).map E7:=by
 show nxA _ _ _ _ _ _ (ab1 (eF e) (eL e))++(nxA _ _ _ _ _ _ (ab1 (eL e) (eF e))++[])=((eE e).filterMap (nx1 D r)).map E7
 rw[nxA_enc,nxA_enc,BW];unfold eE;rw[List.filterMap_cons,List.filterMap_cons,List.filterMap_nil];cases nx1 D r (EN (eF e),EN (eL e),wI e,Df (wL e)) <;> cases nx1 D r (EN (eL e),EN (eF e),wI e,Df (wL e)) <;> rfl
theorem nxs_enc {D:List Rc} {r:Rc}:∀ us:List PV,us.flatMap (nxW r.1.1 r.1.2.1 r.1.2.2 (D.map Fy) (r.2.2.map iv) r.2.1)=(Hb (us.flatMap eE) D r).map E7
 | []=>rfl
 | e::us=>by
  rw[CN,CN,nxW_enc,nxs_enc us];show _=((eE e++us.flatMap eE).filterMap (nx1 D r)).map E7
  rw[List.filterMap_append,BB];rfl
def Ep (x:PV × PV):Rc:=(EN x.1,(rC x.2,Dh (rP x.2)))
theorem dec_encD (r:Rc):Ep (Fy r)=r:=by
 unfold Ep Fy encV;split
 ·rename_i h;show (r.1,(r.2.1,([]:List Int)))=r
  rw[<- h]
 ·show (r.1,(r.2.1,Dh (r.2.2.map iv)))=r
  rw[ids_iv]
theorem JE (D:List Rc):(D.map Fy).map Ep=D:=by
 rw[Cb,show Ep ∘ Fy=id from funext dec_encD,List.map_id]
theorem JF (N:List Rc):(N.map E7).map JD=N:=by
 rw[Cb,show JD ∘ E7=id from funext dec_encN,List.map_id]
abbrev gU (us:List PV):List Eg:=us.flatMap eE
abbrev sgU (us:List PV) (s:T3):List T3:=s::(gU us).map (·.2.1)
abbrev kU:Int:=3037000499000
theorem gU_len:∀ us:List PV,(gU us).length=2*us.length
 | []=>rfl
 | e::us=>by
  have ih:=gU_len us;show (eE e++gU us).length=_
  rw[Ar,ih];show 2+2*us.length=2*(us.length+1)
  omega
theorem I8 {us:List PV} (s:T3) (h:us.all G8=true):GOk (gU us) (sgU us s) kU where
 k0:=by decide
 nn e he:=by
  obtain⟨w,hw,he⟩:=List.mem_flatMap.1 he;have hu:=Ap.1 h w hw;simp only[G8,Aa,Ab] at hu;have:=GX hu.2;rcases AK.1 he with rfl | he
  ·exact this
  ·rw[AF.1 he];exact this
 to e he:=AU _ (Bp he)
structure P6 (us:List PV) (s:T3) (D:List (PV × PV)) (es:List PV) (k:Nat):Prop where
 use:us.all G8=true
 few:us.length<=100
 hk:k<=es.length
 norm:Em nER es
 take:es.take k=((es.take k).map JD).map E7
 dD:D=(D.map Ep).map Fy
 dij:JA (gU us) s (sgU us s) kU (D.map Ep) ((es.take k).map JD)
 ne:∀ x ∈ (es.take k).map JD,x.2.2 ≠ []
 len:es.length<=1+200*D.length
abbrev muU (us:List PV) (s:T3) (D:List (PV × PV)) (es:List PV) (k:Nat):Nat:=mu (gU us) (sgU us s) (D.map Ep) ((es.take k).map JD)
abbrev JX (us:List PV) (s:T3) (D:List (PV × PV)) (es:List PV) (k:Nat):List (PV × PV):=(IA (gU us) (muU us s D es k+1) (D.map Ep) ((es.take k).map JD)).map Fy
theorem P6.caps {us:List PV} {s:T3} {D:List (PV × PV)} {es:List PV} {k:Nat} (h:P6 us s D es k):D.length<=201/\es.length<=40201:=by
 have h1:=h.dij.cap;have h2:=gU_len us;have h3:=h.few;have h4:=h.len;simp only[A1,Ay] at h1;omega
theorem P6.nil {us:List PV} {s:T3} {D:List (PV × PV)} {es:List PV} (h:P6 us s D es 0):JX us s D es 0=D:=by
 unfold JX;rw[List.take_zero,Bu,IA];exact h.dD.symm
theorem P6.cons {us:List PV} {s:T3} {D:List (PV × PV)} {es:List PV} {k:Nat} (h:P6 us s D es k) (hk:0<k):∃ n N,es.take k=(n::N).map E7/\(es.take k).map JD=n::N:=by
 cases hN:(es.take k).map JD with
 | nil =>
  have:=congrArg List.length hN;rw[A1,Az,AC] at this;have:=h.hk;omega
 | cons n N=>exact⟨n,N,by rw[h.take,hN],rfl⟩
theorem P6.known {us:List PV} {s:T3} {D:List (PV × PV)} {es:List PV} {k:Nat} (h:P6 us s D es k) (hk:0<k) (hm:DA D (Dy (gX (CW es k)) (gY (CW es k)) (gL (CW es k)))=true):
  P6 us s D (Nh es k) (Md es k).length/\muU us s D (Nh es k) (Md es k).length<muU us s D es k/\JX us s D (Nh es k) (Md es k).length=JX us s D es k:=by
 obtain⟨n,N,h1,h2⟩:=h.cons hk;obtain⟨m1,m2⟩:=GF (N:=N) (b:=n);have hb:CW es k=E7 (DC n N):=by show lsE true _ (es.take k)=_;rw[h1];exact bst_enc n N _
 have hkp:Md es k=(F3 (DC n N).1 (n::N)).map E7:=by
  show CU (H9 (gX (CW es k)) (gY (CW es k)) (gL (CW es k))) (es.take k)=_
  rw[hb,h1];exact keep_enc (DC n N).1 (n::N)
 rw[hb,h.dD] at hm;have hm':(DC n N).1 ∈ (D.map Ep).map (·.1):=AS ((KC (DC n N).1 (D.map Ep)).symm.trans hm);have hd:=h.dij;rw[h2] at hd;obtain⟨g1,g2⟩:=hd.known m1 hm';have htk:(Nh es k).take (Md es k).length=Md es k:=after_take;have hdec:((Nh es k).take (Md es k).length).map JD=F3 (DC n N).1 (n::N):=by rw[htk,hkp,JF]
 have hlen:(Nh es k).length=es.length:=HV h.hk;have hle:(Md es k).length<=k:=by
  have:=Eb (d:=H9 (gX (CW es k)) (gY (CW es k)) (gL (CW es k))) (es.take k);rw[Az] at this;show (CU _ (es.take k)).length<=k
  omega
 refine⟨⟨h.use,h.few,by rw[hlen];have:=h.hk;omega,after_norm h.norm,by rw[hdec,htk,hkp],h.dD,by rw[hdec];exact g1,fun x hx => ?_,by rw[hlen];exact h.len⟩,?_,?_⟩
 ·rw[hdec] at hx;exact h.ne x (by rw[h2];exact (Bf.1 hx).1)
 ·unfold muU;rw[hdec,h2];exact g2
 ·unfold JX;rw[hdec];have e1:IA (gU us) (muU us s D es k+1) (D.map Ep) ((es.take k).map JD)=IA (gU us) (muU us s D es k) (D.map Ep) (F3 (DC n N).1 (n::N)):=by
   rw[h2,IA,Ac hm',Am]
  rw[e1];congr 1
  refine I4 (I8 s h.use) g1 ?_ ?_
  ·unfold muU;rw[hdec];omega
  ·unfold muU;rw[h2];exact g2
theorem P6.take' {us:List PV} {s:T3} {D:List (PV × PV)} {es:List PV} {k:Nat} (h:P6 us s D es k) (hk:0<k) (hm:DA D (Dy (gX (CW es k)) (gY (CW es k)) (gL (CW es k)))=false):
  P6 us s (Ej D (Dy (gX (CW es k)) (gY (CW es k)) (gL (CW es k))) (G6 (CW es k))) (wjE us D es k).1 (wjE us D es k).2 /\
  muU us s (Ej D (Dy (gX (CW es k)) (gY (CW es k)) (gL (CW es k))) (G6 (CW es k))) (wjE us D es k).1 (wjE us D es k).2<muU us s D es k /\
  JX us s (Ej D (Dy (gX (CW es k)) (gY (CW es k)) (gL (CW es k))) (G6 (CW es k))) (wjE us D es k).1 (wjE us D es k).2=JX us s D es k /\
  (0<=rC (CW es k)/\rC (CW es k)<=1000000000000000000/\0<(rP (CW es k)).length/\(rP (CW es k)).length<=100000):=by
 obtain⟨n,N,h1,h2⟩:=h.cons hk;obtain⟨m1,m2⟩:=GF (N:=N) (b:=n);have hb:CW es k=E7 (DC n N):=by show lsE true _ (es.take k)=_;rw[h1];exact bst_enc n N _
 have hkp:Md es k=(F3 (DC n N).1 (n::N)).map E7:=by
  show CU (H9 (gX (CW es k)) (gY (CW es k)) (gL (CW es k))) (es.take k)=_
  rw[hb,h1];exact keep_enc (DC n N).1 (n::N)
 have hm0:=hm;rw[hb,h.dD] at hm0;have hm':(DC n N).1 ∉ (D.map Ep).map (·.1):=of_decide_eq_false ((KC (DC n N).1 (D.map Ep)).symm.trans hm0);have hd:=h.dij;rw[h2] at hd;obtain⟨g1,g2⟩:=hd.take (I8 s h.use) m1 m2 hm';have hne:(DC n N).2.2 ≠ []:=h.ne _ (by rw[h2];exact m1);have hput:Ej D (Dy (gX (CW es k)) (gY (CW es k)) (gL (CW es k))) (G6 (CW es k))=(D.map Ep++[DC n N]).map Fy:=by
  rw[hb];have:=mput_enc (v:=E7 (DC n N)) hm';rw[<- h.dD] at this;refine this.trans ?_;rw[BB,<- h.dD];show _=D++[Fy (DC n N)]
  unfold Fy encV;rw[An hne]
 have hw:wjE us D es k=Dt (DC n N).1.1 (DC n N).1.2.1 (DC n N).1.2.2 ((D.map Ep++[DC n N]).map Fy) ((DC n N).2.2.map iv) (DC n N).2.1 (Nh es k,(Md es k).length) us:=by
  show Dt (gX (CW es k)) (gY (CW es k)) (gL (CW es k)) (Ej D (Dy (gX (CW es k)) (gY (CW es k)) (gL (CW es k))) (G6 (CW es k))) (rP (CW es k)) (rC (CW es k)) (Nh es k,(Md es k).length) (us.drop 0)=_
  rw[hput,hb,AM];rfl
 have htk:(Nh es k).take (Md es k).length=Md es k:=after_take;have hlen:(Nh es k).length=es.length:=HV h.hk;have hle:(Md es k).length<=k:=by
  have:=Eb (d:=H9 (gX (CW es k)) (gY (CW es k)) (gL (CW es k))) (es.take k);rw[Az] at this;show (CU _ (es.take k)).length<=k
  omega
 have hle2:(Md es k).length<=(Nh es k).length:=by rw[hlen];have:=h.hk;omega
 obtain⟨l1,l2⟩:=wayJs_len (x:=(DC n N).1.1) (y:=(DC n N).1.2.1) (z:=(DC n N).1.2.2) (D:=(D.map Ep++[DC n N]).map Fy) (ps:=(DC n N).2.2.map iv) (rc:=(DC n N).2.1) (l:=us) (s:=(Nh es k,(Md es k).length)) hle2;have hnt:(wjE us D es k).1.take (wjE us D es k).2=(F3 (DC n N).1 (n::N)++Hb (gU us) (D.map Ep++[DC n N]) (DC n N)).map E7:=by
  rw[hw,Me hle2,nxs_enc,BB];show (Nh es k).take (Md es k).length++_=_
  rw[htk,hkp]
 have hdec:((wjE us D es k).1.take (wjE us D es k).2).map JD=F3 (DC n N).1 (n::N)++Hb (gU us) (D.map Ep++[DC n N]) (DC n N):=by rw[hnt,JF]
 have hdD:(Ej D (Dy (gX (CW es k)) (gY (CW es k)) (gL (CW es k))) (G6 (CW es k))).map Ep=D.map Ep++[DC n N]:=by rw[hput,JE]
 have hcap:=h.caps;have hbn:=hd.bN _ m1;have hc0:=(hd.wN _ m1).cost (I8 s h.use).Kz;refine⟨⟨h.use,h.few,by rw[hw];exact l1,by rw[hw];exact Mf (after_norm h.norm),by rw[hdec,hnt],by rw[hdD,hput],by rw[hdD,hdec];exact g1,fun x hx => ?_,?_⟩,?_,?_,?_⟩
 ·rw[hdec] at hx;rcases A5.1 hx with hx | hx
  ·exact h.ne x (by rw[h2];exact (Bf.1 hx).1)
  ·obtain⟨e,he,-,rfl⟩:=next_of hx;simp
 ·rw[hput,hw];have h4:=h.len;have h5:=h.few;have l3:(Dt (DC n N).1.1 (DC n N).1.2.1 (DC n N).1.2.2 ((D.map Ep++[DC n N]).map Fy) ((DC n N).2.2.map iv) (DC n N).2.1 (Nh es k,(Md es k).length) us).1.length<=es.length+2*us.length:=by rw[<- hlen];exact l2
  have l4:((D.map Ep++[DC n N]).map Fy).length=D.length+1:=by simp
  rw[l4];omega
 ·unfold muU;rw[hdD,hdec,h2];exact g2
 ·unfold JX;rw[hdD,hdec];have e1:IA (gU us) (muU us s D es k+1) (D.map Ep) ((es.take k).map JD)=IA (gU us) (muU us s D es k) (D.map Ep++[DC n N]) (F3 (DC n N).1 (n::N)++Hb (gU us) (D.map Ep++[DC n N]) (DC n N)):=by
   rw[h2,IA,Aj hm',At]
  rw[e1];congr 1
  refine I4 (I8 s h.use) g1 ?_ ?_
  ·unfold muU;rw[hdD,hdec];omega
  ·unfold muU;rw[h2];exact g2
 ·rw[hb];show 0<=(DC n N).2.1/\(DC n N).2.1<=_/\0<((DC n N).2.2.map iv).length/\((DC n N).2.2.map iv).length<=100000
  rw[A1];rw[A1] at hbn;have:0<(DC n N).2.2.length:=List.length_pos_iff.2 hne;refine⟨hc0,?_,this,by omega⟩;have:kU*(D.length:Int)<=kU*201:=Int.mul_le_mul_of_nonneg_left (by omega) (by decide);have:kU*201=610437100299000:=by decide
  omega
abbrev endA (us:List PV) (s:T3):List (PV × PV):=(dijA (gU us) (sgU us s) s).map Fy
abbrev muA (us:List PV) (s:T3):Nat:=mu (gU us) (sgU us s) [] [(s,(0,[]))]
theorem P6.first {us:List PV} {x y z:Int} (hu:us.all G8=true) (hf:us.length<=100):
  P6 us (x,y,z) [(Dy x y z,Dl x y z 0)] (Dt x y z [(Dy x y z,Dl x y z 0)] [] 0 ([IE],0) us).1 (Dt x y z [(Dy x y z,Dl x y z 0)] [] 0 ([IE],0) us).2 /\
  muU us (x,y,z) [(Dy x y z,Dl x y z 0)] (Dt x y z [(Dy x y z,Dl x y z 0)] [] 0 ([IE],0) us).1 (Dt x y z [(Dy x y z,Dl x y z 0)] [] 0 ([IE],0) us).2<muA us (x,y,z) /\
  JX us (x,y,z) [(Dy x y z,Dl x y z 0)] (Dt x y z [(Dy x y z,Dl x y z 0)] [] 0 ([IE],0) us).1 (Dt x y z [(Dy x y z,Dl x y z 0)] [] 0 ([IE],0) us).2=endA us (x,y,z):=by
 have hD:[(Dy x y z,Dl x y z 0)]=([((x,y,z),((0:Int),([]:List Int)))]:List Rc).map Fy:=rfl;have h0:(0:Nat)<=([IE]:List PV).length:=A4 _;obtain⟨l1,l2⟩:=wayJs_len (x:=x) (y:=y) (z:=z) (D:=[(Dy x y z,Dl x y z 0)]) (ps:=[]) (rc:=0) (l:=us) (s:=([IE],0)) h0;have hnt:(Dt x y z [(Dy x y z,Dl x y z 0)] [] 0 ([IE],0) us).1.take (Dt x y z [(Dy x y z,Dl x y z 0)] [] 0 ([IE],0) us).2=(Hb (gU us) [((x,y,z),(0,[]))] ((x,y,z),(0,[]))).map E7:=by
  rw[Me h0];show []++_=_
  rw[BM];exact nxs_enc (D:=[((x,y,z),(0,[]))]) (r:=((x,y,z),(0,[]))) us
 have hdec:((Dt x y z [(Dy x y z,Dl x y z 0)] [] 0 ([IE],0) us).1.take (Dt x y z [(Dy x y z,Dl x y z 0)] [] 0 ([IE],0) us).2).map JD=Hb (gU us) [((x,y,z),(0,[]))] ((x,y,z),(0,[])):=by rw[hnt,JF]
 have hdD:([(Dy x y z,Dl x y z 0)]:List (PV × PV)).map Ep=[((x,y,z),(0,[]))]:=rfl;have hi:JA (gU us) (x,y,z) (sgU us (x,y,z)) kU [] [((x,y,z),(0,[]))]:=JA.init (AJ ..);obtain⟨g1,g2⟩:=hi.take (I8 (x,y,z) hu) (r:=((x,y,z),(0,[]))) (AJ ..) (fun q hq=>by rw[AF.1 hq];exact Nf) (fun h=>by cases h);have ha:F3 (x,y,z) [((x,y,z),((0:Int),([]:List Int)))]=[]:=by simp[F3]
 rw[ha] at g1 g2;refine⟨⟨hu,hf,l1,Mf (fun e he=>by rw[AF.1 he];rfl),by rw[hdec,hnt],by rw[hdD,hD],by rw[hdD,hdec];exact g1,fun q hq => ?_,?_⟩,?_,?_⟩
 ·rw[hdec] at hq;obtain⟨e,he,-,rfl⟩:=next_of hq;simp
 ·have l3:(Dt x y z [(Dy x y z,Dl x y z 0)] [] 0 ([IE],0) us).1.length<=1+2*us.length:=l2;show _<=1+200*1
  omega
 ·unfold muU muA;rw[hdD,hdec];exact g2
 ·unfold JX endA dijA;rw[hdD,hdec];have e1:IA (gU us) (mu (gU us) (sgU us (x,y,z)) [] [((x,y,z),(0,[]))]+1) [] [((x,y,z),(0,[]))]=IA (gU us) (mu (gU us) (sgU us (x,y,z)) [] [((x,y,z),(0,[]))]) [((x,y,z),(0,[]))] (Hb (gU us) [((x,y,z),(0,[]))] ((x,y,z),(0,[]))):=by
   rw[IA];show (bif decide ((x,y,z) ∈ ([]:List T3)) then _ else IA _ _ ([]++[((x,y,z),(0,[]))]) (F3 (x,y,z) [((x,y,z),((0:Int),([]:List Int)))]++Hb (gU us) ([]++[((x,y,z),(0,[]))]) ((x,y,z),(0,[]))))=_
   rw[Aj (by simp),At,ha,BM,BM]
  rw[e1];congr 1
  refine I4 (I8 (x,y,z) hu) g1 ?_ g2;unfold muU;rw[hdD,hdec];exact Nat.lt_succ_self _
noncomputable def Lh (us:List PV) (s:T3):List (PV × PV):=(Classical.choice (⟨⟨endA us s,rfl⟩⟩:Nonempty {x:List (PV × PV) // x=endA us s})).1
theorem Ni (us:List PV) (s:T3):Lh us s=endA us s:=(Classical.choice (⟨⟨endA us s,rfl⟩⟩:Nonempty {x:List (PV × PV) // x=endA us s})).2
def Nj (s:Bool × LS):List PV × List Row:=match s.1 with | true=>sh6P.put s.2 | false=>sh6FP.put s.2
def get6P (S:List PV) (H:List Row):Option (Bool × LS):=
 match sh6P.get S H with
 | some s=>some (true,s)
 | none=>match sh6FP.get S H with | some s=>some (false,s) | none=>none
theorem get6P_emb (S:List PV) (H:List Row) (s:Bool × LS) (h:get6P S H=some s):S=(Nj s).1/\H=(Nj s).2:=by
 unfold get6P at h;split at h
 ·rename_i q hq;cases h;exact S1.Fh _ _ _ hq
 ·split at h
  ·rename_i q hq;cases h;exact S1.Fh _ _ _ hq
  ·cases h
noncomputable def LF:Bool × LS->Bool
 | (true,([.l _ us,.n n,.n k],[.i _,.i _,.i _,.i _,.i _,.i _,.i s0,.i s1,.i s2,.m _,.m D,.l nl es]))=>decide (n=es.length) && !nl&&dB (P6 us (s0,s1,s2) D es k)
 | (false,([.l _ us,.n n,.n k],[.i _,.i _,.i _,.i _,.i _,.i _,.i s0,.i s1,.i s2,.m _,.m D,.i x,.i y,.i z,.i c]))=>dB (n=1/\k=1/\D=[]/\x=s0/\y=s1/\z=s2/\c=0)&&us.all G8&&decide (us.length<=100)
 | _=>false
noncomputable def fin6P:Bool × LS->DT (PX × List PV × List Row)
 | (true,([.l _ us,.n _,.n k],[.i p0,.i p1,.i p2,.i q0,.i q1,.i q2,.i s0,.i s1,.i s2,.m D0,.m D,.l _ es]))=>.leaf (x6P p0 p1 p2 q0 q1 q2 s0 s1 s2 D0 (JX us (s0,s1,s2) D es k))
 | (false,([.l _ us,.n _,.n _],[.i p0,.i p1,.i p2,.i q0,.i q1,.i q2,.i s0,.i s1,.i s2,.m D0,.m _,.i _,.i _,.i _,.i _]))=>.leaf (x6P p0 p1 p2 q0 q1 q2 s0 s1 s2 D0 (Lh us (s0,s1,s2)))
 | _=>.no
noncomputable def mes6P:Bool × LS->Nat
 | (true,([.l _ us,.n _,.n k],[.i _,.i _,.i _,.i _,.i _,.i _,.i s0,.i s1,.i s2,.m _,.m D,.l _ es]))=>muU us (s0,s1,s2) D es k
 | (false,([.l _ us,.n _,.n _],[.i _,.i _,.i _,.i _,.i _,.i _,.i s0,.i s1,.i s2,.m _,.m _,.i _,.i _,.i _,.i _]))=>muA us (s0,s1,s2)
 | _=>0
theorem stp6P:∀ s r,LF s=true->(fin6P s).run=some r->r.1 ≠ .normal/\(CR Try.prog R59 60 33 (CZ Try.f33 6) [4,7,8,9] [6] (Nj s).1 (Nj s).2=some r \/
  ∃ s',CR Try.prog R59 60 33 (CZ Try.f33 6) [4,7,8,9] [6] (Nj s).1 (Nj s).2=some (.normal,Nj s')/\LF s'=true/\mes6P s'<mes6P s/\(fin6P s').run=some r):=by
 intro t r hp hr;unfold LF at hp;split at hp
 ·rename_i f us n k p0 p1 p2 q0 q1 q2 s0 s1 s2 D0 D nl es;simp only[Aa,Ab,Al,D3] at hp;obtain⟨⟨rfl,rfl⟩,h⟩:=hp;have hr':=(Ah hr).symm;refine⟨by rw[hr'];simp,?_⟩;show (CR Try.prog R59 60 33 (CZ Try.f33 6) [4,7,8,9] [6] (sh6P.put (l6P f us es.length k p0 p1 p2 q0 q1 q2 s0 s1 s2 D0 D false es)).1 (sh6P.put (l6P f us es.length k p0 p1 p2 q0 q1 q2 s0 s1 s2 D0 D false es)).2=some r \/
   ∃ s',CR Try.prog R59 60 33 (CZ Try.f33 6) [4,7,8,9] [6] (sh6P.put (l6P f us es.length k p0 p1 p2 q0 q1 q2 s0 s1 s2 D0 D false es)).1 (sh6P.put (l6P f us es.length k p0 p1 p2 q0 q1 q2 s0 s1 s2 D0 D false es)).2=some (.normal,Nj s')/\_/\_/\_)
  obtain⟨c1,c2⟩:=h.caps;have hk:=h.hk;have hsh:(es.take k).all JB=true:=by
   rw[Ap];intro e he;have hb:=h.dij.bN (JD e) (Bp he);unfold JB;rw[Ab];have:(Dh (rP e)).length=(rP e).length:=E6 _;simp only[JD,A1] at hb;omega
  rw[q6P,DQ rfl,DQ rfl,Ac (show es.length=es.length from rfl),Ac hk,Ac (show k<=1000000 by omega),hsh,Ac (show es.length<=1000000 by omega),DM.2 h.norm];simp only[Bn,Am];by_cases h0:0<k
  ·rw[Ac (show (k:Int) > 0 by omega),BP,At];have hlen:(Nh es k).length=es.length:=HV hk;cases hm:DA D (Dy (gX (CW es k)) (gY (CW es k)) (gL (CW es k))) with
   | true =>
    obtain⟨g1,g2,g3⟩:=h.known h0 hm;refine .inr ⟨(true,l6P f us es.length (Md es k).length p0 p1 p2 q0 q1 q2 s0 s1 s2 D0 D false (Nh es k)),rfl,?_,g2,?_⟩
    ·simp only[LF,Aa,Ab,Al,D3];exact⟨⟨hlen.symm,trivial⟩,g1⟩
    ·rw[hr'];show some (x6P _ _ _ _ _ _ _ _ _ _ (JX us (s0,s1,s2) D (Nh es k) (Md es k).length))=_;rw[g3]
   | false =>
    obtain⟨g1,g2,g3,v1,v2,v3,v4⟩:=h.take' h0 hm;have hle:(Md es k).length<=(Nh es k).length:=by
     rw[hlen];have:=Eb (d:=H9 (gX (CW es k)) (gY (CW es k)) (gL (CW es k))) (es.take k);rw[Az] at this;show (CU _ (es.take k)).length<=_
     omega
    have hp14:p14Pl (l14Pl f us es.length (Md es k).length f us us.length 0 p0 p1 p2 q0 q1 q2 s0 s1 s2 D0 (Ej D (Dy (gX (CW es k)) (gY (CW es k)) (gL (CW es k))) (G6 (CW es k))) false (Nh es k) (gX (CW es k)) (gY (CW es k)) (gL (CW es k)) false (rP (CW es k)) (rC (CW es k)))=true:=by
     simp only[p14Pl,Aa,Ab,Al];exact⟨⟨⟨⟨⟨⟨⟨⟨⟨⟨⟨⟨hlen.symm,hle⟩,trivial⟩,by omega⟩,by omega⟩,h.few⟩,by rw[hlen];omega⟩,h.use⟩,v1⟩,v2⟩,trivial⟩,v3⟩,v4⟩
    rw[At,hp14,Am];refine .inr ⟨(true,l6P f us (wjE us D es k).1.length (wjE us D es k).2 p0 p1 p2 q0 q1 q2 s0 s1 s2 D0 (Ej D (Dy (gX (CW es k)) (gY (CW es k)) (gL (CW es k))) (G6 (CW es k))) false (wjE us D es k).1),rfl,?_,g2,?_⟩
    ·simp only[LF,Aa,Ab,Al,D3];exact⟨⟨trivial,trivial⟩,g1⟩
    ·rw[hr'];show some (x6P _ _ _ _ _ _ _ _ _ _ (JX us (s0,s1,s2) _ (wjE us D es k).1 (wjE us D es k).2))=_;rw[g3]
  ·have hk0:k=0:=by omega
   subst hk0;rw[Aj (show ¬ ((0:Nat):Int) > 0 by omega),BU,Am];refine .inl ?_;rw[hr',h.nil]
 ·rename_i f us n k p0 p1 p2 q0 q1 q2 s0 s1 s2 D0 D x y z c;simp only[Aa,Ab,D3] at hp;obtain⟨⟨⟨rfl,rfl,rfl,rfl,rfl,rfl,rfl⟩,hu⟩,hf⟩:=hp;have hr':=(Ah hr).symm;refine⟨by rw[hr'];simp,?_⟩;obtain⟨g1,g2,g3⟩:=P6.first (x:=x) (y:=y) (z:=z) hu hf
  have hq:=q6FP f us p0 p1 p2 q0 q1 q2 x y z D0 x y z 0;have hp14:p14Pn (l14Pn f us 1 0 f us us.length 0 p0 p1 p2 q0 q1 q2 x y z D0 [(Dy x y z,Dl x y z 0)] false [IE] x y z 0)=true:=by
   simp only[p14Pn,Aa,Ab,Al,Ay,AC];exact⟨⟨⟨⟨⟨⟨⟨⟨⟨⟨by first | exact True.intro | omega,by first | exact True.intro | omega⟩,trivial⟩,by first | exact True.intro | omega⟩,by first | exact True.intro | omega⟩,hf⟩,by first | exact True.intro | omega⟩,hu⟩,by first | exact True.intro | omega⟩,by first | exact True.intro | omega⟩,trivial⟩
  rw[D3.2 (⟨rfl,rfl,rfl,rfl⟩:x=x/\y=y/\z=z/\(0:Int)=0),hp14,Am,Am,show (0:Int).toNat=0 from rfl,AM] at hq;refine .inr ⟨(true,l6P f us (Dt x y z [(Dy x y z,Dl x y z 0)] [] 0 ([IE],0) us).1.length (Dt x y z [(Dy x y z,Dl x y z 0)] [] 0 ([IE],0) us).2 p0 p1 p2 q0 q1 q2 x y z D0 [(Dy x y z,Dl x y z 0)] false (Dt x y z [(Dy x y z,Dl x y z 0)] [] 0 ([IE],0) us).1),hq,?_,g2,?_⟩
  ·simp only[LF,Aa,Ab,Al,D3];exact⟨⟨trivial,trivial⟩,g1⟩
  ·rw[hr'];show some (x6P _ _ _ _ _ _ _ _ _ _ (JX us (x,y,z) _ _ _))=_;rw[g3,<- Ni]
 ·cases hp
noncomputable def R60:CO:=R59.Ks 33 6 [4,7,8,9] (Jq [] get6P LF fin6P)
theorem okR60:Ck Try.prog R60.env:=
 okR59.Ks Try.func33 (show Try.f33.body=some (DL Try.f33) by kernel_rfl) (show (loops (DL Try.f33)).filter (fun b=>Ed b==6)=[CZ Try.f33 6] by kernel_rfl)
  fun hs ro S H d x S' H'=>loopW (n:=60) okR59 [4,7,8,9] [6] Nj get6P_emb mes6P stp6P hs ro S H d x S' H'
def shSP:S1:=⟨27,[(3,.mp 3),(10,.CQ 49),(11,C4),(12,C4)],[.one 30 3 aS,.one 30 3 aS,.one 30 3 aS,.map 30 4]⟩
abbrev lSP (f:Bool) (es:List PV) (len i:Int) (p0 p1 p2 q0 q1 q2 s0 s1 s2:Int) (D:List (PV × PV)):LS:=([.l f es,.i len,.i i],[.i p0,.i p1,.i p2,.i q0,.i q1,.i q2,.i s0,.i s1,.i s2,.m D])
noncomputable abbrev xSP (p0 p1 p2 q0 q1 q2 s0 s1 s2:Int) (D:List (PV × PV)):PX × List PV × List Row:=(.exit 0,tm 27 [(3,.mp 3)],(shSP.put (lSP false [] 0 0 p0 p1 p2 q0 q1 q2 s0 s1 s2 D)).2)
theorem qSP (f:Bool) (es:List PV) (len i:Int) (p0 p1 p2 q0 q1 q2 s0 s1 s2:Int) (D:List (PV × PV)):CR Try.prog R60 60 37 (CZ Try.f37 3) [3,10,11,12] [3] (shSP.put (lSP f es len i p0 p1 p2 q0 q1 q2 s0 s1 s2 D)).1 (shSP.put (lSP f es len i p0 p1 p2 q0 q1 q2 s0 s1 s2 D)).2 =
 bif decide (i<len) then bif decide (0<=i)&&decide (i<(es.length:Int)) then bif stB (wL (es.getD i.toNat .any)) then
  some (.normal,shSP.put (lSP f es len (W (i+1)) p0 p1 p2 q0 q1 q2 s0 s1 s2 (DG D (es.getD i.toNat .any)))) else none else none else some (xSP p0 p1 p2 q0 q1 q2 s0 s1 s2 D):=by kernel_rfl
def pSP:LS->Bool
 | ([.l _ es,.i len,.i i],[.i _,.i _,.i _,.i _,.i _,.i _,.i _,.i _,.i _,.m _])=>decide (len=(es.length:Int))&&decide (0<=i)&&decide (i<=len)&&decide (es.length<=1000)&&(es.drop i.toNat).all fun e=>stB (wL e)
 | _=>false
noncomputable def fSP:LS->DT (PX × List PV × List Row)
 | ([.l _ es,.i _,.i i],[.i p0,.i p1,.i p2,.i q0,.i q1,.i q2,.i s0,.i s1,.i s2,.m D])=>.leaf (xSP p0 p1 p2 q0 q1 q2 s0 s1 s2 (GD (es.drop i.toNat) D))
 | _=>.no
def mSP:LS->Nat
 | ([.l _ _,.i len,.i i],_)=>(len-i).toNat
 | _=>0
theorem sSP:∀ s r,pSP s=true->(fSP s).run=some r->r.1 ≠ .normal/\(CR Try.prog R60 60 37 (CZ Try.f37 3) [3,10,11,12] [3] (shSP.put s).1 (shSP.put s).2=some r \/
   ∃ s',CR Try.prog R60 60 37 (CZ Try.f37 3) [3,10,11,12] [3] (shSP.put s).1 (shSP.put s).2=some (.normal,shSP.put s')/\pSP s'=true/\mSP s'<mSP s/\(fSP s').run=some r):=by
 intro t r hp hr;unfold pSP at hp;split at hp
 ·rename_i f es len i p0 p1 p2 q0 q1 q2 s0 s1 s2 D;simp only[Aa,Ab] at hp;obtain⟨⟨⟨⟨rfl,h2⟩,h3⟩,h4⟩,h5⟩:=hp;have hr':=(Ah hr).symm;refine⟨by rw[hr'];simp,?_⟩;rw[show shSP.put ([.l f es,.i (es.length:Int),.i i],[.i p0,.i p1,.i p2,.i q0,.i q1,.i q2,.i s0,.i s1,.i s2,.m D])=shSP.put (lSP f es (es.length:Int) i p0 p1 p2 q0 q1 q2 s0 s1 s2 D) from rfl,qSP];by_cases hi:i<(es.length:Int)
  ·rw[Db h2 hi,Ce,Aa] at h5;rw[Ac hi,Ac h2,h5.1,Dc (by omega) (by omega)];refine .inr ⟨lSP f es es.length (i+1) p0 p1 p2 q0 q1 q2 s0 s1 s2 (DG D (es.getD i.toNat .any)),rfl,by simp only[pSP,Aa,Ab];exact⟨⟨⟨⟨trivial,by omega⟩,by omega⟩,h4⟩,h5.2⟩,by simp only[mSP];omega,?_⟩;rw[hr',Db h2 hi];rfl
  ·rw[Aj hi,AG (by omega)] at *;exact .inl (by rw[hr'];rfl)
 ·cases hp
noncomputable def R61:CO:=R60.C8 37 3 [3,10,11,12] [false,false,false,false] shSP pSP fSP
theorem okR61:Ck Try.prog R61.env:=
 okR60.C8 (n:=60) Try.func37 (show Try.f37.body=some (DL Try.f37) by kernel_rfl) (show (loops (DL Try.f37)).filter (fun b=>Ed b==3)=[CZ Try.f37 3] by kernel_rfl) [3,10,11,12] [3] [false,false,false,false] shSP mSP sSP

noncomputable def R62:CO:=((((R61.FN 33).D6 33 1).D6 12 1).Jx 12 1).addLkN Try.prog kts
theorem okR62:Ck Try.prog R62.env:=((((okR61.FN 33).D6 33 1).D6 12 1).Jx 12 1).addLkN kts_ok
abbrev F7 (x y z:Int):Row:={ es:=[Dy x y z],s:=3,t:=30,bv:=true }
noncomputable abbrev zRv:PV:=.val ((EL Try.prog 78).getD undef)
abbrev mD (ws:List PV):List (PV × PV):=GD ((CU (CT false) ws).drop (0:Int).toNat) []
abbrev gotB (D:List (PV × PV)) (x y z:Int):Bool:=((EG (.val (.bool false)) D (Dy x y z)).cellAt 0).getB
theorem qPath (f:Bool) (ws:List PV) (x y z a b c:Int) (fl:Bool):Dw Try.prog R62 60 12 [.CQ f 49 ws,Dy x y z,Dy a b c,bv fl] =
 bif decide (ws.length<=1000)&&ED EK ws then
 bif pSP (lSP false (CU (CT false) ws) ((CU (CT false) ws).length:Int) 0 x y z a b c x y z []) then
 bif GQ [F7 x y z,F7 a b c,F7 x y z] [F7 x y z,F7 a b c,F7 x y z] then
 bif !gotB (mD ws) x y z then
  bif GQ [F7 x y z,F7 a b c] [F7 x y z,F7 a b c] then some (.D8 [.CQ false 3 [],iv 0,bv false]) else none
 else
 bif decide (ws.length<=1000)&&ED EK ws then
 bif LF (false,l6FP false (CU (CT fl) ws) 1 1 x y z a b c x y z (mD ws) [] x y z 0) then
 bif GQ [F7 x y z,F7 a b c] [F7 x y z,F7 a b c] then
  some (.D8 [.CQ false 3 (rP (EG zRv (Lh (CU (CT fl) ws) (x,y,z)) (Dy a b c))),iv (rC (EG zRv (Lh (CU (CT fl) ws) (x,y,z)) (Dy a b c))),bv (DA (Lh (CU (CT fl) ws) (x,y,z)) (Dy a b c))]) else none
 else none else none
 else none else none else none:=by kernel_rfl
theorem JG (fl:Bool):∀ ws:List PV,gU (CU (CT fl) ws)=gE fl ws
 | []=>rfl
 | e::ws=>by
  have ih:=JG fl ws;show (List.filter _ (e::ws)).flatMap eE=(bif CT fl e then [] else eE e)++gE fl ws
  rw[B3];cases h:CT fl e with
  | true=>exact ih
  | false=>exact congrArg (eE e ++ ·) ih
theorem FH {fl:Bool} {ws:List PV} (h:KB ws):(CU (CT fl) ws).all G8=true:=by
 rw[Ap];intro e he;unfold CU at he;rw[Bf] at he;obtain⟨h1,h2⟩:=he;simp only[CT,Al,BL,AQ] at h2;have:=h.wl e h1;simp only[G8,Aa,Al,AQ,Ab];omega
theorem mhas_key {x y z:Int}:∀ {D:List (PV × PV)},Ma D->(DA D (Dy x y z)=true ↔ (x,y,z) ∈ D.map (fun u=>EN u.1))
 | [],_=>by simp[DA]
 | (a,w)::D,h=>by
  have ha:a=stE a:=h (a,w) (AJ ..);have ih:=mhas_key (x:=x) (y:=y) (z:=z) (D:=D) fun u hu=>h u (AU _ hu)
  show (ID (Dy x y z) a||DA D (Dy x y z))=true ↔ _
  rw[A0,ih,AZ,AK,ha,keq_stv];show _ ↔ (x,y,z)=(gX a,gY a,gL a)\/_
  simp only[Cq]
theorem mget_has {k v z:PV}:∀ {D:List (PV × PV)},(∀ u ∈ D,u.2=v)->EG z D k=bif DA D k then v else z
 | [],_=>rfl
 | (a,w)::D,h=>by
  have ih:=mget_has (k:=k) (v:=v) (z:=z) (D:=D) fun u hu=>h u (AU _ hu)
  show (bif ID k a then w else EG z D k)=bif (ID k a||DA D k) then v else z
  cases ID k a with
  | true=>exact h (a,w) (AJ ..)
  | false=>exact ih
theorem stpD_val:∀ {es:List PV} {D:List (PV × PV)},(∀ u ∈ D,u.2=bv true)->∀ u ∈ GD es D,u.2=bv true
 | [],_,h=>h
 | e::es,D,h=>by
  show ∀ u ∈ GD es (DG D e),_
  refine stpD_val fun u hu => ?_
  unfold DG at hu;rcases Ku hu with hu | rfl
  ·rcases Ku hu with hu | rfl
   ·exact h u hu
   ·rfl
  ·rfl
theorem I9 {ws:List PV} {x y z:Int}:gotB (mD ws) x y z=true ↔ Eo ws (x,y,z):=by
 show ((EG (.val (.bool false)) (GD (CU (CT false) ws) []) (Dy x y z)).cellAt 0).getB=true ↔ _
 rw[mget_has (v:=bv true) (stpD_val fun u hu=>by cases hu),<- stopsL_mem (t:=(x,y,z))];show _ ↔ (x,y,z) ∈ ((GD (CU (CT false) ws) []).map (·.1)).map EN
 rw[Cb];have:=mhas_key (x:=x) (y:=y) (z:=z) (stpD_key (es:=CU (CT false) ws) (D:=[]) (fun x hx=>by cases hx)).1;refine Iff.trans ?_ this;cases DA (GD (CU (CT false) ws) []) (Dy x y z) <;> simp[cond,PV.cellAt,PV.cells,PV.getB]
theorem mget_out {t:T3} {z:PV}:∀ {D:List Rc},t ∉ D.map (·.1)->EG z (D.map Fy) (FG t)=z
 | [],_=>rfl
 | x::D,h=>by
  simp only[AZ,AK,not_or] at h;show (bif ID (FG t) (FG x.1) then _ else EG z (D.map Fy) (FG t))=_
  rw[Ir,Aj h.1];exact mget_out h.2
theorem mget_in {t:T3} {k:Ky} {z:PV}:∀ {D:List Rc},(D.map (·.1)).Nodup->(t,k) ∈ D->EG z (D.map Fy) (FG t)=encV (t,k)
 | x::D,hn,h=>by
  rw[AZ,Cp] at hn;show (bif ID (FG t) (FG x.1) then encV x else EG z (D.map Fy) (FG t))=_
  rw[Ir];rcases AK.1 h with rfl | h
  ·rw[Ac rfl];rfl
  ·rw[Aj (fun e=>hn.1 (by rw[<- e];exact Bp h))];exact mget_in hn.2 h
theorem encV_P (r:Rc):rP (encV r)=r.2.2.map iv:=by
 unfold encV;split
 ·rename_i h;rw[h];rfl
 ·rfl
theorem encV_C (r:Rc):rC (encV r)=r.2.1:=by unfold encV;split <;> rfl
noncomputable def D7 (ws:List PV) (fl:Bool) (s t:T3):Option Ky:=@ite _ (Eo ws s) (Classical.propDecidable _) (minF (gE fl ws) s t) none
theorem pathO_in {ws:List PV} {fl:Bool} {s t:T3} (h:Eo ws s):D7 ws fl s t=minF (gE fl ws) s t:=Ai h
theorem pathO_out {ws:List PV} {fl:Bool} {s t:T3} (h:¬ Eo ws s):D7 ws fl s t=none:=An h
def oI (o:Option Ky):List Int:=match o with | some k=>k.2 | none=>[]
def oC (o:Option Ky):Int:=match o with | some k=>k.1 | none=>0
abbrev pathV (o:Option Ky):PV:=.D8 [.CQ false 3 ((oI o).map iv),iv (oC o),bv o.isSome]
theorem end_min {ws:List PV} (fl:Bool) (h:KB ws) (s t:T3) (z:PV) (hz:rP z=[]/\rC z=0):
  rP (EG z (Lh (CU (CT fl) ws) s) (FG t))=(oI (minF (gE fl ws) s t)).map iv/\rC (EG z (Lh (CU (CT fl) ws) s) (FG t))=oC (minF (gE fl ws) s t)/\DA (Lh (CU (CT fl) ws) s) (FG t)=(minF (gE fl ws) s t).isSome:=by
 have hG:=I8 s (FH (fl:=fl) h);have hs:s ∈ sgU (CU (CT fl) ws) s:=AJ ..;have hnd:=(KZ hG hs).nd;rw[Ni];unfold endA;rw[KC];by_cases hk:∃ k,(t,k) ∈ dijA (gU (CU (CT fl) ws)) (sgU (CU (CT fl) ws) s) s
 ·obtain⟨k,hk⟩:=hk;have hm:minF (gE fl ws) s t=some k:=by
   rw[KY,<- JG];exact (dijA_min hG hs).1 hk
  rw[mget_in hnd hk,encV_P,encV_C,hm,Ac (Bp hk)];exact⟨rfl,rfl,rfl⟩
 ·have hm:minF (gE fl ws) s t=none:=by
   cases hc:minF (gE fl ws) s t with
   | none=>rfl
   | some k =>
    rw[KY,<- JG] at hc;exact absurd ⟨k,(dijA_min hG hs).2 hc⟩ hk
  have ho:t ∉ (dijA (gU (CU (CT fl) ws)) (sgU (CU (CT fl) ws) s) s).map (·.1):=fun hh=>by
   obtain⟨x,hx,rfl⟩:=AW.1 hh;exact hk ⟨x.2,hx⟩
  rw[mget_out ho,hm,Aj ho,hz.1,hz.2];exact⟨rfl,rfl,rfl⟩
theorem zRv_ok:rP zRv=[]/\rC zRv=0:=by constructor <;> kernel_rfl
theorem pSP_ok {ws:List PV} (h:KB ws) (x y z a b c:Int):pSP (lSP false (CU (CT false) ws) ((CU (CT false) ws).length:Int) 0 x y z a b c x y z [])=true:=by
 have:=Eb (d:=CT false) ws;have:=h.few;simp only[pSP,Aa,Ab];exact⟨⟨⟨⟨trivial,by omega⟩,by omega⟩,by omega⟩,Nc h.Kv⟩
theorem qPathN (f:Bool) (ws:List PV) (x y z a b c:Int) (fl:Bool) (h:KB ws) (hN:Em EK ws):Dw Try.prog R62 60 12 [.CQ f 49 ws,Dy x y z,Dy a b c,bv fl] =
  some (pathV (D7 ws fl (x,y,z) (a,b,c))):=by
 have hf:=h.few;have hk:=Eb (d:=CT fl) ws;rw[qPath,Ac (show ws.length<=1000 by omega),DM.2 hN,pSP_ok h,EF,EF];simp only[Bn,Am];by_cases hs:Eo ws (x,y,z)
 ·have hp:LF (false,l6FP false (CU (CT fl) ws) 1 1 x y z a b c x y z (mD ws) [] x y z 0)=true:=by
   simp only[LF,Aa,Ab,D3];exact⟨⟨⟨trivial,trivial,trivial,trivial,trivial,trivial,trivial⟩,FH h⟩,by omega⟩
  rw[I9.2 hs,hp,pathO_in hs];obtain⟨g1,g2,g3⟩:=end_min fl h (x,y,z) (a,b,c) zRv zRv_ok;simp only[BP,At,Am];rw[show Dy a b c=FG (a,b,c) from rfl,g1,g2,g3]
 ·have hg:gotB (mD ws) x y z=false:=by
   cases hh:gotB (mD ws) x y z with
   | true=>exact absurd (I9.1 hh) hs
   | false=>rfl
  rw[hg,pathO_out hs];rfl
noncomputable def cPath:List PV->Option (DT PV)
 | [.CQ _ 49 ws,.agg [.val (.int .i64 x),.val (.int .i64 y),.val (.int .i64 z)],.agg [.val (.int .i64 a),.val (.int .i64 b),.val (.int .i64 c)],.val (.bool fl)] =>
  some (.br (dB (KB ws)&&ED EK ws) (.leaf (pathV (D7 ws fl (x,y,z) (a,b,c)))) .no)
 | _=>none
theorem normG0:Em EK []:=fun e h=>by cases h
theorem ePath:Hx.CV Try.prog 12:=(CK okR62 (n:=60) (qPathN false [] 0 0 0 0 0 0 false wok0 normG0)).1
theorem oPath (args:List PV) (d:DT PV) (r:PV) (h:cPath args=some d) (hr:d.run=some r):Da Try.prog 12 args r:=by
 unfold cPath at h;split at h
 ·rename_i f ws x y z a b c fl;cases h;obtain⟨h1,rfl⟩:=DI hr;simp only[Aa,D3,DM] at h1;exact (CK okR62 (n:=60) (qPathN f ws x y z a b c fl h1.1 h1.2)).2
 ·cases h
noncomputable def R63:CO:=R62.DF 12 cPath
theorem okR63:Ck Try.prog R63.env:=okR62.DF ePath oPath
def shRp:S1:=⟨47,[(6,.ptr 1 1 0 0),(11,.CQ 83),(12,C4)],[.one 30 3 aS,.one 30 3 aS]⟩
abbrev lRp (f:Bool) (es:List PV) (i x y z a b c:Int):LS:=([.l f es,.i i],[.i x,.i y,.i z,.i a,.i b,.i c])
noncomputable abbrev hRp (x y z a b c:Int):List Row:=(shRp.put (lRp false [] 0 x y z a b c)).2
def E0:S1:=⟨116,[(4,.ptr 2 1 0 0),(7,.CQ 49),(8,.mp 4),(9,.sl 5),(10,.ptr 6 1 0 0),(15,.ptr 8 1 0 0),(57,.CQ 49),(58,C4),(59,C4),(74,.sl 11),(75,C4),(76,C4)],
 [.one 30 3 aS,.map 30 3,.one 30 3 aS,.map 30 4,.map 30 78,.many 78 5,.Gl 78 5 (.agg [C4,C4,C4,.nil,C4]),.dead,.Gl 49 8 aW,.one 30 3 aS,.one 30 3 aS,.many 116 6]⟩
abbrev Ja (f:Bool) (us:List PV) (n k:Nat) (f2:Bool) (us2:List PV) (len i:Int) (n2 k2:Nat) (l2 j p0 p1 p2:Int) (Dq:List (PV × PV)) (s0 s1 s2:Int) (D0 D:List (PV × PV)) (nl:Bool) (es:List PV) (x y z:Int) (rc:Int)
 (wi:Int) (wf:Bool) (wl:List PV) (lv:Int) (cs nm:ByteArray) (st:Bool) (wt ds a0 a1 a2 b0 b1 b2:Int) (nl2:Bool) (ab:List PV):LS:=
 ([.l f us,.n n,.n k,.l f2 us2,.i len,.i i,.n n2,.n k2,.i l2,.i j],[.i p0,.i p1,.i p2,.m Dq,.i s0,.i s1,.i s2,.m D0,.m D,.l nl es,.i x,.i y,.i z,.i rc,
  .i wi,.l wf wl,.i lv,.s cs,.s nm,.b st,.i wt,.i ds,.i a0,.i a1,.i a2,.i b0,.i b1,.i b2,.l nl2 ab])
noncomputable abbrev x18Cn (f:Bool) (us:List PV) (n k:Nat) (f2:Bool) (us2:List PV) (len i p0 p1 p2:Int) (Dq:List (PV × PV)) (s0 s1 s2:Int) (D0 D:List (PV × PV)) (nl:Bool) (es:List PV) (x y z:Int) (rc:Int)
 (wi:Int) (wf:Bool) (wl:List PV) (lv:Int) (cs nm:ByteArray) (st:Bool) (wt ds a0 a1 a2 b0 b1 b2:Int) (nl2:Bool) (ab:List PV):PX × List PV × List Row:=
 (.exit 4,tm 116 [(4,.ptr 2 1 0 0),(7,.CQ f 49 us),(8,.mp 4),(9,.sl 5 n 0 k),(10,.ptr 6 1 0 0),(57,.CQ f2 49 us2),(58,iv len),(59,iv i)],
  (E0.put (Ja f us n k f2 us2 len i 0 0 0 0 p0 p1 p2 Dq s0 s1 s2 D0 D nl es x y z rc wi wf wl lv cs nm st wt ds a0 a1 a2 b0 b1 b2 nl2 ab)).2)
noncomputable abbrev h18Cn (p0 p1 p2:Int) (Dq:List (PV × PV)) (s0 s1 s2:Int) (D0 D:List (PV × PV)) (nl:Bool) (es:List PV) (x y z:Int) (rc:Int)
 (wi:Int) (wf:Bool) (wl:List PV) (lv:Int) (cs nm:ByteArray) (st:Bool) (wt ds a0 a1 a2 b0 b1 b2:Int) (nl2:Bool) (ab:List PV) (j:Int):List Row:=
 (E0.put (Ja false [] 0 0 false [] 0 0 0 0 0 0 p0 p1 p2 Dq s0 s1 s2 D0 D nl es x y z rc wi wf wl lv cs nm st wt ds a0 a1 a2 b0 b1 b2 nl2 ab)).2++[abRow (rE ab j),C6]
theorem q18Cn (f:Bool) (us:List PV) (n k:Nat) (f2:Bool) (us2:List PV) (len i:Int) (n2 k2:Nat) (l2 j p0 p1 p2:Int) (Dq:List (PV × PV)) (s0 s1 s2:Int) (D0 D:List (PV × PV)) (es:List PV) (x y z:Int) (rc:Int)
 (wi:Int) (wf:Bool) (wl:List PV) (lv:Int) (cs nm:ByteArray) (st:Bool) (wt ds a0 a1 a2 b0 b1 b2:Int) (nl2:Bool) (ab:List PV):
 CR Try.prog R63 60 33 (CZ Try.f33 18) [4,7,8,9,10,15,57,58,59,74,75,76] [4,7,8,9,10,57,58,59] (E0.put (Ja f us n k f2 us2 len i n2 k2 l2 j p0 p1 p2 Dq s0 s1 s2 D0 D false es x y z rc wi wf wl lv cs nm st wt ds a0 a1 a2 b0 b1 b2 nl2 ab)).1 (E0.put (Ja f us n k f2 us2 len i n2 k2 l2 j p0 p1 p2 Dq s0 s1 s2 D0 D false es x y z rc wi wf wl lv cs nm st wt ds a0 a1 a2 b0 b1 b2 nl2 ab)).2 =
 bif decide (j<l2) then ixR ab n2 k2 j (J0 ab n2 (bif eq3 (cI (rE ab j) 0) (cI (rE ab j) 1) (cI (rE ab j) 2) x y z then bif !DA D (Dy (cI (rE ab j) 3) (cI (rE ab j) 4) (cI (rE ab j) 5)) then
  bif GQ (h18Cn p0 p1 p2 Dq s0 s1 s2 D0 D false es x y z rc wi wf wl lv cs nm st wt ds a0 a1 a2 b0 b1 b2 nl2 ab j) (h18Cn p0 p1 p2 Dq s0 s1 s2 D0 D false es x y z rc wi wf wl lv cs nm st wt ds a0 a1 a2 b0 b1 b2 nl2 ab j) then
  bif decide (wl.length<=100000) then bif (es.length==n)&&(decide (k<=n)&&decide ((n+1)*56<=140737488355328)) then
   some (.normal,E0.put (Ja f us (max n (k+1)) (k+1) f2 us2 len i n2 k2 l2 (W (j+1)) p0 p1 p2 Dq s0 s1 s2 D0 D false (es.take k++GW (cI (rE ab j) 3) (cI (rE ab j) 4) (cI (rE ab j) 5) false [iv wi] (W (rc+Df wl))::es.drop (k+1)) x y z rc wi wf wl lv cs nm st wt ds a0 a1 a2 b0 b1 b2 nl2 ab))
  else none else none else none
  else some (.normal,E0.put (Ja f us n k f2 us2 len i n2 k2 l2 (W (j+1)) p0 p1 p2 Dq s0 s1 s2 D0 D false es x y z rc wi wf wl lv cs nm st wt ds a0 a1 a2 b0 b1 b2 nl2 ab))
  else some (.normal,E0.put (Ja f us n k f2 us2 len i n2 k2 l2 (W (j+1)) p0 p1 p2 Dq s0 s1 s2 D0 D false es x y z rc wi wf wl lv cs nm st wt ds a0 a1 a2 b0 b1 b2 nl2 ab))))
 else some (x18Cn f us n k f2 us2 len i p0 p1 p2 Dq s0 s1 s2 D0 D false es x y z rc wi wf wl lv cs nm st wt ds a0 a1 a2 b0 b1 b2 nl2 ab):=by kernel_rfl
theorem q18NCn (f:Bool) (us:List PV) (k:Nat) (f2:Bool) (us2:List PV) (len i j p0 p1 p2:Int) (Dq:List (PV × PV)) (s0 s1 s2:Int) (D0 D:List (PV × PV)) (es:List PV) (x y z:Int) (rc:Int)
 (wi:Int) (wf:Bool) (wl:List PV) (lv:Int) (cs nm:ByteArray) (st:Bool) (wt ds a0 a1 a2 b0 b1 b2:Int) (nl2:Bool) (ab:List PV) (hj:0<=j) (hj2:j<(ab.length:Int)) (hab:ab.length<=2) (hk:k<=es.length) (hes:es.length<=600000) (hwl:wl.length<=1000) (hrc:0<=rc) (hrc2:rc<=1000000000000000000):
 CR Try.prog R63 60 33 (CZ Try.f33 18) [4,7,8,9,10,15,57,58,59,74,75,76] [4,7,8,9,10,57,58,59] (E0.put (Ja f us es.length k f2 us2 len i ab.length ab.length ab.length j p0 p1 p2 Dq s0 s1 s2 D0 D false es x y z rc wi wf wl lv cs nm st wt ds a0 a1 a2 b0 b1 b2 nl2 ab)).1 (E0.put (Ja f us es.length k f2 us2 len i ab.length ab.length ab.length j p0 p1 p2 Dq s0 s1 s2 D0 D false es x y z rc wi wf wl lv cs nm st wt ds a0 a1 a2 b0 b1 b2 nl2 ab)).2 =
 some (.normal,E0.put (Ja f us (Jd x y z D ([]++[iv wi]) (rc+Df wl) (es,k) (aE ab j)).1.length (Jd x y z D ([]++[iv wi]) (rc+Df wl) (es,k) (aE ab j)).2 f2 us2 len i ab.length ab.length ab.length (j+1) p0 p1 p2 Dq s0 s1 s2 D0 D false (Jd x y z D ([]++[iv wi]) (rc+Df wl) (es,k) (aE ab j)).1 x y z rc wi wf wl lv cs nm st wt ds a0 a1 a2 b0 b1 b2 nl2 ab)):=by
 obtain⟨w1,w2⟩:=GX hwl;rw[q18Cn,Ac hj2,Am,G5 rfl hj hj2,DQ rfl,Dc (n:=j+1) (by omega) (by omega),Dc (n:=rc+Df wl) (by omega) (by omega),rE_a,EF,
  Ac (show wl.length<=100000 by omega),show ((es.length==es.length)&&(decide (k<=es.length)&&decide ((es.length+1)*56<=140737488355328)))=true by simp only[AR,Cf,Aa,Ab];omega]
 simp only[Am];unfold Jd cdJ;cases h1:eq3 (cI (aE ab j) 0) (cI (aE ab j) 1) (cI (aE ab j) 2) x y z with
 | false=>rfl
 | true =>
  cases h2:DA D (Dy (cI (aE ab j) 3) (cI (aE ab j) 4) (cI (aE ab j) 5)) with
  | true=>rfl
  | false =>
   have e1:=Ng (z:=elZ (aE ab j) ([]++[iv wi]) (rc+Df wl)) hk;simp only[Am,BU,Bn,e1];rfl
def p18Cn:LS->Bool
 | ([.l _ _,.n n,.n k,.l _ _,.i _,.i _,.n n2,.n k2,.i l2,.i j],[.i _,.i _,.i _,.m _,.i _,.i _,.i _,.m _,.m _,.l nl es,.i _,.i _,.i _,.i rc,
  .i _,.l _ wl,.i _,.s _,.s _,.b _,.i _,.i _,.i _,.i _,.i _,.i _,.i _,.i _,.l _ ab]) =>
  decide (n=es.length)&&decide (k<=es.length)&&decide (n2=ab.length)&&decide (k2=ab.length)&&decide (l2=(ab.length:Int))&&decide (0<=j)&&decide (j<=(ab.length:Int))&&decide (ab.length<=2)&&decide ((es.length:Int)<=500000+j)&&decide (wl.length<=1000)&&decide (0<=rc)&&decide (rc<=1000000000000000000) && !nl
 | _=>false
noncomputable def f18Cn:LS->DT (PX × List PV × List Row)
 | ([.l f us,.n _,.n k,.l f2 us2,.i len,.i i,.n _,.n _,.i _,.i j],[.i p0,.i p1,.i p2,.m Dq,.i s0,.i s1,.i s2,.m D0,.m D,.l _ es,.i x,.i y,.i z,.i rc,
  .i wi,.l wf wl,.i lv,.s cs,.s nm,.b st,.i wt,.i ds,.i a0,.i a1,.i a2,.i b0,.i b1,.i b2,.l nl2 ab]) =>
  .leaf (x18Cn f us (G7 x y z D ([]++[iv wi]) (rc+Df wl) (es,k) (ab.drop j.toNat)).1.length (G7 x y z D ([]++[iv wi]) (rc+Df wl) (es,k) (ab.drop j.toNat)).2 f2 us2 len i p0 p1 p2 Dq s0 s1 s2 D0 D false (G7 x y z D ([]++[iv wi]) (rc+Df wl) (es,k) (ab.drop j.toNat)).1 x y z rc wi wf wl lv cs nm st wt ds a0 a1 a2 b0 b1 b2 nl2 ab)
 | _=>.no
def m18Cn:LS->Nat
 | ([.l _ _,.n _,.n _,.l _ _,.i _,.i _,.n _,.n _,.i l2,.i j],_)=>(l2-j).toNat
 | _=>0
theorem s18Cn:∀ s r,p18Cn s=true->(f18Cn s).run=some r->r.1 ≠ .normal/\(CR Try.prog R63 60 33 (CZ Try.f33 18) [4,7,8,9,10,15,57,58,59,74,75,76] [4,7,8,9,10,57,58,59] (E0.put s).1 (E0.put s).2=some r \/
   ∃ s',CR Try.prog R63 60 33 (CZ Try.f33 18) [4,7,8,9,10,15,57,58,59,74,75,76] [4,7,8,9,10,57,58,59] (E0.put s).1 (E0.put s).2=some (.normal,E0.put s')/\p18Cn s'=true/\m18Cn s'<m18Cn s/\(f18Cn s').run=some r):=by
 intro t r hp hr;unfold p18Cn at hp;split at hp
 ·rename_i f us n k f2 us2 len i n2 k2 l2 j p0 p1 p2 Dq s0 s1 s2 D0 D nl es x y z rc wi wf wl lv cs nm st wt ds a0 a1 a2 b0 b1 b2 nl2 ab;simp only[Aa,Ab,Al] at hp;obtain⟨⟨⟨⟨⟨⟨⟨⟨⟨⟨⟨⟨rfl,h2⟩,rfl⟩,rfl⟩,rfl⟩,h6⟩,h7⟩,h8⟩,h9⟩,h10⟩,h11⟩,h12⟩,rfl⟩:=hp;have hr':=(Ah hr).symm;refine⟨by rw[hr'];simp,?_⟩;rw[show E0.put ([.l f us,.n es.length,.n k,.l f2 us2,.i len,.i i,.n ab.length,.n ab.length,.i (ab.length:Int),.i j],[.i p0,.i p1,.i p2,.m Dq,.i s0,.i s1,.i s2,.m D0,.m D,.l false es,.i x,.i y,.i z,.i rc,
   .i wi,.l wf wl,.i lv,.s cs,.s nm,.b st,.i wt,.i ds,.i a0,.i a1,.i a2,.i b0,.i b1,.i b2,.l nl2 ab])=E0.put (Ja f us es.length k f2 us2 len i ab.length ab.length ab.length j p0 p1 p2 Dq s0 s1 s2 D0 D false es x y z rc wi wf wl lv cs nm st wt ds a0 a1 a2 b0 b1 b2 nl2 ab) from rfl]
  by_cases hi:j<(ab.length:Int)
  ·rw[q18NCn (hj:=h6) (hj2:=hi) (hab:=h8) (hk:=h2) (hes:=by omega) (hwl:=h10) (hrc:=h11) (hrc2:=h12)];obtain⟨g1,g2,g3⟩:=JC (x:=x) (y:=y) (z:=z) (D:=D) (ps:=[]++[iv wi]) (c:=rc+Df wl) (s:=(es,k)) (e:=aE ab j) h2;simp only at g1 g2 g3;refine .inr ⟨_,rfl,?_,?_,?_⟩
   ·simp only[p18Cn,Aa,Ab,Al];exact⟨⟨⟨⟨⟨⟨⟨⟨⟨⟨⟨⟨trivial,g1⟩,trivial⟩,trivial⟩,trivial⟩,by omega⟩,by omega⟩,h8⟩,by omega⟩,h10⟩,h11⟩,h12⟩,trivial⟩
   ·simp only[m18Cn];omega
   ·rw[hr',Db h6 hi];rfl
  ·rw[q18Cn,Aj hi];rw[AG (by omega)] at hr';exact .inl (by rw[hr'];rfl)
 ·cases hp
noncomputable def R66:CO:=R63.C8 33 18 [4,7,8,9,10,15,57,58,59,74,75,76] [false,false,false,false,false,false,false,false,true,true,true,false] E0 p18Cn f18Cn
theorem okR66:Ck Try.prog R66.env:=
 okR63.C8 (n:=60) Try.func33 (show Try.f33.body=some (DL Try.f33) by kernel_rfl) (show (loops (DL Try.f33)).filter (fun b=>Ed b==18)=[CZ Try.f33 18] by kernel_rfl) [4,7,8,9,10,15,57,58,59,74,75,76] [4,7,8,9,10,57,58,59] [false,false,false,false,false,false,false,false,true,true,true,false] E0 m18Cn s18Cn
def GI:S1:=⟨116,[(4,.ptr 2 1 0 0),(7,.CQ 49),(8,.mp 4),(9,.sl 5),(10,.ptr 6 1 0 0),(57,.CQ 49),(58,C4),(59,C4)],
 [.one 30 3 aS,.map 30 3,.one 30 3 aS,.map 30 4,.map 30 78,.many 78 5,.Gl 78 5 (.agg [C4,C4,C4,.nil,C4]),.dead]⟩
abbrev l14Cn (f:Bool) (us:List PV) (n k:Nat) (f2:Bool) (us2:List PV) (len i p0 p1 p2:Int) (Dq:List (PV × PV)) (s0 s1 s2:Int) (D0 D:List (PV × PV)) (nl:Bool) (es:List PV) (x y z:Int) (rc:Int):LS:=
 ([.l f us,.n n,.n k,.l f2 us2,.i len,.i i],[.i p0,.i p1,.i p2,.m Dq,.i s0,.i s1,.i s2,.m D0,.m D,.l nl es,.i x,.i y,.i z,.i rc])
noncomputable abbrev x14Cn (f:Bool) (us:List PV) (n k:Nat) (p0 p1 p2:Int) (Dq:List (PV × PV)) (s0 s1 s2:Int) (D0 D:List (PV × PV)) (nl:Bool) (es:List PV) (x y z:Int) (rc:Int):PX × List PV × List Row:=
 (.exit 2,tm 116 [(4,.ptr 2 1 0 0),(7,.CQ f 49 us),(8,.mp 4),(9,.sl 5 n 0 k)],(GI.put (l14Cn f us n k false [] 0 0 p0 p1 p2 Dq s0 s1 s2 D0 D nl es x y z rc)).2)
theorem q14Cn (f:Bool) (us:List PV) (n k:Nat) (f2:Bool) (us2:List PV) (len i p0 p1 p2:Int) (Dq:List (PV × PV)) (s0 s1 s2:Int) (D0 D:List (PV × PV)) (es:List PV) (x y z:Int) (rc:Int):
 CR Try.prog R66 60 33 (CZ Try.f33 14) [4,7,8,9,10,57,58,59] [4,7,8,9] (GI.put (l14Cn f us n k f2 us2 len i p0 p1 p2 Dq s0 s1 s2 D0 D false es x y z rc)).1 (GI.put (l14Cn f us n k f2 us2 len i p0 p1 p2 Dq s0 s1 s2 D0 D false es x y z rc)).2 =
 bif decide (i<len) then bif H8 us2 i then bif stB (wL (us2.getD i.toNat .any)) then
  bif p18Cn (Ja f us n k f2 us2 len i 2 2 2 0 p0 p1 p2 Dq s0 s1 s2 D0 D false es x y z rc (wI (us2.getD i.toNat .any)) false (wL (us2.getD i.toNat .any)) (wLv (us2.getD i.toNat .any)) (cS (us2.getD i.toNat .any) 3) (cS (us2.getD i.toNat .any) 4) (Lc (us2.getD i.toNat .any)) (cI (us2.getD i.toNat .any) 6) (cI (us2.getD i.toNat .any) 7)
    (gX (eF (us2.getD i.toNat .any))) (gY (eF (us2.getD i.toNat .any))) (gL (eF (us2.getD i.toNat .any))) (gX (eL (us2.getD i.toNat .any))) (gY (eL (us2.getD i.toNat .any))) (gL (eL (us2.getD i.toNat .any))) false (abL (us2.getD i.toNat .any))) then
   some (.normal,GI.put (l14Cn f us (G7 x y z D ([]++[iv (wI (us2.getD i.toNat .any))]) (rc+Df (wL (us2.getD i.toNat .any))) (es,k) ((abL (us2.getD i.toNat .any)).drop (0:Int).toNat)).1.length (G7 x y z D ([]++[iv (wI (us2.getD i.toNat .any))]) (rc+Df (wL (us2.getD i.toNat .any))) (es,k) ((abL (us2.getD i.toNat .any)).drop (0:Int).toNat)).2 f2 us2 len (W (i+1)) p0 p1 p2 Dq s0 s1 s2 D0 D false
    (G7 x y z D ([]++[iv (wI (us2.getD i.toNat .any))]) (rc+Df (wL (us2.getD i.toNat .any))) (es,k) ((abL (us2.getD i.toNat .any)).drop (0:Int).toNat)).1 x y z rc)) else none else none else none
 else some (x14Cn f us n k p0 p1 p2 Dq s0 s1 s2 D0 D false es x y z rc):=by kernel_rfl
def p14Cn:LS->Bool
 | ([.l _ _,.n n,.n k,.l _ us2,.i len,.i i],[.i _,.i _,.i _,.m _,.i _,.i _,.i _,.m _,.m _,.l nl es,.i _,.i _,.i _,.i rc]) =>
  decide (n=es.length)&&decide (k<=es.length)&&decide (len=(us2.length:Int))&&decide (0<=i)&&decide (i<=(us2.length:Int))&&decide (us2.length<=100)&&decide ((es.length:Int)<=400000+2*i)&&(us2.all G8)&&decide (0<=rc)&&decide (rc<=1000000000000000000) && !nl
 | _=>false
noncomputable def f14Cn:LS->DT (PX × List PV × List Row)
 | ([.l f us,.n _,.n k,.l _ us2,.i _,.i i],[.i p0,.i p1,.i p2,.m Dq,.i s0,.i s1,.i s2,.m D0,.m D,.l _ es,.i x,.i y,.i z,.i rc]) =>
  .leaf (x14Cn f us (Dt x y z D [] rc (es,k) (us2.drop i.toNat)).1.length (Dt x y z D [] rc (es,k) (us2.drop i.toNat)).2 p0 p1 p2 Dq s0 s1 s2 D0 D false (Dt x y z D [] rc (es,k) (us2.drop i.toNat)).1 x y z rc)
 | _=>.no
def m14Cn:LS->Nat
 | ([.l _ _,.n _,.n _,.l _ _,.i len,.i i],_)=>(len-i).toNat
 | _=>0
theorem s14Cn:∀ s r,p14Cn s=true->(f14Cn s).run=some r->r.1 ≠ .normal/\(CR Try.prog R66 60 33 (CZ Try.f33 14) [4,7,8,9,10,57,58,59] [4,7,8,9] (GI.put s).1 (GI.put s).2=some r \/
   ∃ s',CR Try.prog R66 60 33 (CZ Try.f33 14) [4,7,8,9,10,57,58,59] [4,7,8,9] (GI.put s).1 (GI.put s).2=some (.normal,GI.put s')/\p14Cn s'=true/\m14Cn s'<m14Cn s/\(f14Cn s').run=some r):=by
 intro t r hp hr;unfold p14Cn at hp;split at hp
 ·rename_i f us n k f2 us2 len i p0 p1 p2 Dq s0 s1 s2 D0 D nl es x y z rc;simp only[Aa,Ab,Al] at hp;obtain⟨⟨⟨⟨⟨⟨⟨⟨⟨⟨rfl,h2⟩,rfl⟩,h4⟩,h5⟩,h6⟩,h7⟩,h8⟩,h9⟩,h10⟩,rfl⟩:=hp;have hr':=(Ah hr).symm;refine⟨by rw[hr'];simp,?_⟩;rw[show GI.put ([.l f us,.n es.length,.n k,.l f2 us2,.i (us2.length:Int),.i i],[.i p0,.i p1,.i p2,.m Dq,.i s0,.i s1,.i s2,.m D0,.m D,.l false es,.i x,.i y,.i z,.i rc]) =
   GI.put (l14Cn f us es.length k f2 us2 us2.length i p0 p1 p2 Dq s0 s1 s2 D0 D false es x y z rc) from rfl,q14Cn]
  by_cases hi:i<(us2.length:Int)
  ·have hu:=Ap.1 h8 _ (aE_mem h4 hi);have hu0:¬ (wL (us2.getD i.toNat .any)).length=0/\(wL (us2.getD i.toNat .any)).length<=1000:=by
    have:G8 (us2.getD i.toNat .any)=true:=hu;simp only[G8,Aa,Al,AQ,Ab] at this;exact this
   rw[Db h4 hi] at hr';generalize us2.getD i.toNat .any=e at *;have hp18:p18Cn (Ja f us es.length k f2 us2 us2.length i 2 2 2 0 p0 p1 p2 Dq s0 s1 s2 D0 D false es x y z rc (wI e) false (wL e) (wLv e) (cS e 3) (cS e 4) (Lc e) (cI e 6) (cI e 7) (gX (eF e)) (gY (eF e)) (gL (eF e)) (gX (eL e)) (gY (eL e)) (gL (eL e)) false (abL e))=true:=by
    simp only[p18Cn,Aa,Ab,Al,Ay,AC];exact⟨⟨⟨⟨⟨⟨⟨⟨⟨⟨⟨⟨trivial,h2⟩,trivial⟩,trivial⟩,by decide⟩,by decide⟩,by decide⟩,by decide⟩,by omega⟩,hu0.2⟩,h9⟩,h10⟩,trivial⟩
   rw[Ac hi,D1 h4 hi,Kw hu0.1 (by omega),hp18,Dc (n:=i+1) (by omega) (by omega),show (0:Int).toNat=0 from rfl,AM];obtain⟨g1,g2,g3⟩:=I5 (x:=x) (y:=y) (z:=z) (D:=D) (ps:=[]) (rc:=rc) (s:=(es,k)) (e:=e) h2;simp only at g1 g2 g3;refine .inr ⟨l14Cn f us (Ib x y z D [] rc (es,k) e).1.length (Ib x y z D [] rc (es,k) e).2 f2 us2 us2.length (i+1) p0 p1 p2 Dq s0 s1 s2 D0 D false (Ib x y z D [] rc (es,k) e).1 x y z rc,rfl,?_,?_,?_⟩
   ·simp only[p14Cn,Aa,Ab,Al];exact⟨⟨⟨⟨⟨⟨⟨⟨⟨⟨trivial,g1⟩,trivial⟩,by omega⟩,by omega⟩,h6⟩,by omega⟩,h8⟩,h9⟩,h10⟩,trivial⟩
   ·simp only[m14Cn];omega
   ·rw[hr'];rfl
  ·rw[Aj hi];rw[AG (by omega)] at hr';exact .inl (by rw[hr'];rfl)
 ·cases hp
noncomputable def R67:CO:=R66.LD Try.prog [false,false,false,false,false,true,false,false] 33 14 [4,7,8,9,10,57,58,59] [false,false,false,false,false,false,true,false] GI p14Cn f14Cn
theorem okR67:Ck Try.prog R67.env:=
 okR66.LD (n:=60) Try.func33 (show Try.f33.body=some (DL Try.f33) by kernel_rfl) (show (loops (DL Try.f33)).filter (fun b=>Ed b==14)=[CZ Try.f33 14] by kernel_rfl) [false,false,false,false,false,true,false,false] [4,7,8,9,10,57,58,59] [4,7,8,9] [false,false,false,false,false,false,true,false] GI m14Cn s14Cn
def E1:S1:=⟨116,[(4,.ptr 2 1 0 0),(7,.CQ 49),(8,.mp 4),(9,.sl 5),(10,.ptr 6 1 0 0),(15,.ptr 8 1 0 0),(57,.CQ 49),(58,C4),(59,C4),(74,.sl 11),(75,C4),(76,C4)],
 [.one 30 3 aS,.map 30 3,.one 30 3 aS,.map 30 4,.map 30 78,.many 78 5,.Gl 78 5 (.agg [C4,C4,C4,.CQ 3,C4]),.dead,.Gl 49 8 aW,.one 30 3 aS,.one 30 3 aS,.many 116 6]⟩
abbrev Jb (f:Bool) (us:List PV) (n k:Nat) (f2:Bool) (us2:List PV) (len i:Int) (n2 k2:Nat) (l2 j p0 p1 p2:Int) (Dq:List (PV × PV)) (s0 s1 s2:Int) (D0 D:List (PV × PV)) (nl:Bool) (es:List PV) (x y z:Int) (rf:Bool) (rp:List PV) (rc:Int)
 (wi:Int) (wf:Bool) (wl:List PV) (lv:Int) (cs nm:ByteArray) (st:Bool) (wt ds a0 a1 a2 b0 b1 b2:Int) (nl2:Bool) (ab:List PV):LS:=
 ([.l f us,.n n,.n k,.l f2 us2,.i len,.i i,.n n2,.n k2,.i l2,.i j],[.i p0,.i p1,.i p2,.m Dq,.i s0,.i s1,.i s2,.m D0,.m D,.l nl es,.i x,.i y,.i z,.l rf rp,.i rc,
  .i wi,.l wf wl,.i lv,.s cs,.s nm,.b st,.i wt,.i ds,.i a0,.i a1,.i a2,.i b0,.i b1,.i b2,.l nl2 ab])
noncomputable abbrev x18Cl (f:Bool) (us:List PV) (n k:Nat) (f2:Bool) (us2:List PV) (len i p0 p1 p2:Int) (Dq:List (PV × PV)) (s0 s1 s2:Int) (D0 D:List (PV × PV)) (nl:Bool) (es:List PV) (x y z:Int) (rf:Bool) (rp:List PV) (rc:Int)
 (wi:Int) (wf:Bool) (wl:List PV) (lv:Int) (cs nm:ByteArray) (st:Bool) (wt ds a0 a1 a2 b0 b1 b2:Int) (nl2:Bool) (ab:List PV):PX × List PV × List Row:=
 (.exit 4,tm 116 [(4,.ptr 2 1 0 0),(7,.CQ f 49 us),(8,.mp 4),(9,.sl 5 n 0 k),(10,.ptr 6 1 0 0),(57,.CQ f2 49 us2),(58,iv len),(59,iv i)],
  (E1.put (Jb f us n k f2 us2 len i 0 0 0 0 p0 p1 p2 Dq s0 s1 s2 D0 D nl es x y z rf rp rc wi wf wl lv cs nm st wt ds a0 a1 a2 b0 b1 b2 nl2 ab)).2)
noncomputable abbrev h18Cl (p0 p1 p2:Int) (Dq:List (PV × PV)) (s0 s1 s2:Int) (D0 D:List (PV × PV)) (nl:Bool) (es:List PV) (x y z:Int) (rf:Bool) (rp:List PV) (rc:Int)
 (wi:Int) (wf:Bool) (wl:List PV) (lv:Int) (cs nm:ByteArray) (st:Bool) (wt ds a0 a1 a2 b0 b1 b2:Int) (nl2:Bool) (ab:List PV) (j:Int):List Row:=
 (E1.put (Jb false [] 0 0 false [] 0 0 0 0 0 0 p0 p1 p2 Dq s0 s1 s2 D0 D nl es x y z rf rp rc wi wf wl lv cs nm st wt ds a0 a1 a2 b0 b1 b2 nl2 ab)).2++[abRow (rE ab j),C6]
theorem q18Cl (f:Bool) (us:List PV) (n k:Nat) (f2:Bool) (us2:List PV) (len i:Int) (n2 k2:Nat) (l2 j p0 p1 p2:Int) (Dq:List (PV × PV)) (s0 s1 s2:Int) (D0 D:List (PV × PV)) (es:List PV) (x y z:Int) (rf:Bool) (rp:List PV) (rc:Int)
 (wi:Int) (wf:Bool) (wl:List PV) (lv:Int) (cs nm:ByteArray) (st:Bool) (wt ds a0 a1 a2 b0 b1 b2:Int) (nl2:Bool) (ab:List PV):
 CR Try.prog R67 60 33 (CZ Try.f33 18) [4,7,8,9,10,15,57,58,59,74,75,76] [4,7,8,9,10,57,58,59] (E1.put (Jb f us n k f2 us2 len i n2 k2 l2 j p0 p1 p2 Dq s0 s1 s2 D0 D false es x y z rf rp rc wi wf wl lv cs nm st wt ds a0 a1 a2 b0 b1 b2 nl2 ab)).1 (E1.put (Jb f us n k f2 us2 len i n2 k2 l2 j p0 p1 p2 Dq s0 s1 s2 D0 D false es x y z rf rp rc wi wf wl lv cs nm st wt ds a0 a1 a2 b0 b1 b2 nl2 ab)).2 =
 bif decide (j<l2) then ixR ab n2 k2 j (J0 ab n2 (bif eq3 (cI (rE ab j) 0) (cI (rE ab j) 1) (cI (rE ab j) 2) x y z then bif !DA D (Dy (cI (rE ab j) 3) (cI (rE ab j) 4) (cI (rE ab j) 5)) then
  bif decide (0<rp.length) then bif decide ((0+rp.length)*8<=140737488355328) then bif GQ (h18Cl p0 p1 p2 Dq s0 s1 s2 D0 D false es x y z rf rp rc wi wf wl lv cs nm st wt ds a0 a1 a2 b0 b1 b2 nl2 ab j) (h18Cl p0 p1 p2 Dq s0 s1 s2 D0 D false es x y z rf rp rc wi wf wl lv cs nm st wt ds a0 a1 a2 b0 b1 b2 nl2 ab j) then
  bif okF2 rp wi then bif decide (wl.length<=100000) then bif (es.length==n)&&(decide (k<=n)&&decide ((n+1)*56<=140737488355328)) then
   some (.normal,E1.put (Jb f us (max n (k+1)) (k+1) f2 us2 len i n2 k2 l2 (W (j+1)) p0 p1 p2 Dq s0 s1 s2 D0 D false (es.take k++GW (cI (rE ab j) 3) (cI (rE ab j) 4) (cI (rE ab j) 5) false (newQ2 rp wi) (W (rc+Df wl))::es.drop (k+1)) x y z rf rp rc wi wf wl lv cs nm st wt ds a0 a1 a2 b0 b1 b2 nl2 ab))
  else none else none else none else none else none else none
  else some (.normal,E1.put (Jb f us n k f2 us2 len i n2 k2 l2 (W (j+1)) p0 p1 p2 Dq s0 s1 s2 D0 D false es x y z rf rp rc wi wf wl lv cs nm st wt ds a0 a1 a2 b0 b1 b2 nl2 ab))
  else some (.normal,E1.put (Jb f us n k f2 us2 len i n2 k2 l2 (W (j+1)) p0 p1 p2 Dq s0 s1 s2 D0 D false es x y z rf rp rc wi wf wl lv cs nm st wt ds a0 a1 a2 b0 b1 b2 nl2 ab))))
 else some (x18Cl f us n k f2 us2 len i p0 p1 p2 Dq s0 s1 s2 D0 D false es x y z rf rp rc wi wf wl lv cs nm st wt ds a0 a1 a2 b0 b1 b2 nl2 ab):=by kernel_rfl
theorem q18NCl (f:Bool) (us:List PV) (k:Nat) (f2:Bool) (us2:List PV) (len i j p0 p1 p2:Int) (Dq:List (PV × PV)) (s0 s1 s2:Int) (D0 D:List (PV × PV)) (es:List PV) (x y z:Int) (rf:Bool) (rp:List PV) (rc:Int)
 (wi:Int) (wf:Bool) (wl:List PV) (lv:Int) (cs nm:ByteArray) (st:Bool) (wt ds a0 a1 a2 b0 b1 b2:Int) (nl2:Bool) (ab:List PV) (hj:0<=j) (hj2:j<(ab.length:Int)) (hab:ab.length<=2) (hk:k<=es.length) (hes:es.length<=600000) (hwl:wl.length<=1000) (hrc:0<=rc) (hrc2:rc<=1000000000000000000) (hr0:0<rp.length) (hr1:rp.length<=100000):
 CR Try.prog R67 60 33 (CZ Try.f33 18) [4,7,8,9,10,15,57,58,59,74,75,76] [4,7,8,9,10,57,58,59] (E1.put (Jb f us es.length k f2 us2 len i ab.length ab.length ab.length j p0 p1 p2 Dq s0 s1 s2 D0 D false es x y z rf rp rc wi wf wl lv cs nm st wt ds a0 a1 a2 b0 b1 b2 nl2 ab)).1 (E1.put (Jb f us es.length k f2 us2 len i ab.length ab.length ab.length j p0 p1 p2 Dq s0 s1 s2 D0 D false es x y z rf rp rc wi wf wl lv cs nm st wt ds a0 a1 a2 b0 b1 b2 nl2 ab)).2 =
 some (.normal,E1.put (Jb f us (Jd x y z D (rp++[iv wi]) (rc+Df wl) (es,k) (aE ab j)).1.length (Jd x y z D (rp++[iv wi]) (rc+Df wl) (es,k) (aE ab j)).2 f2 us2 len i ab.length ab.length ab.length (j+1) p0 p1 p2 Dq s0 s1 s2 D0 D false (Jd x y z D (rp++[iv wi]) (rc+Df wl) (es,k) (aE ab j)).1 x y z rf rp rc wi wf wl lv cs nm st wt ds a0 a1 a2 b0 b1 b2 nl2 ab)):=by
 obtain⟨w1,w2⟩:=GX hwl;rw[q18Cl,Ac hj2,Am,G5 rfl hj hj2,DQ rfl,Dc (n:=j+1) (by omega) (by omega),Dc (n:=rc+Df wl) (by omega) (by omega),rE_a,EF,Ac hr0,Ac (show (0+rp.length)*8<=140737488355328 by omega),okF2_of (wi:=wi) (show rp.length<=1000000 by omega),newQ2_eq,
  Ac (show wl.length<=100000 by omega),show ((es.length==es.length)&&(decide (k<=es.length)&&decide ((es.length+1)*56<=140737488355328)))=true by simp only[AR,Cf,Aa,Ab];omega]
 simp only[Am];unfold Jd cdJ;cases h1:eq3 (cI (aE ab j) 0) (cI (aE ab j) 1) (cI (aE ab j) 2) x y z with
 | false=>rfl
 | true =>
  cases h2:DA D (Dy (cI (aE ab j) 3) (cI (aE ab j) 4) (cI (aE ab j) 5)) with
  | true=>rfl
  | false =>
   have e1:=Ng (z:=elZ (aE ab j) (rp++[iv wi]) (rc+Df wl)) hk;simp only[Am,BU,Bn,e1];rfl
def p18Cl:LS->Bool
 | ([.l _ _,.n n,.n k,.l _ _,.i _,.i _,.n n2,.n k2,.i l2,.i j],[.i _,.i _,.i _,.m _,.i _,.i _,.i _,.m _,.m _,.l nl es,.i _,.i _,.i _,.l _ rp,.i rc,
  .i _,.l _ wl,.i _,.s _,.s _,.b _,.i _,.i _,.i _,.i _,.i _,.i _,.i _,.i _,.l _ ab]) =>
  decide (n=es.length)&&decide (k<=es.length)&&decide (n2=ab.length)&&decide (k2=ab.length)&&decide (l2=(ab.length:Int))&&decide (0<=j)&&decide (j<=(ab.length:Int))&&decide (ab.length<=2)&&decide ((es.length:Int)<=500000+j)&&decide (wl.length<=1000)&&decide (0<=rc)&&decide (rc<=1000000000000000000) && !nl&&decide (0<rp.length)&&decide (rp.length<=100000)
 | _=>false
noncomputable def f18Cl:LS->DT (PX × List PV × List Row)
 | ([.l f us,.n _,.n k,.l f2 us2,.i len,.i i,.n _,.n _,.i _,.i j],[.i p0,.i p1,.i p2,.m Dq,.i s0,.i s1,.i s2,.m D0,.m D,.l _ es,.i x,.i y,.i z,.l rf rp,.i rc,
  .i wi,.l wf wl,.i lv,.s cs,.s nm,.b st,.i wt,.i ds,.i a0,.i a1,.i a2,.i b0,.i b1,.i b2,.l nl2 ab]) =>
  .leaf (x18Cl f us (G7 x y z D (rp++[iv wi]) (rc+Df wl) (es,k) (ab.drop j.toNat)).1.length (G7 x y z D (rp++[iv wi]) (rc+Df wl) (es,k) (ab.drop j.toNat)).2 f2 us2 len i p0 p1 p2 Dq s0 s1 s2 D0 D false (G7 x y z D (rp++[iv wi]) (rc+Df wl) (es,k) (ab.drop j.toNat)).1 x y z rf rp rc wi wf wl lv cs nm st wt ds a0 a1 a2 b0 b1 b2 nl2 ab)
 | _=>.no
def m18Cl:LS->Nat
 | ([.l _ _,.n _,.n _,.l _ _,.i _,.i _,.n _,.n _,.i l2,.i j],_)=>(l2-j).toNat
 | _=>0
theorem s18Cl:∀ s r,p18Cl s=true->(f18Cl s).run=some r->r.1 ≠ .normal/\(CR Try.prog R67 60 33 (CZ Try.f33 18) [4,7,8,9,10,15,57,58,59,74,75,76] [4,7,8,9,10,57,58,59] (E1.put s).1 (E1.put s).2=some r \/
   ∃ s',CR Try.prog R67 60 33 (CZ Try.f33 18) [4,7,8,9,10,15,57,58,59,74,75,76] [4,7,8,9,10,57,58,59] (E1.put s).1 (E1.put s).2=some (.normal,E1.put s')/\p18Cl s'=true/\m18Cl s'<m18Cl s/\(f18Cl s').run=some r):=by
 intro t r hp hr;unfold p18Cl at hp;split at hp
 ·rename_i f us n k f2 us2 len i n2 k2 l2 j p0 p1 p2 Dq s0 s1 s2 D0 D nl es x y z rf rp rc wi wf wl lv cs nm st wt ds a0 a1 a2 b0 b1 b2 nl2 ab;simp only[Aa,Ab,Al] at hp;obtain⟨⟨⟨⟨⟨⟨⟨⟨⟨⟨⟨⟨⟨⟨rfl,h2⟩,rfl⟩,rfl⟩,rfl⟩,h6⟩,h7⟩,h8⟩,h9⟩,h10⟩,h11⟩,h12⟩,rfl⟩,h14⟩,h15⟩:=hp;have hr':=(Ah hr).symm;refine⟨by rw[hr'];simp,?_⟩;rw[show E1.put ([.l f us,.n es.length,.n k,.l f2 us2,.i len,.i i,.n ab.length,.n ab.length,.i (ab.length:Int),.i j],[.i p0,.i p1,.i p2,.m Dq,.i s0,.i s1,.i s2,.m D0,.m D,.l false es,.i x,.i y,.i z,.l rf rp,.i rc,
   .i wi,.l wf wl,.i lv,.s cs,.s nm,.b st,.i wt,.i ds,.i a0,.i a1,.i a2,.i b0,.i b1,.i b2,.l nl2 ab])=E1.put (Jb f us es.length k f2 us2 len i ab.length ab.length ab.length j p0 p1 p2 Dq s0 s1 s2 D0 D false es x y z rf rp rc wi wf wl lv cs nm st wt ds a0 a1 a2 b0 b1 b2 nl2 ab) from rfl]
  by_cases hi:j<(ab.length:Int)
  ·rw[q18NCl (hj:=h6) (hj2:=hi) (hab:=h8) (hk:=h2) (hes:=by omega) (hwl:=h10) (hrc:=h11) (hrc2:=h12) (hr0:=h14) (hr1:=h15)];obtain⟨g1,g2,g3⟩:=JC (x:=x) (y:=y) (z:=z) (D:=D) (ps:=rp++[iv wi]) (c:=rc+Df wl) (s:=(es,k)) (e:=aE ab j) h2;simp only at g1 g2 g3;refine .inr ⟨_,rfl,?_,?_,?_⟩
   ·simp only[p18Cl,Aa,Ab,Al];exact⟨⟨⟨⟨⟨⟨⟨⟨⟨⟨⟨⟨⟨⟨trivial,g1⟩,trivial⟩,trivial⟩,trivial⟩,by omega⟩,by omega⟩,h8⟩,by omega⟩,h10⟩,h11⟩,h12⟩,trivial⟩,h14⟩,h15⟩
   ·simp only[m18Cl];omega
   ·rw[hr',Db h6 hi];rfl
  ·rw[q18Cl,Aj hi];rw[AG (by omega)] at hr';exact .inl (by rw[hr'];rfl)
 ·cases hp
noncomputable def R68:CO:=R67.C8 33 18 [4,7,8,9,10,15,57,58,59,74,75,76] [false,false,false,false,false,false,false,false,true,true,true,false] E1 p18Cl f18Cl
theorem okR68:Ck Try.prog R68.env:=
 okR67.C8 (n:=60) Try.func33 (show Try.f33.body=some (DL Try.f33) by kernel_rfl) (show (loops (DL Try.f33)).filter (fun b=>Ed b==18)=[CZ Try.f33 18] by kernel_rfl) [4,7,8,9,10,15,57,58,59,74,75,76] [4,7,8,9,10,57,58,59] [false,false,false,false,false,false,false,false,true,true,true,false] E1 m18Cl s18Cl
def GJ:S1:=⟨116,[(4,.ptr 2 1 0 0),(7,.CQ 49),(8,.mp 4),(9,.sl 5),(10,.ptr 6 1 0 0),(57,.CQ 49),(58,C4),(59,C4)],
 [.one 30 3 aS,.map 30 3,.one 30 3 aS,.map 30 4,.map 30 78,.many 78 5,.Gl 78 5 (.agg [C4,C4,C4,.CQ 3,C4]),.dead]⟩
abbrev l14Cl (f:Bool) (us:List PV) (n k:Nat) (f2:Bool) (us2:List PV) (len i p0 p1 p2:Int) (Dq:List (PV × PV)) (s0 s1 s2:Int) (D0 D:List (PV × PV)) (nl:Bool) (es:List PV) (x y z:Int) (rf:Bool) (rp:List PV) (rc:Int):LS:=
 ([.l f us,.n n,.n k,.l f2 us2,.i len,.i i],[.i p0,.i p1,.i p2,.m Dq,.i s0,.i s1,.i s2,.m D0,.m D,.l nl es,.i x,.i y,.i z,.l rf rp,.i rc])
noncomputable abbrev x14Cl (f:Bool) (us:List PV) (n k:Nat) (p0 p1 p2:Int) (Dq:List (PV × PV)) (s0 s1 s2:Int) (D0 D:List (PV × PV)) (nl:Bool) (es:List PV) (x y z:Int) (rf:Bool) (rp:List PV) (rc:Int):PX × List PV × List Row:=
 (.exit 2,tm 116 [(4,.ptr 2 1 0 0),(7,.CQ f 49 us),(8,.mp 4),(9,.sl 5 n 0 k)],(GJ.put (l14Cl f us n k false [] 0 0 p0 p1 p2 Dq s0 s1 s2 D0 D nl es x y z rf rp rc)).2)
theorem q14Cl (f:Bool) (us:List PV) (n k:Nat) (f2:Bool) (us2:List PV) (len i p0 p1 p2:Int) (Dq:List (PV × PV)) (s0 s1 s2:Int) (D0 D:List (PV × PV)) (es:List PV) (x y z:Int) (rf:Bool) (rp:List PV) (rc:Int):
 CR Try.prog R68 60 33 (CZ Try.f33 14) [4,7,8,9,10,57,58,59] [4,7,8,9] (GJ.put (l14Cl f us n k f2 us2 len i p0 p1 p2 Dq s0 s1 s2 D0 D false es x y z rf rp rc)).1 (GJ.put (l14Cl f us n k f2 us2 len i p0 p1 p2 Dq s0 s1 s2 D0 D false es x y z rf rp rc)).2 =
 bif decide (i<len) then bif H8 us2 i then bif stB (wL (us2.getD i.toNat .any)) then
  bif p18Cl (Jb f us n k f2 us2 len i 2 2 2 0 p0 p1 p2 Dq s0 s1 s2 D0 D false es x y z rf rp rc (wI (us2.getD i.toNat .any)) false (wL (us2.getD i.toNat .any)) (wLv (us2.getD i.toNat .any)) (cS (us2.getD i.toNat .any) 3) (cS (us2.getD i.toNat .any) 4) (Lc (us2.getD i.toNat .any)) (cI (us2.getD i.toNat .any) 6) (cI (us2.getD i.toNat .any) 7)
    (gX (eF (us2.getD i.toNat .any))) (gY (eF (us2.getD i.toNat .any))) (gL (eF (us2.getD i.toNat .any))) (gX (eL (us2.getD i.toNat .any))) (gY (eL (us2.getD i.toNat .any))) (gL (eL (us2.getD i.toNat .any))) false (abL (us2.getD i.toNat .any))) then
   some (.normal,GJ.put (l14Cl f us (G7 x y z D (rp++[iv (wI (us2.getD i.toNat .any))]) (rc+Df (wL (us2.getD i.toNat .any))) (es,k) ((abL (us2.getD i.toNat .any)).drop (0:Int).toNat)).1.length (G7 x y z D (rp++[iv (wI (us2.getD i.toNat .any))]) (rc+Df (wL (us2.getD i.toNat .any))) (es,k) ((abL (us2.getD i.toNat .any)).drop (0:Int).toNat)).2 f2 us2 len (W (i+1)) p0 p1 p2 Dq s0 s1 s2 D0 D false
    (G7 x y z D (rp++[iv (wI (us2.getD i.toNat .any))]) (rc+Df (wL (us2.getD i.toNat .any))) (es,k) ((abL (us2.getD i.toNat .any)).drop (0:Int).toNat)).1 x y z rf rp rc)) else none else none else none
 else some (x14Cl f us n k p0 p1 p2 Dq s0 s1 s2 D0 D false es x y z rf rp rc):=by kernel_rfl
def p14Cl:LS->Bool
 | ([.l _ _,.n n,.n k,.l _ us2,.i len,.i i],[.i _,.i _,.i _,.m _,.i _,.i _,.i _,.m _,.m _,.l nl es,.i _,.i _,.i _,.l _ rp,.i rc]) =>
  decide (n=es.length)&&decide (k<=es.length)&&decide (len=(us2.length:Int))&&decide (0<=i)&&decide (i<=(us2.length:Int))&&decide (us2.length<=100)&&decide ((es.length:Int)<=400000+2*i)&&(us2.all G8)&&decide (0<=rc)&&decide (rc<=1000000000000000000) && !nl&&decide (0<rp.length)&&decide (rp.length<=100000)
 | _=>false
noncomputable def f14Cl:LS->DT (PX × List PV × List Row)
 | ([.l f us,.n _,.n k,.l _ us2,.i _,.i i],[.i p0,.i p1,.i p2,.m Dq,.i s0,.i s1,.i s2,.m D0,.m D,.l _ es,.i x,.i y,.i z,.l rf rp,.i rc]) =>
  .leaf (x14Cl f us (Dt x y z D rp rc (es,k) (us2.drop i.toNat)).1.length (Dt x y z D rp rc (es,k) (us2.drop i.toNat)).2 p0 p1 p2 Dq s0 s1 s2 D0 D false (Dt x y z D rp rc (es,k) (us2.drop i.toNat)).1 x y z rf rp rc)
 | _=>.no
def m14Cl:LS->Nat
 | ([.l _ _,.n _,.n _,.l _ _,.i len,.i i],_)=>(len-i).toNat
 | _=>0
theorem s14Cl:∀ s r,p14Cl s=true->(f14Cl s).run=some r->r.1 ≠ .normal/\(CR Try.prog R68 60 33 (CZ Try.f33 14) [4,7,8,9,10,57,58,59] [4,7,8,9] (GJ.put s).1 (GJ.put s).2=some r \/
   ∃ s',CR Try.prog R68 60 33 (CZ Try.f33 14) [4,7,8,9,10,57,58,59] [4,7,8,9] (GJ.put s).1 (GJ.put s).2=some (.normal,GJ.put s')/\p14Cl s'=true/\m14Cl s'<m14Cl s/\(f14Cl s').run=some r):=by
 intro t r hp hr;unfold p14Cl at hp;split at hp
 ·rename_i f us n k f2 us2 len i p0 p1 p2 Dq s0 s1 s2 D0 D nl es x y z rf rp rc;simp only[Aa,Ab,Al] at hp;obtain⟨⟨⟨⟨⟨⟨⟨⟨⟨⟨⟨⟨rfl,h2⟩,rfl⟩,h4⟩,h5⟩,h6⟩,h7⟩,h8⟩,h9⟩,h10⟩,rfl⟩,h14⟩,h15⟩:=hp;have hr':=(Ah hr).symm;refine⟨by rw[hr'];simp,?_⟩;rw[show GJ.put ([.l f us,.n es.length,.n k,.l f2 us2,.i (us2.length:Int),.i i],[.i p0,.i p1,.i p2,.m Dq,.i s0,.i s1,.i s2,.m D0,.m D,.l false es,.i x,.i y,.i z,.l rf rp,.i rc]) =
   GJ.put (l14Cl f us es.length k f2 us2 us2.length i p0 p1 p2 Dq s0 s1 s2 D0 D false es x y z rf rp rc) from rfl,q14Cl]
  by_cases hi:i<(us2.length:Int)
  ·have hu:=Ap.1 h8 _ (aE_mem h4 hi);have hu0:¬ (wL (us2.getD i.toNat .any)).length=0/\(wL (us2.getD i.toNat .any)).length<=1000:=by
    have:G8 (us2.getD i.toNat .any)=true:=hu;simp only[G8,Aa,Al,AQ,Ab] at this;exact this
   rw[Db h4 hi] at hr';generalize us2.getD i.toNat .any=e at *;have hp18:p18Cl (Jb f us es.length k f2 us2 us2.length i 2 2 2 0 p0 p1 p2 Dq s0 s1 s2 D0 D false es x y z rf rp rc (wI e) false (wL e) (wLv e) (cS e 3) (cS e 4) (Lc e) (cI e 6) (cI e 7) (gX (eF e)) (gY (eF e)) (gL (eF e)) (gX (eL e)) (gY (eL e)) (gL (eL e)) false (abL e))=true:=by
    simp only[p18Cl,Aa,Ab,Al,Ay,AC];exact⟨⟨⟨⟨⟨⟨⟨⟨⟨⟨⟨⟨⟨⟨trivial,h2⟩,trivial⟩,trivial⟩,by decide⟩,by decide⟩,by decide⟩,by decide⟩,by omega⟩,hu0.2⟩,h9⟩,h10⟩,trivial⟩,h14⟩,h15⟩
   rw[Ac hi,D1 h4 hi,Kw hu0.1 (by omega),hp18,Dc (n:=i+1) (by omega) (by omega),show (0:Int).toNat=0 from rfl,AM];obtain⟨g1,g2,g3⟩:=I5 (x:=x) (y:=y) (z:=z) (D:=D) (ps:=rp) (rc:=rc) (s:=(es,k)) (e:=e) h2;simp only at g1 g2 g3;refine .inr ⟨l14Cl f us (Ib x y z D rp rc (es,k) e).1.length (Ib x y z D rp rc (es,k) e).2 f2 us2 us2.length (i+1) p0 p1 p2 Dq s0 s1 s2 D0 D false (Ib x y z D rp rc (es,k) e).1 x y z rf rp rc,rfl,?_,?_,?_⟩
   ·simp only[p14Cl,Aa,Ab,Al];exact⟨⟨⟨⟨⟨⟨⟨⟨⟨⟨⟨⟨trivial,g1⟩,trivial⟩,by omega⟩,by omega⟩,h6⟩,by omega⟩,h8⟩,h9⟩,h10⟩,trivial⟩,h14⟩,h15⟩
   ·simp only[m14Cl];omega
   ·rw[hr'];rfl
  ·rw[Aj hi];rw[AG (by omega)] at hr';exact .inl (by rw[hr'];rfl)
 ·cases hp
noncomputable def R69:CO:=R68.C8 33 14 [4,7,8,9,10,57,58,59] [false,false,false,false,false,false,true,false] GJ p14Cl f14Cl
theorem okR69:Ck Try.prog R69.env:=
 okR68.C8 (n:=60) Try.func33 (show Try.f33.body=some (DL Try.f33) by kernel_rfl) (show (loops (DL Try.f33)).filter (fun b=>Ed b==14)=[CZ Try.f33 14] by kernel_rfl) [4,7,8,9,10,57,58,59] [4,7,8,9] [false,false,false,false,false,false,true,false] GJ m14Cl s14Cl
def sh6C:S1:=⟨116,[(4,.ptr 2 1 0 0),(7,.CQ 49),(8,.mp 4),(9,.sl 5)],
 [.one 30 3 aS,.map 30 3,.one 30 3 aS,.map 30 4,.map 30 78,.many 78 5]⟩
abbrev l6C (f:Bool) (us:List PV) (n k:Nat) (p0 p1 p2:Int) (Dq:List (PV × PV)) (s0 s1 s2:Int) (D0 D:List (PV × PV)) (nl:Bool) (es:List PV):LS:=
 ([.l f us,.n n,.n k],[.i p0,.i p1,.i p2,.m Dq,.i s0,.i s1,.i s2,.m D0,.m D,.l nl es])
noncomputable abbrev x6C (p0 p1 p2:Int) (Dq:List (PV × PV)) (s0 s1 s2:Int) (D0 D:List (PV × PV)):PX × List PV × List Row:=
 (.ret,tm 116 [(6,.mp 4)],(sh6C.put (l6C false [] 0 0 p0 p1 p2 Dq s0 s1 s2 D0 D true [])).2.take 5++[C6])
theorem q6C (f:Bool) (us:List PV) (n k:Nat) (p0 p1 p2:Int) (Dq:List (PV × PV)) (s0 s1 s2:Int) (D0 D:List (PV × PV)) (es:List PV):
 CR Try.prog R69 60 33 (CZ Try.f33 6) [4,7,8,9] [6] (sh6C.put (l6C f us n k p0 p1 p2 Dq s0 s1 s2 D0 D false es)).1 (sh6C.put (l6C f us n k p0 p1 p2 Dq s0 s1 s2 D0 D false es)).2 =
 J0 es n (bif decide (n=es.length)&&decide (k<=es.length)&&decide (k<=1000000)&&(es.take k).all JB then
  bif !decide ((k:Int) > 0) then some (x6C p0 p1 p2 Dq s0 s1 s2 D0 D) else
  J0 es n (bif decide (n=es.length)&&decide (k<=es.length)&&decide (es.length<=1000000)&&ED nER es then
   bif DA D (Dy (gX (CW es k)) (gY (CW es k)) (gL (CW es k))) then some (.normal,sh6C.put (l6C f us n (Md es k).length p0 p1 p2 Dq s0 s1 s2 D0 D false (Nh es k))) else
   bif p14Cl (l14Cl f us n (Md es k).length f us us.length 0 p0 p1 p2 Dq s0 s1 s2 D0 (Ej D (Dy (gX (CW es k)) (gY (CW es k)) (gL (CW es k))) (G6 (CW es k))) false (Nh es k) (gX (CW es k)) (gY (CW es k)) (gL (CW es k)) false (rP (CW es k)) (rC (CW es k))) then
    some (.normal,sh6C.put (l6C f us (wjE us D es k).1.length (wjE us D es k).2 p0 p1 p2 Dq s0 s1 s2 D0 (Ej D (Dy (gX (CW es k)) (gY (CW es k)) (gL (CW es k))) (G6 (CW es k))) false (wjE us D es k).1)) else none
  else none) else none):=by kernel_rfl
def sh6FC:S1:=⟨116,[(4,.ptr 2 1 0 0),(7,.CQ 49),(8,.mp 4),(9,.sl 5)],
 [.one 30 3 aS,.map 30 3,.one 30 3 aS,.map 30 4,.map 30 78,.Gl 78 5 (.agg [C4,C4,C4,.nil,C4])]⟩
abbrev l6FC (f:Bool) (us:List PV) (n k:Nat) (p0 p1 p2:Int) (Dq:List (PV × PV)) (s0 s1 s2:Int) (D0 D:List (PV × PV)) (x y z c:Int):LS:=
 ([.l f us,.n n,.n k],[.i p0,.i p1,.i p2,.m Dq,.i s0,.i s1,.i s2,.m D0,.m D,.i x,.i y,.i z,.i c])
theorem q6FC (f:Bool) (us:List PV) (p0 p1 p2:Int) (Dq:List (PV × PV)) (s0 s1 s2:Int) (D0:List (PV × PV)) (x y z c:Int):
 CR Try.prog R69 60 33 (CZ Try.f33 6) [4,7,8,9] [6] (sh6FC.put (l6FC f us 1 1 p0 p1 p2 Dq s0 s1 s2 D0 [] x y z c)).1 (sh6FC.put (l6FC f us 1 1 p0 p1 p2 Dq s0 s1 s2 D0 [] x y z c)).2 =
 bif dB (x=x/\y=y/\z=z/\c=c) then
  bif p14Cn (l14Cn f us 1 0 f us us.length 0 p0 p1 p2 Dq s0 s1 s2 D0 [(Dy x y z,Dl x y z c)] false [IE] x y z c) then
   some (.normal,sh6C.put (l6C f us (Dt x y z [(Dy x y z,Dl x y z c)] [] c ([IE],0) (us.drop (0:Int).toNat)).1.length (Dt x y z [(Dy x y z,Dl x y z c)] [] c ([IE],0) (us.drop (0:Int).toNat)).2 p0 p1 p2 Dq s0 s1 s2 D0 [(Dy x y z,Dl x y z c)] false (Dt x y z [(Dy x y z,Dl x y z c)] [] c ([IE],0) (us.drop (0:Int).toNat)).1)) else none
 else none:=by kernel_rfl
def Nk (s:Bool × LS):List PV × List Row:=match s.1 with | true=>sh6C.put s.2 | false=>sh6FC.put s.2
def get6C (S:List PV) (H:List Row):Option (Bool × LS):=
 match sh6C.get S H with
 | some s=>some (true,s)
 | none=>match sh6FC.get S H with | some s=>some (false,s) | none=>none
theorem get6C_emb (S:List PV) (H:List Row) (s:Bool × LS) (h:get6C S H=some s):S=(Nk s).1/\H=(Nk s).2:=by
 unfold get6C at h;split at h
 ·rename_i q hq;cases h;exact S1.Fh _ _ _ hq
 ·split at h
  ·rename_i q hq;cases h;exact S1.Fh _ _ _ hq
  ·cases h
noncomputable def LG:Bool × LS->Bool
 | (true,([.l _ us,.n n,.n k],[.i _,.i _,.i _,.m _,.i s0,.i s1,.i s2,.m _,.m D,.l nl es]))=>decide (n=es.length) && !nl&&dB (P6 us (s0,s1,s2) D es k)
 | (false,([.l _ us,.n n,.n k],[.i _,.i _,.i _,.m _,.i s0,.i s1,.i s2,.m _,.m D,.i x,.i y,.i z,.i c]))=>dB (n=1/\k=1/\D=[]/\x=s0/\y=s1/\z=s2/\c=0)&&us.all G8&&decide (us.length<=100)
 | _=>false
noncomputable def fin6C:Bool × LS->DT (PX × List PV × List Row)
 | (true,([.l _ us,.n _,.n k],[.i p0,.i p1,.i p2,.m Dq,.i s0,.i s1,.i s2,.m D0,.m D,.l _ es]))=>.leaf (x6C p0 p1 p2 Dq s0 s1 s2 D0 (JX us (s0,s1,s2) D es k))
 | (false,([.l _ us,.n _,.n _],[.i p0,.i p1,.i p2,.m Dq,.i s0,.i s1,.i s2,.m D0,.m _,.i _,.i _,.i _,.i _]))=>.leaf (x6C p0 p1 p2 Dq s0 s1 s2 D0 (Lh us (s0,s1,s2)))
 | _=>.no
noncomputable def mes6C:Bool × LS->Nat
 | (true,([.l _ us,.n _,.n k],[.i _,.i _,.i _,.m _,.i s0,.i s1,.i s2,.m _,.m D,.l _ es]))=>muU us (s0,s1,s2) D es k
 | (false,([.l _ us,.n _,.n _],[.i _,.i _,.i _,.m _,.i s0,.i s1,.i s2,.m _,.m _,.i _,.i _,.i _,.i _]))=>muA us (s0,s1,s2)
 | _=>0
theorem stp6C:∀ s r,LG s=true->(fin6C s).run=some r->r.1 ≠ .normal/\(CR Try.prog R69 60 33 (CZ Try.f33 6) [4,7,8,9] [6] (Nk s).1 (Nk s).2=some r \/
  ∃ s',CR Try.prog R69 60 33 (CZ Try.f33 6) [4,7,8,9] [6] (Nk s).1 (Nk s).2=some (.normal,Nk s')/\LG s'=true/\mes6C s'<mes6C s/\(fin6C s').run=some r):=by
 intro t r hp hr;unfold LG at hp;split at hp
 ·rename_i f us n k p0 p1 p2 Dq s0 s1 s2 D0 D nl es;simp only[Aa,Ab,Al,D3] at hp;obtain⟨⟨rfl,rfl⟩,h⟩:=hp;have hr':=(Ah hr).symm;refine⟨by rw[hr'];simp,?_⟩;show (CR Try.prog R69 60 33 (CZ Try.f33 6) [4,7,8,9] [6] (sh6C.put (l6C f us es.length k p0 p1 p2 Dq s0 s1 s2 D0 D false es)).1 (sh6C.put (l6C f us es.length k p0 p1 p2 Dq s0 s1 s2 D0 D false es)).2=some r \/
   ∃ s',CR Try.prog R69 60 33 (CZ Try.f33 6) [4,7,8,9] [6] (sh6C.put (l6C f us es.length k p0 p1 p2 Dq s0 s1 s2 D0 D false es)).1 (sh6C.put (l6C f us es.length k p0 p1 p2 Dq s0 s1 s2 D0 D false es)).2=some (.normal,Nk s')/\_/\_/\_)
  obtain⟨c1,c2⟩:=h.caps;have hk:=h.hk;have hsh:(es.take k).all JB=true:=by
   rw[Ap];intro e he;have hb:=h.dij.bN (JD e) (Bp he);unfold JB;rw[Ab];have:(Dh (rP e)).length=(rP e).length:=E6 _;simp only[JD,A1] at hb;omega
  rw[q6C,DQ rfl,DQ rfl,Ac (show es.length=es.length from rfl),Ac hk,Ac (show k<=1000000 by omega),hsh,Ac (show es.length<=1000000 by omega),DM.2 h.norm];simp only[Bn,Am];by_cases h0:0<k
  ·rw[Ac (show (k:Int) > 0 by omega),BP,At];have hlen:(Nh es k).length=es.length:=HV hk;cases hm:DA D (Dy (gX (CW es k)) (gY (CW es k)) (gL (CW es k))) with
   | true =>
    obtain⟨g1,g2,g3⟩:=h.known h0 hm;refine .inr ⟨(true,l6C f us es.length (Md es k).length p0 p1 p2 Dq s0 s1 s2 D0 D false (Nh es k)),rfl,?_,g2,?_⟩
    ·simp only[LG,Aa,Ab,Al,D3];exact⟨⟨hlen.symm,trivial⟩,g1⟩
    ·rw[hr'];show some (x6C _ _ _ _ _ _ _ _ (JX us (s0,s1,s2) D (Nh es k) (Md es k).length))=_;rw[g3]
   | false =>
    obtain⟨g1,g2,g3,v1,v2,v3,v4⟩:=h.take' h0 hm;have hle:(Md es k).length<=(Nh es k).length:=by
     rw[hlen];have:=Eb (d:=H9 (gX (CW es k)) (gY (CW es k)) (gL (CW es k))) (es.take k);rw[Az] at this;show (CU _ (es.take k)).length<=_
     omega
    have hp14:p14Cl (l14Cl f us es.length (Md es k).length f us us.length 0 p0 p1 p2 Dq s0 s1 s2 D0 (Ej D (Dy (gX (CW es k)) (gY (CW es k)) (gL (CW es k))) (G6 (CW es k))) false (Nh es k) (gX (CW es k)) (gY (CW es k)) (gL (CW es k)) false (rP (CW es k)) (rC (CW es k)))=true:=by
     simp only[p14Cl,Aa,Ab,Al];exact⟨⟨⟨⟨⟨⟨⟨⟨⟨⟨⟨⟨hlen.symm,hle⟩,trivial⟩,by omega⟩,by omega⟩,h.few⟩,by rw[hlen];omega⟩,h.use⟩,v1⟩,v2⟩,trivial⟩,v3⟩,v4⟩
    rw[At,hp14,Am];refine .inr ⟨(true,l6C f us (wjE us D es k).1.length (wjE us D es k).2 p0 p1 p2 Dq s0 s1 s2 D0 (Ej D (Dy (gX (CW es k)) (gY (CW es k)) (gL (CW es k))) (G6 (CW es k))) false (wjE us D es k).1),rfl,?_,g2,?_⟩
    ·simp only[LG,Aa,Ab,Al,D3];exact⟨⟨trivial,trivial⟩,g1⟩
    ·rw[hr'];show some (x6C _ _ _ _ _ _ _ _ (JX us (s0,s1,s2) _ (wjE us D es k).1 (wjE us D es k).2))=_;rw[g3]
  ·have hk0:k=0:=by omega
   subst hk0;rw[Aj (show ¬ ((0:Nat):Int) > 0 by omega),BU,Am];refine .inl ?_;rw[hr',h.nil]
 ·rename_i f us n k p0 p1 p2 Dq s0 s1 s2 D0 D x y z c;simp only[Aa,Ab,D3] at hp;obtain⟨⟨⟨rfl,rfl,rfl,rfl,rfl,rfl,rfl⟩,hu⟩,hf⟩:=hp;have hr':=(Ah hr).symm;refine⟨by rw[hr'];simp,?_⟩;obtain⟨g1,g2,g3⟩:=P6.first (x:=x) (y:=y) (z:=z) hu hf
  have hq:=q6FC f us p0 p1 p2 Dq x y z D0 x y z 0;have hp14:p14Cn (l14Cn f us 1 0 f us us.length 0 p0 p1 p2 Dq x y z D0 [(Dy x y z,Dl x y z 0)] false [IE] x y z 0)=true:=by
   simp only[p14Cn,Aa,Ab,Al,Ay,AC];exact⟨⟨⟨⟨⟨⟨⟨⟨⟨⟨by first | exact True.intro | omega,by first | exact True.intro | omega⟩,trivial⟩,by first | exact True.intro | omega⟩,by first | exact True.intro | omega⟩,hf⟩,by first | exact True.intro | omega⟩,hu⟩,by first | exact True.intro | omega⟩,by first | exact True.intro | omega⟩,trivial⟩
  rw[D3.2 (⟨rfl,rfl,rfl,rfl⟩:x=x/\y=y/\z=z/\(0:Int)=0),hp14,Am,Am,show (0:Int).toNat=0 from rfl,AM] at hq;refine .inr ⟨(true,l6C f us (Dt x y z [(Dy x y z,Dl x y z 0)] [] 0 ([IE],0) us).1.length (Dt x y z [(Dy x y z,Dl x y z 0)] [] 0 ([IE],0) us).2 p0 p1 p2 Dq x y z D0 [(Dy x y z,Dl x y z 0)] false (Dt x y z [(Dy x y z,Dl x y z 0)] [] 0 ([IE],0) us).1),hq,?_,g2,?_⟩
  ·simp only[LG,Aa,Ab,Al,D3];exact⟨⟨trivial,trivial⟩,g1⟩
  ·rw[hr'];show some (x6C _ _ _ _ _ _ _ _ (JX us (x,y,z) _ _ _))=_;rw[g3,<- Ni]
 ·cases hp
noncomputable def R70:CO:=R69.Ks 33 6 [4,7,8,9] (Jq [] get6C LG fin6C)
theorem okR70:Ck Try.prog R70.env:=
 okR69.Ks Try.func33 (show Try.f33.body=some (DL Try.f33) by kernel_rfl) (show (loops (DL Try.f33)).filter (fun b=>Ed b==6)=[CZ Try.f33 6] by kernel_rfl)
  fun hs ro S H d x S' H'=>loopW (n:=60) okR69 [4,7,8,9] [6] Nk get6C_emb mes6C stp6C hs ro S H d x S' H'
def shSC:S1:=⟨27,[(3,.mp 3),(10,.CQ 49),(11,C4),(12,C4)],[.one 30 3 aS,.map 30 3,.one 30 3 aS,.map 30 4]⟩
abbrev lSC (f:Bool) (es:List PV) (len i:Int) (p0 p1 p2:Int) (Dq:List (PV × PV)) (s0 s1 s2:Int) (D:List (PV × PV)):LS:=([.l f es,.i len,.i i],[.i p0,.i p1,.i p2,.m Dq,.i s0,.i s1,.i s2,.m D])
noncomputable abbrev xSC (p0 p1 p2:Int) (Dq:List (PV × PV)) (s0 s1 s2:Int) (D:List (PV × PV)):PX × List PV × List Row:=(.exit 0,tm 27 [(3,.mp 3)],(shSC.put (lSC false [] 0 0 p0 p1 p2 Dq s0 s1 s2 D)).2)
theorem qSC (f:Bool) (es:List PV) (len i:Int) (p0 p1 p2:Int) (Dq:List (PV × PV)) (s0 s1 s2:Int) (D:List (PV × PV)):CR Try.prog R70 60 37 (CZ Try.f37 3) [3,10,11,12] [3] (shSC.put (lSC f es len i p0 p1 p2 Dq s0 s1 s2 D)).1 (shSC.put (lSC f es len i p0 p1 p2 Dq s0 s1 s2 D)).2 =
 bif decide (i<len) then bif decide (0<=i)&&decide (i<(es.length:Int)) then bif stB (wL (es.getD i.toNat .any)) then
  some (.normal,shSC.put (lSC f es len (W (i+1)) p0 p1 p2 Dq s0 s1 s2 (DG D (es.getD i.toNat .any)))) else none else none else some (xSC p0 p1 p2 Dq s0 s1 s2 D):=by kernel_rfl
def pSC:LS->Bool
 | ([.l _ es,.i len,.i i],[.i _,.i _,.i _,.m _,.i _,.i _,.i _,.m _])=>decide (len=(es.length:Int))&&decide (0<=i)&&decide (i<=len)&&decide (es.length<=1000)&&(es.drop i.toNat).all fun e=>stB (wL e)
 | _=>false
noncomputable def fSC:LS->DT (PX × List PV × List Row)
 | ([.l _ es,.i _,.i i],[.i p0,.i p1,.i p2,.m Dq,.i s0,.i s1,.i s2,.m D])=>.leaf (xSC p0 p1 p2 Dq s0 s1 s2 (GD (es.drop i.toNat) D))
 | _=>.no
def mSC:LS->Nat
 | ([.l _ _,.i len,.i i],_)=>(len-i).toNat
 | _=>0
theorem sSC:∀ s r,pSC s=true->(fSC s).run=some r->r.1 ≠ .normal/\(CR Try.prog R70 60 37 (CZ Try.f37 3) [3,10,11,12] [3] (shSC.put s).1 (shSC.put s).2=some r \/
   ∃ s',CR Try.prog R70 60 37 (CZ Try.f37 3) [3,10,11,12] [3] (shSC.put s).1 (shSC.put s).2=some (.normal,shSC.put s')/\pSC s'=true/\mSC s'<mSC s/\(fSC s').run=some r):=by
 intro t r hp hr;unfold pSC at hp;split at hp
 ·rename_i f es len i p0 p1 p2 Dq s0 s1 s2 D;simp only[Aa,Ab] at hp;obtain⟨⟨⟨⟨rfl,h2⟩,h3⟩,h4⟩,h5⟩:=hp;have hr':=(Ah hr).symm;refine⟨by rw[hr'];simp,?_⟩;rw[show shSC.put ([.l f es,.i (es.length:Int),.i i],[.i p0,.i p1,.i p2,.m Dq,.i s0,.i s1,.i s2,.m D])=shSC.put (lSC f es (es.length:Int) i p0 p1 p2 Dq s0 s1 s2 D) from rfl,qSC];by_cases hi:i<(es.length:Int)
  ·rw[Db h2 hi,Ce,Aa] at h5;rw[Ac hi,Ac h2,h5.1,Dc (by omega) (by omega)];refine .inr ⟨lSC f es es.length (i+1) p0 p1 p2 Dq s0 s1 s2 (DG D (es.getD i.toNat .any)),rfl,by simp only[pSC,Aa,Ab];exact⟨⟨⟨⟨trivial,by omega⟩,by omega⟩,h4⟩,h5.2⟩,by simp only[mSC];omega,?_⟩;rw[hr',Db h2 hi];rfl
  ·rw[Aj hi,AG (by omega)] at *;exact .inl (by rw[hr'];rfl)
 ·cases hp
noncomputable def R71:CO:=R70.C8 37 3 [3,10,11,12] [false,false,false,false] shSC pSC fSC
theorem okR71:Ck Try.prog R71.env:=
 okR70.C8 (n:=60) Try.func37 (show Try.f37.body=some (DL Try.f37) by kernel_rfl) (show (loops (DL Try.f37)).filter (fun b=>Ed b==3)=[CZ Try.f37 3] by kernel_rfl) [3,10,11,12] [3] [false,false,false,false] shSC mSC sSC

theorem mlC0:(FJ (CZ Try.f16 3)).isSome=true:=by kernel_rfl
noncomputable def mlC:ML:=(FJ (CZ Try.f16 3)).get mlC0
theorem mlC_eq:FJ (CZ Try.f16 3)=some mlC:=(Option.some_get mlC0).symm
theorem mlC_out:mlC.out=0:=by kernel_rfl
theorem mlC_it:mlC.it=15:=by kernel_rfl
theorem mlC_d1:mlC.d1=16:=by kernel_rfl
theorem mlC_q:mlC.q=17:=by kernel_rfl
abbrev sC:List PV:=tm 26 [(7,.mp 1),(15,.mp 6)]
abbrev hC (p0 p1 p2 s0 s1 s2:Int) (D0 D Dq:List (PV × PV)) (s:ItS):List Row:=[F7 p0 p1 p2,Dd k0 30 3 Dq,F7 s0 s1 s2,Dd k0 30 4 D0,Dd k0 30 78 D,C6,C9 (.mp 4) s]
theorem qC1 (p0 p1 p2 s0 s1 s2:Int) (D0 D Dq:List (PV × PV)) (bm s:Nat) (seen:Array Nat) (ck:Nat) (x y z a b d:Int) (ps:List PV) (c:Int):
  rndM Try.prog R71 60 16 mlC [7,15] sC (hC p0 p1 p2 s0 s1 s2 D0 D Dq (.at bm s seen ck)) (Dy x y z) (GW a b d false ps c) =
 some (sC,hC p0 p1 p2 s0 s1 s2 D0 D (Ej Dq (Dy x y z) (iv c)) (.at bm s seen ck)):=by kernel_rfl
theorem qC2 (p0 p1 p2 s0 s1 s2:Int) (D0 D Dq:List (PV × PV)) (bm s:Nat) (seen:Array Nat) (ck:Nat) (x y z a b d:Int) (c:Int):
  rndM Try.prog R71 60 16 mlC [7,15] sC (hC p0 p1 p2 s0 s1 s2 D0 D Dq (.at bm s seen ck)) (Dy x y z) (Dl a b d c) =
 some (sC,hC p0 p1 p2 s0 s1 s2 D0 D (Ej Dq (Dy x y z) (iv c)) (.at bm s seen ck)):=by kernel_rfl
def Ml (u:PV × PV):PV × PV:=(u.1,iv (rC u.2))
abbrev GK (r:Rc):PV × PV:=(FG r.1,iv r.2.1)
theorem cst_enc (r:Rc):Ml (Fy r)=GK r:=by
 unfold Ml Fy;rw[encV_C]
def MapD (D:List (PV × PV)):Prop:=(D.map Ep).map Fy=D/\((D.map Ep).map (·.1)).Nodup/\D.length<=5000
abbrev OkC (D:List (PV × PV)) (j:Nat) (kv:PV × PV):Prop:=D[j]? = some kv
abbrev visC (p0 p1 p2 s0 s1 s2:Int) (D0 D:List (PV × PV)) (vis:List (Nat × (PV × PV))):List PV × List Row:=
 (sC,hC p0 p1 p2 s0 s1 s2 D0 D (vis.map fun x=>Ml x.2) .some)
theorem mput_new {k v:PV}:∀ {D:List (PV × PV)},DA D k=false->Ej D k v=D++[(k,v)]
 | [],_=>rfl
 | (a,w)::D,h=>by
  have h':(ID k a||DA D k)=false:=h;rw[BL] at h';show (bif ID k a then _ else (a,w)::Ej D k v)=_
  rw[h'.1,At,mput_new h'.2];rfl
theorem Nm {t:T3}:∀ {L:List Rc},DA (L.map GK) (FG t)=decide (t ∈ L.map (·.1))
 | []=>by simp[DA]
 | x::L=>by
  show (ID (FG t) (FG x.1)||DA (L.map GK) (FG t))=_
  rw[Ir,Nm];by_cases h:t=x.1
  ·rw[Ac h,Ac (show t ∈ (x::L).map (·.1) by rw[h];simp)];rfl
  ·rw[Aj h,By,Cz];simp only[AZ,AK,h,Dk]
theorem mapC {p0 p1 p2 s0 s1 s2:Int} {D0 D:List (PV × PV)} (hD:MapD D):
  MLoop Try.prog R71 60 16 mlC [7,15] 6 4 D.length (OkC D) (visC p0 p1 p2 s0 s1 s2 D0 D) where
 ne:=by decide
 hd:=fun vis=>by rw[mlC_d1,mlC_q];exact⟨show 16<26 by decide,show 17<26 by decide⟩
 hS:=fun vis=>by rw[mlC_it];rfl
 hi:=fun vis=>rfl
 hm:=fun vis=>⟨_,_,rfl,rfl,rfl⟩
 G2:=fun vis C bm s hH hR hρ=>by
  have hrow:C.H[4]? = some (Dd k0 30 78 D):=by rw[hH];rfl
  obtain⟨es,ck,h1,h2,h3,h4⟩:=((hR.Hw 4 bm _ ⟨k0,.map 30 78 D⟩ hρ hrow rfl rfl).map 30 78 D rfl).mem;refine⟨es,by rw[h1,h3],h2,fun j e he => ?_⟩;have hj:j<D.length:=by rw[<- h2];exact (Aq.1 he).1
  obtain⟨g1,g2,g3⟩:=h4 j D[j].1 D[j].2 e (by rw[Ae hj]) he;exact⟨g1,D[j],Ae hj,g2,g3⟩
 step:=fun vis j kv bm s seen ck hok hkv hn hj hlt hjN=>by
  obtain⟨hD1,hD2,hD3⟩:=hD
  -- the entries visited,as stops with costs
  have hdec:∀ x ∈ vis,x.2=Fy (Ep x.2):=fun x hx=>by
   have h1:=Ag (hok x hx);rw[<- hD1] at h1;obtain⟨r,_,hr⟩:=AW.1 h1;rw[<- hr,dec_encD]
  have hkd:kv=Fy (Ep kv):=by
   have h1:=Ag hkv;rw[<- hD1] at h1;obtain⟨r,_,hr⟩:=AW.1 h1;rw[<- hr,dec_encD]
  have hvm:(vis.map fun x=>Ml x.2)=(vis.map fun x=>Ep x.2).map GK:=by
   rw[Cb];apply BE
   intro x hx;show Ml x.2=GK (Ep x.2)
   rw[<- cst_enc,<- hdec x hx]
  have hnew:(Ep kv).1 ∉ ((vis.map fun x=>Ep x.2).map (·.1)):=fun hh=>by
   rw[Cb] at hh;obtain⟨x,hx,hxe⟩:=AW.1 hh;have hxe':(Ep x.2).1=(Ep kv).1:=hxe;have e1:((D.map Ep).map (·.1))[x.1]? = some (Ep x.2).1:=by rw[Ao,Ao,hok x hx];rfl
   have e2:((D.map Ep).map (·.1))[j]? = some (Ep kv).1:=by rw[Ao,Ao,hkv];rfl
   rw[hxe',<- e2] at e1;have hx1:x.1<((D.map Ep).map (·.1)).length:=by rw[A1,A1];exact hlt x hx
   have:=(List.getElem?_inj hx1 hD2).1 e1;exact hj (by rw[<- this];exact Bp hx)
  have hput:Ej (vis.map fun x=>Ml x.2) (FG (Ep kv).1) (iv (Ep kv).2.1)=(vis++[(j,kv)]).map fun x=>Ml x.2:=by
   rw[hvm,mput_new (by rw[Nm,Aj hnew]),<- hvm,BB];show _++[GK (Ep kv)]=_++[Ml kv]
   rw[<- cst_enc,<- hkd]
  show rndM Try.prog R71 60 16 mlC [7,15] sC (hC p0 p1 p2 s0 s1 s2 D0 D (vis.map fun x=>Ml x.2) (.at bm s seen ck)) kv.1 kv.2 =
   some (sC,hC p0 p1 p2 s0 s1 s2 D0 D ((vis++[(j,kv)]).map fun x=>Ml x.2) (.at bm s seen ck))
  rw[<- hput];generalize Ep kv=r at hkd;subst hkd;show rndM _ _ _ _ _ _ _ _ (FG r.1) (encV r)=_
  unfold encV;split
  ·exact qC2 ..
  ·exact qC1 ..
def shC:S1:=⟨26,[(7,.mp 1),(15,.mp 6)],[.one 30 3 aS,.map 30 3,.one 30 3 aS,.map 30 4,.map 30 78,.dead,.itr 4]⟩
noncomputable def pC:LS->Bool
 | ([],[.i _,.i _,.i _,.m Dq,.i _,.i _,.i _,.m _,.m D,.n N])=>Dq.isEmpty&&decide (N=D.length)&&dB (MapD D)
 | _=>false
noncomputable abbrev xC (p0 p1 p2 s0 s1 s2:Int) (D0 D:List (PV × PV)):PX × List PV × List Row:=
 (.exit 0,tm 26 [(7,.mp 1)],[F7 p0 p1 p2,Nl 30 3 (D.map Ml),F7 s0 s1 s2,Dd k0 30 4 D0,Dd k0 30 78 D,C6,C9 (.mp 4) .some])
noncomputable def fC:LS->DT (PX × List PV × List Row)
 | ([],[.i p0,.i p1,.i p2,.m _,.i s0,.i s1,.i s2,.m D0,.m D,.n _])=>.leaf (xC p0 p1 p2 s0 s1 s2 D0 D)
 | _=>.no
theorem cells_stT {s t:T3} (h:s ≠ t):(FG s).cells ≠ (FG t).cells:=fun e=>by
 have:ID (FG s) (FG t)=ID (FG t) (FG t):=by unfold ID;rw[e]
 rw[Ir,Ir,Ac rfl,Ab] at this;exact h this
theorem cst_pw:∀ {L:List Rc},(L.map (·.1)).Nodup->(L.map GK).Pairwise fun x y=>x.1.cells ≠ y.1.cells
 | [],_=>.nil
 | r::L,h=>by
  rw[AZ,Cp] at h;rw[AZ,List.pairwise_cons];refine⟨fun y hy => ?_,cst_pw h.2⟩;obtain⟨q,hq,rfl⟩:=AW.1 hy;exact cells_stT fun e=>h.1 (by rw[e];exact Bp hq)
theorem MapD.Ml {D:List (PV × PV)} (h:MapD D):D.map Ml=(D.map Ep).map GK:=by
 conv=>lhs;rw[<- h.1]
 rw[Cb];exact BE fun r _=>cst_enc r
theorem perm_vis {D:List (PV × PV)} {vis:List (Nat × (PV × PV))} (hok:∀ x ∈ vis,OkC D x.1 x.2) (hp:(vis.map (·.1)).Perm (List.range D.length)):(vis.map fun x=>Ml x.2).Perm (D.map Ml):=by
 have h1:(vis.map fun x=>Ml x.2)=(vis.map (·.1)).map fun j=>Ml (D.getD j (.any,.any)):=by
  rw[Cb];apply BE
  intro x hx;show Ml x.2=Ml (D.getD x.1 (.any,.any))
  rw[AA,hok x hx];rfl
 rw[h1];refine (hp.map _).trans ?_;have h2:(List.range D.length).map (fun j=>Ml (D.getD j (.any,.any)))=D.map Ml:=by
  apply Bc
  intro i;rw[Ao,Ao];by_cases hi:i<D.length
  ·rw[Ba hi,Ae hi];simp[List.getD_eq_getElem?_getD,List.getElem?_eq_getElem hi]
  ·rw[AD (by simpa using hi),AD (by omega)];rfl
 rw[h2]
theorem wkC {p0 p1 p2 s0 s1 s2:Int} {D0 D:List (PV × PV)} {vis:List (Nat × (PV × PV))} (hD:MapD D) (hok:∀ x ∈ vis,OkC D x.1 x.2) (hp:(vis.map (·.1)).Perm (List.range D.length)):
  Wk Try.prog sC (hC p0 p1 p2 s0 s1 s2 D0 D (vis.map fun x=>Ml x.2) .some) (xC p0 p1 p2 s0 s1 s2 D0 D).2.1 (xC p0 p1 p2 s0 s1 s2 D0 D).2.2:=by
 have hpw:(D.map Ml).Pairwise fun x y=>x.1.cells ≠ y.1.cells:=by rw[hD.Ml];exact cst_pw hD.2.1
 have h1:=Wk.F6 (P:=Try.prog) (S:=sC) (H:=hC p0 p1 p2 s0 s1 s2 D0 D (vis.map fun x=>Ml x.2) .some) (i:=1) (K:=30) (E:=3) (D:=D.map Ml) (D':=vis.map fun x=>Ml x.2) (k:=k0) rfl (perm_vis hok hp) hpw (Dd k0 30 3 (vis.map fun x=>Ml x.2)) rfl;refine h1.trans ?_;refine (Wk.JU (some [7])).trans ?_;exact .refl
noncomputable def R72:CO:=R71.C8 16 3 [7,15] [false,false,false,false,false,false,false] shC pC fC
theorem okR72:Ck Try.prog R72.env:=by
 refine okR71.addML (n:=60) Try.func16 (show Try.f16.body=some (DL Try.f16) by kernel_rfl) (show (loops (DL Try.f16)).filter (fun b=>Ed b==3)=[CZ Try.f16 3] by kernel_rfl) mlC_eq [7,15] [7] [false,false,false,false,false,false,false] shC fun s r hp hr => ?_
 unfold pC at hp;split at hp
 ·rename_i p0 p1 p2 Dq s0 s1 s2 D0 D N;simp only[Aa,Ab,List.isEmpty_iff,D3] at hp;obtain⟨⟨rfl,rfl⟩,hD⟩:=hp;have hr':=(Ah hr).symm;subst hr';refine⟨by rw[mlC_out],6,4,D.length,OkC D,visC p0 p1 p2 s0 s1 s2 D0 D,mapC hD,rfl,rfl,fun vis hok hpm => ?_⟩;rw[mlC_d1,mlC_q];exact wkC hD hok hpm
 ·cases hp
noncomputable def R73:CO:=R72.addNxN
theorem okR73:Ck Try.prog R73.env:=okR72.addNxN
theorem qCosts (f:Bool) (ws:List PV) (x y z:Int) (fl:Bool):runR Try.prog R73 60 0 16 [.CQ f 49 ws,Dy x y z,bv fl] [] =
 bif decide (ws.length<=1000)&&ED EK ws then
 bif pSC (lSC false (CU (CT false) ws) ((CU (CT false) ws).length:Int) 0 x y z [] x y z []) then
 bif GQ [F7 x y z,Dd k0 30 3 [],F7 x y z] [F7 x y z,Dd k0 30 3 [],F7 x y z] then
 bif !gotB (mD ws) x y z then some (.mp 1,[F7 x y z,Dd k0 30 3 [],F7 x y z,Dd k0 30 4 (mD ws),C9 .any .nil])
 else
 bif decide (ws.length<=1000)&&ED EK ws then
 bif LG (false,l6FC false (CU (CT fl) ws) 1 1 x y z [] x y z (mD ws) [] x y z 0) then
 bif pC ([],[.i x,.i y,.i z,.m [],.i x,.i y,.i z,.m (mD ws),.m (Lh (CU (CT fl) ws) (x,y,z)),.n (Lh (CU (CT fl) ws) (x,y,z)).length]) then
  some (.mp 1,(xC x y z x y z (mD ws) (Lh (CU (CT fl) ws) (x,y,z))).2.2) else none
 else none else none
 else none else none else none:=by kernel_rfl
noncomputable def Fq (ws:List PV) (fl:Bool) (s:T3):List Rc:=@ite _ (Eo ws s) (Classical.propDecidable _) (dijA (gU (CU (CT fl) ws)) (sgU (CU (CT fl) ws) s) s) []
theorem HZ {ws:List PV} {fl:Bool} {s:T3} (h:Eo ws s):Fq ws fl s=dijA (gU (CU (CT fl) ws)) (sgU (CU (CT fl) ws) s) s:=Ai h
theorem costL_out {ws:List PV} {fl:Bool} {s:T3} (h:¬ Eo ws s):Fq ws fl s=[]:=An h
theorem costL_nd {ws:List PV} {fl:Bool} {s:T3} (h:KB ws):((Fq ws fl s).map (·.1)).Nodup:=by
 by_cases hs:Eo ws s
 ·rw[HZ hs];exact (KZ (I8 s (FH (fl:=fl) h)) (AJ ..)).nd
 ·rw[costL_out hs];exact .nil
theorem F4 {ws:List PV} {fl:Bool} {s v:T3} {k:Ky} (h:KB ws):(v,k) ∈ Fq ws fl s ↔ D7 ws fl s v=some k:=by
 by_cases hs:Eo ws s
 ·rw[HZ hs,pathO_in hs,KY,<- JG];exact dijA_min (I8 s (FH (fl:=fl) h)) (AJ ..)
 ·rw[costL_out hs,pathO_out hs];simp
theorem pSC_ok {ws:List PV} (h:KB ws) (x y z:Int):pSC (lSC false (CU (CT false) ws) ((CU (CT false) ws).length:Int) 0 x y z [] x y z [])=true:=by
 have:=Eb (d:=CT false) ws;have:=h.few;simp only[pSC,Aa,Ab];exact⟨⟨⟨⟨trivial,by omega⟩,by omega⟩,by omega⟩,Nc h.Kv⟩
theorem mapD_end {ws:List PV} (fl:Bool) (h:KB ws) (s:T3):MapD (Lh (CU (CT fl) ws) s):=by
 have hG:=I8 s (FH (fl:=fl) h);have hD:=KZ hG (AJ (a:=s) ..);rw[Ni];unfold endA MapD;rw[JE];refine⟨rfl,hD.nd,?_⟩;have h0:=hD.cap;have h1:=gU_len (CU (CT fl) ws);have:=Eb (d:=CT fl) ws;have:=h.few;rw[A1];have h2:(sgU (CU (CT fl) ws) s).length=1+(gU (CU (CT fl) ws)).length:=by simp[Nat.add_comm]
 omega
noncomputable def cCosts:List PV->Option (Bool × List (PV × PV))
 | [.CQ _ 49 ws,.agg [.val (.int .i64 x),.val (.int .i64 y),.val (.int .i64 z)],.val (.bool fl)]=>some (dB (KB ws)&&ED EK ws,(Fq ws fl (x,y,z)).map GK)
 | _=>none
theorem flat_cst {L:List Rc}:∀ x ∈ L.map GK,x.2.flat=true:=fun x hx=>by
 obtain⟨r,_,rfl⟩:=AW.1 hx;rfl
theorem costs_call (f:Bool) (ws:List PV) (x y z:Int) (fl:Bool) (h:KB ws) (hN:Em EK ws):Hx.CV Try.prog 16/\∀ ro H,ET Try.prog ro 16 [.CQ f 49 ws,Dy x y z,bv fl] H (.mp H.length) (H++[Nl 30 3 ((Fq ws fl (x,y,z)).map GK)]):=by
 have hf:=h.few;have hk:=Eb (d:=CT fl) ws;have hq:=qCosts f ws x y z fl;rw[Ac (show ws.length<=1000 by omega),DM.2 hN,pSC_ok h,EF] at hq;simp only[Bn,Am] at hq;by_cases hs:Eo ws (x,y,z)
 ·have hp:LG (false,l6FC false (CU (CT fl) ws) 1 1 x y z [] x y z (mD ws) [] x y z 0)=true:=by
   simp only[LG,Aa,Ab,D3];exact⟨⟨⟨trivial,trivial,trivial,trivial,trivial,trivial,trivial⟩,FH h⟩,by omega⟩
  have hD:=mapD_end fl h (x,y,z);have hpc:pC ([],[.i x,.i y,.i z,.m [],.i x,.i y,.i z,.m (mD ws),.m (Lh (CU (CT fl) ws) (x,y,z)),.n (Lh (CU (CT fl) ws) (x,y,z)).length])=true:=by
   simp only[pC,List.isEmpty_nil,Cf,Aa,Ab,D3];exact⟨trivial,hD⟩
  rw[I9.2 hs,hp,hpc] at hq;simp only[BP,At,Am] at hq;have he:(Lh (CU (CT fl) ws) (x,y,z)).map Ml=(Fq ws fl (x,y,z)).map GK:=by
   rw[hD.Ml,HZ hs,Ni];unfold endA;rw[JE]
  rw[<- he];exact newM_call okR73 (n:=60) (i:=1) (k:=k0) (by rfl) hq rfl (by rw[he];exact flat_cst)
 ·have hg:gotB (mD ws) x y z=false:=by
   cases hh:gotB (mD ws) x y z with
   | true=>exact absurd (I9.1 hh) hs
   | false=>rfl
  rw[hg] at hq;simp only[BU,Am] at hq;rw[costL_out hs];exact newM_ord okR73 (n:=60) (i:=1) (k:=k0) (by rfl) hq rfl (fun x hx=>by cases hx) .nil
theorem oCosts (args:List PV) (r:Bool × List (PV × PV)) (h:cCosts args=some r) (hr:r.1=true):∀ ro H,ET Try.prog ro 16 args H (.mp H.length) (H++[Nl 30 3 r.2]):=by
 unfold cCosts at h;split at h
 ·rename_i f ws x y z fl;cases h;simp only[Aa,D3,DM] at hr;exact (costs_call f ws x y z fl hr.1 hr.2).2
 ·cases h
theorem eCosts:Hx.CV Try.prog 16:=(costs_call false [] 0 0 0 false wok0 normG0).1
noncomputable def R74:CO:=(R73.addMp 16 30 3 cCosts).addLkP Try.prog kts
theorem okR74:Ck Try.prog R74.env:=(okR73.addMp eCosts oCosts).addLkP kts_ok

abbrev fnK (j:Nat):X1:=.fn 40 [] [.ptr j 1 0 0]
def Nn:S1:=⟨19,[(0,.CQ 49),(1,fnK 0),(7,C4),(8,C4)],[.one 3 1 C4]⟩
abbrev lIx (f:Bool) (es:List PV) (len i id:Int):LS:=([.l f es,.i len,.i i],[.i id])
noncomputable abbrev xIx0 (id:Int):PX × List PV × List Row:=(.exit 0,tm 19 [],(Nn.put (lIx false [] 0 0 id)).2)
noncomputable abbrev xIx1 (i id:Int):PX × List PV × List Row:=(.ret,tm 19 [(4,iv i)],(Nn.put (lIx false [] 0 0 id)).2)
theorem qIx (f:Bool) (es:List PV) (len i id:Int):CR Try.prog R74 60 39 (CZ Try.f39 2) [0,1,7,8] [4] (Nn.put (lIx f es len i id)).1 (Nn.put (lIx f es len i id)).2 =
 bif decide (i<len) then bif H8 es i then bif wI (aE es i)==id then some (xIx1 i id) else some (.normal,Nn.put (lIx f es len (W (i+1)) id)) else none else some (xIx0 id):=by kernel_rfl
def idI (id:Int) (i:Int):List PV->Int
 | [] => -1
 | e::es=>bif wI e==id then i else idI id (i+1) es
def pIx:LS->Bool
 | ([.l _ es,.i len,.i i],[.i _])=>decide (len=(es.length:Int))&&decide (0<=i)&&decide (i<=len)&&decide (es.length<=10000)
 | _=>false
noncomputable def fIx:LS->DT (PX × List PV × List Row)
 | ([.l _ es,.i _,.i i],[.i id])=>.br (idI id i (es.drop i.toNat) == -1) (.leaf (xIx0 id)) (.leaf (xIx1 (idI id i (es.drop i.toNat)) id))
 | _=>.no
def mIx:LS->Nat
 | ([.l _ _,.i len,.i i],_)=>(len-i).toNat
 | _=>0
theorem sIx:∀ s r,pIx s=true->(fIx s).run=some r->r.1 ≠ .normal/\(CR Try.prog R74 60 39 (CZ Try.f39 2) [0,1,7,8] [4] (Nn.put s).1 (Nn.put s).2=some r \/
   ∃ s',CR Try.prog R74 60 39 (CZ Try.f39 2) [0,1,7,8] [4] (Nn.put s).1 (Nn.put s).2=some (.normal,Nn.put s')/\pIx s'=true/\mIx s'<mIx s/\(fIx s').run=some r):=by
 intro t r hp hr;unfold pIx at hp;split at hp
 ·rename_i f es len i id;simp only[Aa,Ab] at hp;obtain⟨⟨⟨rfl,h2⟩,h3⟩,h4⟩:=hp;have hr':=Il hr;refine⟨by rw[hr'];cases idI id i (es.drop i.toNat) == -1 <;> simp,?_⟩;rw[show Nn.put ([.l f es,.i (es.length:Int),.i i],[.i id])=Nn.put (lIx f es es.length i id) from rfl,qIx];by_cases hi:i<(es.length:Int)
  ·rw[Ac hi,D1 h2 hi,Dc (by omega) (by omega)];simp only[Am];rw[Db h2 hi] at hr';simp only[idI] at hr';rw[show wI (es.getD i.toNat .any)=wI (aE es i) from rfl] at hr';cases c1:wI (aE es i)==id with
   | true =>
    rw[c1,Am,show (i == -1)=false by rw[AQ];omega] at hr';exact .inl (by rw[hr'];rfl)
   | false =>
    rw[c1] at hr';refine .inr ⟨lIx f es es.length (i+1) id,rfl,by simp only[pIx,Aa,Ab];exact⟨⟨⟨trivial,by omega⟩,by omega⟩,h4⟩,by simp only[mIx];omega,?_⟩;rw[hr'];simp only[fIx,At];cases idI id (i+1) (es.drop (i+1).toNat) == -1 <;> rfl
  ·rw[Aj hi];rw[AG (by omega)] at hr';exact .inl (by rw[hr'];rfl)
 ·cases hp
noncomputable def R78:CO:=R74.C8 39 2 [0,1,7,8] [false] Nn pIx fIx
theorem okR78:Ck Try.prog R78.env:=
 okR74.C8 (n:=60) Try.func39 (show Try.f39.body=some (DL Try.f39) by kernel_rfl) (show (loops (DL Try.f39)).filter (fun b=>Ed b==2)=[CZ Try.f39 2] by kernel_rfl) [0,1,7,8] [4] [false] Nn mIx sIx
abbrev idRow (id:Int):Row:={ es:=[iv id],s:=1,t:=3,bv:=true }
theorem qIxR (f:Bool) (es:List PV) (id:Int):JV Try.prog R78 60 39 [.CQ f 49 es,.fn (.func 40) [] [.ptr 0 1 0 0]] [idRow id] =
 bif pIx (lIx f es (es.length:Int) 0 id) then bif idI id 0 (es.drop (0:Int).toNat) == -1 then some (iv (-1),[idRow id]) else some (iv (idI id 0 (es.drop (0:Int).toNat)),[idRow id]) else none:=by kernel_rfl
theorem qIxRN (f:Bool) (es:List PV) (id:Int) (h:es.length<=10000):JV Try.prog R78 60 39 [.CQ f 49 es,.fn (.func 40) [] [.ptr 0 1 0 0]] [idRow id]=some (iv (idI id 0 es),[idRow id]):=by
 have hp:pIx (lIx f es (es.length:Int) 0 id)=true:=by
  simp only[pIx,Aa,Ab];exact⟨⟨⟨trivial,by omega⟩,by omega⟩,h⟩
 rw[qIxR,hp,Am,show (0:Int).toNat=0 from rfl,AM];cases hq:idI id 0 es == -1 with
 | true=>rw[eq_of_beq hq];rfl
 | false=>rfl
def cIx:List PV->List Row->Option (DT (PV × List Row))
 | [.CQ _ 49 es,.fn (.func 40) [] [.ptr 0 1 0 0]],[⟨[.val (.int .i64 id)],1,3,true,true,false,none,false⟩] =>
  some (.br (decide (es.length<=10000)) (.leaf (iv (idI id 0 es),[idRow id])) .no)
 | _,_=>none
theorem eIx:Hx.CV Try.prog 39:=(Dm okR78 (qIxRN false [] 0 (by simp))).1
theorem oIx (args:List PV) (H:List Row) (d:DT (PV × List Row)) (q:PV) (H':List Row) (h:cIx args H=some d) (hd:d.run=some (q,H')):ET Try.prog 0 39 args H q H':=by
 unfold cIx at h;split at h
 ·rename_i f es id;cases h;obtain⟨hc,he⟩:=FK hd;cases he;exact (Dm okR78 (qIxRN f es id (AS hc))).2
 ·cases h
noncomputable def R79:CO:=R78.ER 39 cIx
theorem okR79:Ck Try.prog R79.env:=okR78.ER eIx oIx
def shSK:S1:=⟨27,[(3,.mp 2),(10,.CQ 49),(11,C4),(12,C4)],[.one 30 3 aS,.one 30 3 aS,.map 30 4]⟩
abbrev lSK (f:Bool) (es:List PV) (len i:Int) (p0 p1 p2 q0 q1 q2:Int) (D:List (PV × PV)):LS:=([.l f es,.i len,.i i],[.i p0,.i p1,.i p2,.i q0,.i q1,.i q2,.m D])
noncomputable abbrev xSK (p0 p1 p2 q0 q1 q2:Int) (D:List (PV × PV)):PX × List PV × List Row:=(.exit 0,tm 27 [(3,.mp 2)],(shSK.put (lSK false [] 0 0 p0 p1 p2 q0 q1 q2 D)).2)
theorem qSK (f:Bool) (es:List PV) (len i:Int) (p0 p1 p2 q0 q1 q2:Int) (D:List (PV × PV)):CR Try.prog R79 60 37 (CZ Try.f37 3) [3,10,11,12] [3] (shSK.put (lSK f es len i p0 p1 p2 q0 q1 q2 D)).1 (shSK.put (lSK f es len i p0 p1 p2 q0 q1 q2 D)).2 =
 bif decide (i<len) then bif decide (0<=i)&&decide (i<(es.length:Int)) then bif stB (wL (es.getD i.toNat .any)) then
  some (.normal,shSK.put (lSK f es len (W (i+1)) p0 p1 p2 q0 q1 q2 (DG D (es.getD i.toNat .any)))) else none else none else some (xSK p0 p1 p2 q0 q1 q2 D):=by kernel_rfl
def pSK:LS->Bool
 | ([.l _ es,.i len,.i i],[.i _,.i _,.i _,.i _,.i _,.i _,.m _])=>decide (len=(es.length:Int))&&decide (0<=i)&&decide (i<=len)&&decide (es.length<=1000)&&(es.drop i.toNat).all fun e=>stB (wL e)
 | _=>false
noncomputable def fSK:LS->DT (PX × List PV × List Row)
 | ([.l _ es,.i _,.i i],[.i p0,.i p1,.i p2,.i q0,.i q1,.i q2,.m D])=>.leaf (xSK p0 p1 p2 q0 q1 q2 (GD (es.drop i.toNat) D))
 | _=>.no
def mSK:LS->Nat
 | ([.l _ _,.i len,.i i],_)=>(len-i).toNat
 | _=>0
theorem sSK:∀ s r,pSK s=true->(fSK s).run=some r->r.1 ≠ .normal/\(CR Try.prog R79 60 37 (CZ Try.f37 3) [3,10,11,12] [3] (shSK.put s).1 (shSK.put s).2=some r \/
   ∃ s',CR Try.prog R79 60 37 (CZ Try.f37 3) [3,10,11,12] [3] (shSK.put s).1 (shSK.put s).2=some (.normal,shSK.put s')/\pSK s'=true/\mSK s'<mSK s/\(fSK s').run=some r):=by
 intro t r hp hr;unfold pSK at hp;split at hp
 ·rename_i f es len i p0 p1 p2 q0 q1 q2 D;simp only[Aa,Ab] at hp;obtain⟨⟨⟨⟨rfl,h2⟩,h3⟩,h4⟩,h5⟩:=hp;have hr':=(Ah hr).symm;refine⟨by rw[hr'];simp,?_⟩;rw[show shSK.put ([.l f es,.i (es.length:Int),.i i],[.i p0,.i p1,.i p2,.i q0,.i q1,.i q2,.m D])=shSK.put (lSK f es (es.length:Int) i p0 p1 p2 q0 q1 q2 D) from rfl,qSK];by_cases hi:i<(es.length:Int)
  ·rw[Db h2 hi,Ce,Aa] at h5;rw[Ac hi,Ac h2,h5.1,Dc (by omega) (by omega)];refine .inr ⟨lSK f es es.length (i+1) p0 p1 p2 q0 q1 q2 (DG D (es.getD i.toNat .any)),rfl,by simp only[pSK,Aa,Ab];exact⟨⟨⟨⟨trivial,by omega⟩,by omega⟩,h4⟩,h5.2⟩,by simp only[mSK];omega,?_⟩;rw[hr',Db h2 hi];rfl
  ·rw[Aj hi,AG (by omega)] at *;exact .inl (by rw[hr'];rfl)
 ·cases hp
noncomputable def R80:CO:=R79.C8 37 3 [3,10,11,12] [false,false,false] shSK pSK fSK
theorem okR80:Ck Try.prog R80.env:=
 okR79.C8 (n:=60) Try.func37 (show Try.f37.body=some (DL Try.f37) by kernel_rfl) (show (loops (DL Try.f37)).filter (fun b=>Ed b==3)=[CZ Try.f37 3] by kernel_rfl) [3,10,11,12] [3] [false,false,false] shSK mSK sSK

noncomputable def R81:CO:=R80.D6 21 1
theorem okR81:Ck Try.prog R81.env:=okR80.D6 21 1
def KD:S1:=⟨76,[(3,.bool),(6,.ptr 0 1 0 0),(7,.ptr 1 1 0 0),(12,.CQ 49),(13,C4),(26,.CQ 3),(27,C4),(28,C4)],[.one 30 3 aS,.one 30 3 aS,.map 30 4]⟩
abbrev lCk (fl f:Bool) (us:List PV) (sm:Int) (g:Bool) (ids:List PV) (len i x y z a b c:Int) (D:List (PV × PV)):LS:=([.b fl,.l f us,.i sm,.l g ids,.i len,.i i],[.i x,.i y,.i z,.i a,.i b,.i c,.m D])
noncomputable abbrev hCk (x y z a b c:Int) (D:List (PV × PV)):List Row:=(KD.put (lCk false false [] 0 false [] 0 0 x y z a b c D)).2
noncomputable abbrev xCk (sm x y z a b c:Int) (D:List (PV × PV)):PX × List PV × List Row:=(.exit 0,tm 76 [(6,.ptr 0 1 0 0),(7,.ptr 1 1 0 0),(13,iv sm)],hCk x y z a b c D)
noncomputable abbrev rCk (sm x y z a b c:Int) (D:List (PV × PV)):PX × List PV × List Row:=(.ret,tm 76 [(6,.ptr 0 1 0 0),(7,.ptr 1 1 0 0),(10,iv 0),(11,bv false),(13,iv sm)],hCk x y z a b c D)
noncomputable def ckT (fl f:Bool) (us:List PV) (sm:Int) (g:Bool) (ids:List PV) (len i x y z a b c:Int) (D:List (PV × PV)) (j:Int):Option (PX × List PV × List Row):=
 bif H8 us j then bif stB (wL (aE us j)) then bif eq3 x y z (gX (eF (aE us j))) (gY (eF (aE us j))) (gL (eF (aE us j))) then
  bif H8 us j then bif decide ((wL (aE us j)).length<=100000) then some (.normal,KD.put (lCk fl f us (W (sm+Df (wL (aE us j)))) g ids len (W (i+1)) (gX (eL (aE us j))) (gY (eL (aE us j))) (gL (eL (aE us j))) a b c D)) else none else none
 else bif eq3 x y z (gX (eL (aE us j))) (gY (eL (aE us j))) (gL (eL (aE us j))) then
  bif H8 us j then bif decide ((wL (aE us j)).length<=100000) then some (.normal,KD.put (lCk fl f us (W (sm+Df (wL (aE us j)))) g ids len (W (i+1)) (gX (eF (aE us j))) (gY (eF (aE us j))) (gL (eF (aE us j))) a b c D)) else none else none
 else some (rCk sm x y z a b c D) else none else none
theorem qCk (fl f:Bool) (us:List PV) (sm:Int) (g:Bool) (ids:List PV) (len i x y z a b c:Int) (D:List (PV × PV)):CR Try.prog R81 60 21 (CZ Try.f21 6) [3,6,7,12,13,26,27,28] [6,7,10,11,13] (KD.put (lCk fl f us sm g ids len i x y z a b c D)).1 (KD.put (lCk fl f us sm g ids len i x y z a b c D)).2 =
 bif decide (i<len) then bif H8 ids i then bif decide (us.length<=10000) then bif decide (idI (nI ids i) 0 us<0) then some (rCk sm x y z a b c D) else
  bif fl then bif H8 us (idI (nI ids i) 0 us) then bif cond false true (cond true (Lc (aE us (idI (nI ids i) 0 us))) false) then some (rCk sm x y z a b c D) else ckT fl f us sm g ids len i x y z a b c D (idI (nI ids i) 0 us) else none
  else ckT fl f us sm g ids len i x y z a b c D (idI (nI ids i) 0 us)
 else none else none else some (xCk sm x y z a b c D):=by kernel_rfl
def stpC (fl:Bool) (us:List PV) (t:T3) (id:Int):Option (T3 × Int):=
 match us.find? fun e=>wI e==id with
 | none=>none
 | some e=>bif fl&&Lc e then none else bif decide (t=EN (eF e)) then some (EN (eL e),Df (wL e)) else bif decide (t=EN (eL e)) then some (EN (eF e),Df (wL e)) else none
def F5 (fl:Bool) (us:List PV):T3->Int->List Int->Bool × T3 × Int
 | t,s,[]=>(true,t,s)
 | t,s,id::ids=>match stpC fl us t id with | none=>(false,t,s) | some r=>F5 fl us r.1 (s+r.2) ids
theorem idI_find {id:Int}:∀ {es:List PV} {i:Int},0<=i->(idI id i es = -1/\es.find? (fun e=>wI e==id)=none)\/(i<=idI id i es/\idI id i es<i+es.length/\es.find? (fun e=>wI e==id)=some (es.getD (idI id i es-i).toNat .any))
 | [],i,_=>.inl ⟨rfl,rfl⟩
 | e::es,i,h=>by
  simp only[idI,List.find?_cons];cases hq:wI e==id with
  | true =>
   refine .inr ⟨by simp,by simp only[Am,Ay];omega,?_⟩;simp only[Am,Int.sub_self];rfl
  | false =>
   simp only[At];rcases idI_find (id:=id) (es:=es) (i:=i+1) (by omega) with ⟨h1,h2⟩ | ⟨h1,h2,h3⟩
   ·exact .inl ⟨h1,h2⟩
   ·refine .inr ⟨by omega,by simp only[Ay];omega,?_⟩;rw[h3];have:(idI id (i+1) es-i).toNat=(idI id (i+1) es-(i+1)).toNat+1:=by omega
    rw[this];rfl
theorem stpC_fit {fl:Bool} {us:List PV} {t:T3} {id:Int} {r:T3 × Int} (hu:us.all G8=true) (h:stpC fl us t id=some r):0<=r.2/\r.2<=3037000499000:=by
 unfold stpC at h;split at h
 ·cases h
 ·rename_i e he;have hm:=Ap.1 hu e (List.mem_of_find?_eq_some he);simp only[G8,Aa,Ab] at hm;have hf:=GX hm.2
  revert h
  cases fl&&Lc e with
  | true=>intro h;cases h
  | false =>
   rw[At];cases decide (t=EN (eF e)) with
   | true=>intro h;cases h;exact hf
   | false =>
    rw[At];cases decide (t=EN (eL e)) with
    | true=>intro h;cases h;exact hf
    | false=>intro h;cases h
theorem eq3_st {x y z:Int} {p:PV}:eq3 x y z (gX p) (gY p) (gL p)=decide ((x,y,z)=EN p):=by
 rw[Bool.eq_iff_iff];simp only[eq3,BD,Aa,Aw,Ab,Cq,and_assoc]
noncomputable abbrev nCk (fl f:Bool) (us:List PV) (sm:Int) (g:Bool) (ids:List PV) (len i:Int) (t:T3) (a b c:Int) (D:List (PV × PV)):PX × List PV × List Row:=(.normal,KD.put (lCk fl f us sm g ids len i t.1 t.2.1 t.2.2 a b c D))
theorem qCkN (fl f:Bool) (us:List PV) (sm:Int) (g:Bool) (ids:List PV) (i x y z a b c:Int) (D:List (PV × PV)) (h0:0<=i) (hi:i<(ids.length:Int)) (hu:us.all G8=true) (hl:us.length<=1000) (hs:0<=sm) (hs2:sm<=1000000000000000000) (hids:ids.length<=1000000):
 CR Try.prog R81 60 21 (CZ Try.f21 6) [3,6,7,12,13,26,27,28] [6,7,10,11,13] (KD.put (lCk fl f us sm g ids ids.length i x y z a b c D)).1 (KD.put (lCk fl f us sm g ids ids.length i x y z a b c D)).2 =
 match stpC fl us (x,y,z) (nI ids i) with | none=>some (rCk sm x y z a b c D) | some r=>some (nCk fl f us (sm+r.2) g ids ids.length (i+1) r.1 a b c D):=by
 rw[qCk,Ac hi,D1 h0 hi,Ac (show us.length<=10000 by omega)];simp only[Am];unfold stpC;rcases idI_find (id:=nI ids i) (es:=us) (i:=0) (BS _) with ⟨h1,h2⟩ | ⟨h1,h2,h3⟩
 ·rw[h1,h2,Ac (show (-1:Int)<0 by omega)];rfl
 ·rw[h3,Aj (show ¬ idI (nI ids i) 0 us<0 by omega)];rw[Int.sub_zero] at h3 ⊢;generalize idI (nI ids i) 0 us=j at *;have hj:j<(us.length:Int):=by omega
  have hm:=Ap.1 hu _ (List.mem_of_find?_eq_some h3);simp only[G8,Aa,Al,AQ,Ab] at hm;have hf:=GX hm.2;have hT:ckT fl f us sm g ids ids.length i x y z a b c D j=match (bif decide ((x,y,z)=EN (eF (aE us j))) then some (EN (eL (aE us j)),Df (wL (aE us j))) else bif decide ((x,y,z)=EN (eL (aE us j))) then some (EN (eF (aE us j)),Df (wL (aE us j))) else none:Option (T3 × Int)) with
    | none=>some (rCk sm x y z a b c D) | some r=>some (nCk fl f us (sm+r.2) g ids ids.length (i+1) r.1 a b c D):=by
   unfold ckT;rw[D1 h1 hj,Kw hm.1 (by omega),eq3_st,eq3_st,Ac (show (wL (aE us j)).length<=100000 by have:=hm.2;show (wL (us.getD j.toNat .any)).length<=_;omega),Dc (n:=i+1) (by omega) (by omega),Dc (n:=sm+Df (wL (aE us j))) (by show _<=sm+Df (wL (us.getD j.toNat .any));omega) (by show sm+Df (wL (us.getD j.toNat .any))<_;omega)];simp only[Am];cases decide ((x,y,z)=EN (eF (aE us j))) with
   | true=>rfl
   | false =>
    simp only[At];cases decide ((x,y,z)=EN (eL (aE us j))) <;> rfl
  rw[hT,D1 h1 hj];simp only[At,Am];cases fl with
  | false=>rfl
  | true =>
   show (bif Lc (aE us j) then _ else _)=(match (bif Lc (aE us j) then none else _:Option (T3 × Int)) with | none=>_ | some r=>_)
   cases Lc (aE us j) <;> rfl
def pCk:LS->Bool
 | ([.b _,.l _ us,.i sm,.l _ ids,.i len,.i i],[.i _,.i _,.i _,.i _,.i _,.i _,.m _])=>decide (len=(ids.length:Int))&&decide (0<=i)&&decide (i<=len)&&decide (ids.length<=100000)&&us.all G8&&decide (us.length<=1000)&&decide (0<=sm)&&decide (sm<=3037000499000*i)
 | _=>false
noncomputable def fCk:LS->DT (PX × List PV × List Row)
 | ([.b fl,.l _ us,.i sm,.l _ ids,.i _,.i i],[.i x,.i y,.i z,.i a,.i b,.i c,.m D]) =>
  .br (F5 fl us (x,y,z) sm ((Dh ids).drop i.toNat)).1
   (.leaf (xCk (F5 fl us (x,y,z) sm ((Dh ids).drop i.toNat)).2.2 (F5 fl us (x,y,z) sm ((Dh ids).drop i.toNat)).2.1.1 (F5 fl us (x,y,z) sm ((Dh ids).drop i.toNat)).2.1.2.1 (F5 fl us (x,y,z) sm ((Dh ids).drop i.toNat)).2.1.2.2 a b c D))
   (.leaf (rCk (F5 fl us (x,y,z) sm ((Dh ids).drop i.toNat)).2.2 (F5 fl us (x,y,z) sm ((Dh ids).drop i.toNat)).2.1.1 (F5 fl us (x,y,z) sm ((Dh ids).drop i.toNat)).2.1.2.1 (F5 fl us (x,y,z) sm ((Dh ids).drop i.toNat)).2.1.2.2 a b c D))
 | _=>.no
def mCk:LS->Nat
 | ([.b _,.l _ _,.i _,.l _ _,.i len,.i i],_)=>(len-i).toNat
 | _=>0
theorem sCk:∀ s r,pCk s=true->(fCk s).run=some r->r.1 ≠ .normal/\(CR Try.prog R81 60 21 (CZ Try.f21 6) [3,6,7,12,13,26,27,28] [6,7,10,11,13] (KD.put s).1 (KD.put s).2=some r \/
   ∃ s',CR Try.prog R81 60 21 (CZ Try.f21 6) [3,6,7,12,13,26,27,28] [6,7,10,11,13] (KD.put s).1 (KD.put s).2=some (.normal,KD.put s')/\pCk s'=true/\mCk s'<mCk s/\(fCk s').run=some r):=by
 intro t r hp hr;unfold pCk at hp;split at hp
 ·rename_i fl f us sm g ids len i x y z a b c D;simp only[Aa,Ab] at hp;obtain⟨⟨⟨⟨⟨⟨⟨rfl,h2⟩,h3⟩,h4⟩,h5⟩,h6⟩,h7⟩,h8⟩:=hp;have hr':=Il hr;refine⟨by rw[hr'];cases (F5 fl us (x,y,z) sm ((Dh ids).drop i.toNat)).1 <;> simp,?_⟩;rw[show KD.put ([.b fl,.l f us,.i sm,.l g ids,.i (ids.length:Int),.i i],[.i x,.i y,.i z,.i a,.i b,.i c,.m D])=KD.put (lCk fl f us sm g ids ids.length i x y z a b c D) from rfl];by_cases hi:i<(ids.length:Int)
  ·rw[qCkN fl f us sm g ids i x y z a b c D h2 hi h5 h6 h7 (by omega) (by omega)];rw[KA h2 hi] at hr';simp only[F5] at hr';rw[show ((ids.getD i.toNat .any).cellAt 0).Dn=nI ids i from rfl] at hr';cases hst:stpC fl us (x,y,z) (nI ids i) with
   | none=>rw[hst] at hr';exact .inl (by rw[hr'];rfl)
   | some q =>
    rw[hst] at hr';have hf:=stpC_fit h5 hst;obtain⟨⟨u0,u1,u2⟩,w⟩:=q;dsimp only at hf hr';refine .inr ⟨lCk fl f us (sm+w) g ids ids.length (i+1) u0 u1 u2 a b c D,rfl,?_,by simp only[mCk];omega,?_⟩
    ·simp only[pCk,Aa,Ab];exact⟨⟨⟨⟨⟨⟨⟨trivial,by omega⟩,by omega⟩,h4⟩,h5⟩,h6⟩,by omega⟩,by omega⟩
    ·rw[hr'];show (DT.br (F5 fl us (u0,u1,u2) (sm+w) ((Dh ids).drop (i+1).toNat)).1 (.leaf _) (.leaf _)).run=_
     cases (F5 fl us (u0,u1,u2) (sm+w) ((Dh ids).drop (i+1).toNat)).1 <;> rfl
  ·rw[qCk,Aj hi];rw[AG (by rw[E6];omega)] at hr';exact .inl (by rw[hr'];rfl)
 ·cases hp
noncomputable def R82:CO:=R81.C8 21 6 [3,6,7,12,13,26,27,28] [false,false,false] KD pCk fCk
theorem okR82:Ck Try.prog R82.env:=
 okR81.C8 (n:=60) Try.func21 (show Try.f21.body=some (DL Try.f21) by kernel_rfl) (show (loops (DL Try.f21)).filter (fun b=>Ed b==6)=[CZ Try.f21 6] by kernel_rfl) [3,6,7,12,13,26,27,28] [6,7,10,11,13] [false,false,false] KD mCk sCk
abbrev kpU (ws:List PV):List PV:=CU (CT false) ws
abbrev wkU (fl:Bool) (ws:List PV) (s:T3) (ids:List PV):Bool × T3 × Int:=F5 fl (kpU ws) s 0 ((Dh ids).drop (0:Int).toNat)
theorem qCheck (f:Bool) (ws:List PV) (x y z a b c:Int) (fl:Bool) (g:Bool) (ids:List PV):Dw Try.prog R82 60 21 [.CQ f 49 ws,Dy x y z,Dy a b c,bv fl,.CQ g 3 ids] =
 bif decide (ws.length<=1000)&&ED EK ws then
 bif pSK (lSK false (kpU ws) ((kpU ws).length:Int) 0 x y z a b c []) then
 bif GQ [F7 x y z,F7 a b c] [F7 x y z,F7 a b c] then
 bif !gotB (mD ws) x y z then some (.D8 [iv 0,bv false]) else
 bif decide (ws.length<=1000)&&ED EK ws then
 bif pCk (lCk fl false (kpU ws) 0 g ids (ids.length:Int) 0 x y z a b c (mD ws)) then
 bif (wkU fl ws (x,y,z) ids).1 then
  bif !eq3 (wkU fl ws (x,y,z) ids).2.1.1 (wkU fl ws (x,y,z) ids).2.1.2.1 (wkU fl ws (x,y,z) ids).2.1.2.2 a b c then some (.D8 [iv 0,bv false]) else some (.D8 [iv (wkU fl ws (x,y,z) ids).2.2,bv true])
 else some (.D8 [iv 0,bv false]) else none else none else none else none else none:=by kernel_rfl
noncomputable def chkV (ws:List PV) (fl:Bool) (s t:T3) (ids:List Int):Int × Bool:=
 @ite _ (Eo ws s) (Classical.propDecidable _) (bif (F5 fl (kpU ws) s 0 ids).1&&decide ((F5 fl (kpU ws) s 0 ids).2.1=t) then ((F5 fl (kpU ws) s 0 ids).2.2,true) else (0,false)) (0,false)
theorem pSK_ok {ws:List PV} (h:KB ws) (x y z a b c:Int):pSK (lSK false (kpU ws) ((kpU ws).length:Int) 0 x y z a b c [])=true:=by
 have:(kpU ws).length<=ws.length:=Eb (d:=CT false) ws;have:=h.few;simp only[pSK,Aa,Ab];exact⟨⟨⟨⟨trivial,by omega⟩,by omega⟩,by omega⟩,Nc h.Kv⟩
theorem pCk_ok {fl g:Bool} {ws ids:List PV} (h:KB ws) (hi:ids.length<=100000) (x y z a b c:Int):pCk (lCk fl false (kpU ws) 0 g ids (ids.length:Int) 0 x y z a b c (mD ws))=true:=by
 have:(kpU ws).length<=ws.length:=Eb (d:=CT false) ws;have:=h.few;simp only[pCk,Aa,Ab];exact⟨⟨⟨⟨⟨⟨⟨trivial,by omega⟩,by omega⟩,hi⟩,FH h⟩,by omega⟩,by omega⟩,by omega⟩
theorem qCheckN (f:Bool) (ws:List PV) (x y z a b c:Int) (fl:Bool) (g:Bool) (ids:List PV) (h:KB ws) (hN:Em EK ws) (hi:ids.length<=100000):
  Dw Try.prog R82 60 21 [.CQ f 49 ws,Dy x y z,Dy a b c,bv fl,.CQ g 3 ids]=some (.D8 [iv (chkV ws fl (x,y,z) (a,b,c) (Dh ids)).1,bv (chkV ws fl (x,y,z) (a,b,c) (Dh ids)).2]):=by
 have hf:=h.few;rw[qCheck,Ac (show ws.length<=1000 by omega),DM.2 hN,pSK_ok h,EF,pCk_ok h hi];simp only[Bn,Am];unfold chkV;by_cases hs:Eo ws (x,y,z)
 ·have e0:wkU fl ws (x,y,z) ids=F5 fl (kpU ws) (x,y,z) 0 (Dh ids):=rfl;rw[I9.2 hs,Ai hs,e0];simp only[BP,At];generalize F5 fl (kpU ws) (x,y,z) 0 (Dh ids)=r;obtain⟨r1,⟨u0,u1,u2⟩,r3⟩:=r;dsimp only;rw[show eq3 u0 u1 u2 a b c=decide ((u0,u1,u2)=(a,b,c)) from eq3_st (p:=Dy a b c)];cases r1 with
  | false=>rfl
  | true=>cases decide ((u0,u1,u2)=(a,b,c)) <;> rfl
 ·have hg:gotB (mD ws) x y z=false:=by
   cases hh:gotB (mD ws) x y z with
   | true=>exact absurd (I9.1 hh) hs
   | false=>rfl
  rw[hg,An hs];rfl
noncomputable def cCheck:List PV->Option (DT PV)
 | [.CQ _ 49 ws,.agg [.val (.int .i64 x),.val (.int .i64 y),.val (.int .i64 z)],.agg [.val (.int .i64 a),.val (.int .i64 b),.val (.int .i64 c)],.val (.bool fl),.CQ _ 3 ids] =>
  some (.br (dB (KB ws)&&ED EK ws&&decide (ids.length<=100000)) (.leaf (.D8 [iv (chkV ws fl (x,y,z) (a,b,c) (Dh ids)).1,bv (chkV ws fl (x,y,z) (a,b,c) (Dh ids)).2])) .no)
 | _=>none
theorem eCheck:Hx.CV Try.prog 21:=(CK okR82 (n:=60) (qCheckN false [] 0 0 0 0 0 0 false false [] wok0 normG0 (by simp))).1
theorem oCheck (args:List PV) (d:DT PV) (r:PV) (h:cCheck args=some d) (hr:d.run=some r):Da Try.prog 21 args r:=by
 unfold cCheck at h;split at h
 ·rename_i f ws x y z a b c fl g ids;cases h;obtain⟨h1,rfl⟩:=DI hr;simp only[Aa,D3,DM,Ab] at h1;exact (CK okR82 (n:=60) (qCheckN f ws x y z a b c fl g ids h1.1.1 h1.1.2 h1.2)).2
 ·cases h
noncomputable def R83:CO:=R82.DF 21 cCheck
theorem okR83:Ck Try.prog R83.env:=okR82.DF eCheck oCheck


def shSm:S1:=⟨26,[(0,.CQ 3),(1,.CQ 3),(5,C4)],[]⟩
abbrev lSm (f:Bool) (xs:List PV) (g:Bool) (ys:List PV) (i:Int):LS:=([.l f xs,.l g ys,.i i],[])
theorem qSm (f:Bool) (xs:List PV) (g:Bool) (ys:List PV) (i:Int):CR Try.prog R83 60 14 (CZ Try.f14 4) [0,1,5] [4] (shSm.put (lSm f xs g ys i)).1 (shSm.put (lSm f xs g ys i)).2 =
 bif decide (i<(xs.length:Int)) then bif H8 xs i then bif H8 ys i then bif nI xs i != nI ys i then some (.ret,tm 26 [(4,bv false)],[]) else some (.normal,shSm.put (lSm f xs g ys (W (i+1)))) else none else none
 else some (.exit 0,tm 26 [],[]):=by kernel_rfl
def pSm:LS->Bool
 | ([.l _ xs,.l _ ys,.i i],[])=>decide (xs.length=ys.length)&&decide (0<=i)&&decide (i<=(xs.length:Int))&&decide (xs.length<=1000000)
 | _=>false
def fSm:LS->DT (PX × List PV × List Row)
 | ([.l _ xs,.l _ ys,.i i],[])=>.br (decide ((Dh xs).drop i.toNat=(Dh ys).drop i.toNat)) (.leaf (.exit 0,tm 26 [],[])) (.leaf (.ret,tm 26 [(4,bv false)],[]))
 | _=>.no
def mSm:LS->Nat
 | ([.l _ xs,.l _ _,.i i],_)=>((xs.length:Int)-i).toNat
 | _=>0
theorem sSm:∀ s r,pSm s=true->(fSm s).run=some r->r.1 ≠ .normal/\(CR Try.prog R83 60 14 (CZ Try.f14 4) [0,1,5] [4] (shSm.put s).1 (shSm.put s).2=some r \/
   ∃ s',CR Try.prog R83 60 14 (CZ Try.f14 4) [0,1,5] [4] (shSm.put s).1 (shSm.put s).2=some (.normal,shSm.put s')/\pSm s'=true/\mSm s'<mSm s/\(fSm s').run=some r):=by
 intro t r hp hr;unfold pSm at hp;split at hp
 ·rename_i f xs g ys i;simp only[Aa,Ab] at hp;obtain⟨⟨⟨h1,h2⟩,h3⟩,h4⟩:=hp;have hr':=Il hr;refine⟨by rw[hr'];cases decide ((Dh xs).drop i.toNat=(Dh ys).drop i.toNat) <;> simp,?_⟩;rw[show shSm.put ([.l f xs,.l g ys,.i i],[])=shSm.put (lSm f xs g ys i) from rfl,qSm];by_cases hi:i<(xs.length:Int)
  ·rw[Ac hi,D1 h2 hi,D1 h2 (by omega),Dc (by omega) (by omega)];simp only[Am];rw[KA h2 hi,KA h2 (show i<(ys.length:Int) by omega)] at hr';rw[show ((xs.getD i.toNat .any).cellAt 0).Dn=nI xs i from rfl,show ((ys.getD i.toNat .any).cellAt 0).Dn=nI ys i from rfl] at hr';by_cases he:nI xs i=nI ys i
   ·rw[show (nI xs i != nI ys i)=false by simp[he]];refine .inr ⟨lSm f xs g ys (i+1),rfl,by simp only[pSm,Aa,Ab];exact⟨⟨⟨h1,by omega⟩,by omega⟩,h4⟩,by simp only[mSm];omega,?_⟩;rw[hr'];have:decide (nI xs i::(Dh xs).drop (i+1).toNat=nI ys i::(Dh ys).drop (i+1).toNat)=decide ((Dh xs).drop (i+1).toNat=(Dh ys).drop (i+1).toNat):=by
     rw[Cz,he];simp
    rw[this];show (DT.br (decide ((Dh xs).drop (i+1).toNat=(Dh ys).drop (i+1).toNat)) (.leaf _) (.leaf _)).run=_
    cases decide ((Dh xs).drop (i+1).toNat=(Dh ys).drop (i+1).toNat) <;> rfl
   ·rw[show (nI xs i != nI ys i)=true by simp[he]];rw[Aj (fun hh=>he (List.cons.inj hh).1)] at hr';exact .inl (by rw[hr'];rfl)
  ·rw[Aj hi];rw[AG (by rw[E6];omega),AG (by rw[E6];omega),Ac rfl] at hr';exact .inl (by rw[hr'];rfl)
 ·cases hp
noncomputable def R88:CO:=R83.C8 14 4 [0,1,5] [] shSm pSm fSm
theorem okR88:Ck Try.prog R88.env:=
 okR83.C8 (n:=60) Try.func14 (show Try.f14.body=some (DL Try.f14) by kernel_rfl) (show (loops (DL Try.f14)).filter (fun b=>Ed b==4)=[CZ Try.f14 4] by kernel_rfl) [0,1,5] [4] [] shSm mSm sSm
theorem qSame (f:Bool) (xs:List PV) (g:Bool) (ys:List PV):Dw Try.prog R88 60 14 [.CQ f 3 xs,.CQ g 3 ys] =
 bif (xs.length:Int) != (ys.length:Int) then some (bv false) else bif pSm (lSm f xs g ys 0) then bif decide ((Dh xs).drop (0:Int).toNat=(Dh ys).drop (0:Int).toNat) then some (bv true) else some (bv false) else none:=by kernel_rfl
theorem qSameN (f:Bool) (xs:List PV) (g:Bool) (ys:List PV) (h:xs.length<=1000000):Dw Try.prog R88 60 14 [.CQ f 3 xs,.CQ g 3 ys]=some (bv (decide (Dh xs=Dh ys))):=by
 rw[qSame];by_cases hl:xs.length=ys.length
 ·have hp:pSm (lSm f xs g ys 0)=true:=by
   simp only[pSm,Aa,Ab];exact⟨⟨⟨hl,by omega⟩,by omega⟩,h⟩
  rw[show ((xs.length:Int) != (ys.length:Int))=false by simp[hl],hp,show (0:Int).toNat=0 from rfl,AM,AM];cases decide (Dh xs=Dh ys) <;> rfl
 ·rw[show ((xs.length:Int) != (ys.length:Int))=true by simp;omega,show decide (Dh xs=Dh ys)=false from Aj (fun e=>hl (by have:=congrArg List.length e;rwa [E6,E6] at this))];rfl
def cSame:List PV->Option (DT PV)
 | [.CQ _ 3 xs,.CQ _ 3 ys]=>some (.br (decide (xs.length<=1000000)) (.leaf (bv (decide (Dh xs=Dh ys)))) .no)
 | _=>none
theorem eSame:Hx.CV Try.prog 14:=(CK okR88 (n:=60) (qSameN false [] false [] (by simp))).1
theorem oSame (args:List PV) (d:DT PV) (r:PV) (h:cSame args=some d) (hr:d.run=some r):Da Try.prog 14 args r:=by
 unfold cSame at h;split at h
 ·rename_i f xs g ys;cases h;obtain⟨h1,rfl⟩:=DI hr;exact (CK okR88 (n:=60) (qSameN f xs g ys (AS h1))).2
 ·cases h
noncomputable def R89:CO:=R88.DF 14 cSame
theorem okR89:Ck Try.prog R89.env:=okR88.DF eSame oSame
theorem mget_cst {t:T3} {z:PV} {w:Int} {p:List Int}:∀ {L:List Rc},(L.map (·.1)).Nodup->(t,(w,p)) ∈ L->EG z (L.map GK) (FG t)=iv w
 | x::L,hn,h=>by
  rw[AZ,Cp] at hn;show (bif ID (FG t) (FG x.1) then iv x.2.1 else EG z (L.map GK) (FG t))=_
  rw[Ir];rcases AK.1 h with rfl | h
  ·rw[Ac rfl];rfl
  ·rw[Aj (fun e=>hn.1 (by rw[<- e];exact Bp h))];exact mget_cst hn.2 h
noncomputable def MT1:CO:=M7.G3 85 3 [(1201,28,2)]
theorem okMT1:Ck Try.prog MT1.env:=Ia.G3 85 3 [(1201,28,2)]
def shTu:S1:=⟨31,[(1,.ptr 0 1 0 0),(2,.ptr 1 1 0 0),(3,.ptr 2 1 0 0),(4,C4)],[.one 147 4 (.agg [C4,.CQ 28,C4,C4]),.Gl 147 4 (.agg [C4,.nil,C4,C4]),.Gl 147 4 (.agg [C4,.sl 3,C4,C4]),.many 28 2]⟩
abbrev lTu (i id:Int) (f:Bool) (ps:List PV) (lf rt b0 b1 b2 c0:Int) (n l:Nat) (c1 c2:Int) (nl:Bool) (es:List PV):LS:=([.i i],[.i id,.l f ps,.i lf,.i rt,.i b0,.i b1,.i b2,.i c0,.n n,.n l,.i c1,.i c2,.l nl es])
noncomputable abbrev xTu (id:Int) (f:Bool) (ps:List PV) (lf rt b0 b1 b2 c0:Int) (n l:Nat) (c1 c2:Int) (nl:Bool) (es:List PV):PX × List PV × List Row:=
 (.exit 0,tm 31 [(2,.ptr 1 1 0 0),(3,.ptr 2 1 0 0)],(shTu.put (lTu 0 id f ps lf rt b0 b1 b2 c0 n l c1 c2 nl es)).2)
abbrev ptN (e:PV):PV:=FC (e.cellAt 0).Dn (e.cellAt 1).Dn
theorem qTu (i id:Int) (f:Bool) (ps:List PV) (lf rt b0 b1 b2 c0:Int) (n l:Nat) (c1 c2:Int) (nl:Bool) (es:List PV):CR Try.prog MT1 60 85 (CZ Try.f85 3) [1,2,3,4] [2,3] (shTu.put (lTu i id f ps lf rt b0 b1 b2 c0 n l c1 c2 nl es)).1 (shTu.put (lTu i id f ps lf rt b0 b1 b2 c0 n l c1 c2 nl es)).2 =
 bif decide (i ≥ 0) then bif H8 ps i then bif true&&decide (es.length=n)&&decide (n=l)&&decide ((n+1)*16<=140737488355328) then
  some (.normal,shTu.put (lTu (W (i-1)) id f ps lf rt b0 b1 b2 c0 (n+1) (n+1) c1 c2 (nl&&false) (es++[ptN (aE ps i)]))) else none else none
 else some (xTu id f ps lf rt b0 b1 b2 c0 n l c1 c2 nl es):=by kernel_rfl
def turL (ps:List PV):Nat->List PV
 | 0=>[]
 | m+1=>ptN (ps.getD m .any)::turL ps m
theorem turL_len (ps:List PV):∀ m,(turL ps m).length=m
 | 0=>rfl
 | m+1=>by rw[turL,Ay,turL_len]
def pTu:LS->Bool
 | ([.i i],[.i _,.l _ ps,.i _,.i _,.i _,.i _,.i _,.i _,.n n,.n l,.i _,.i _,.l _ es])=>decide (n=es.length)&&decide (l=es.length)&&decide (-1<=i)&&decide (i<(ps.length:Int))&&decide (ps.length<=1000)&&decide ((es.length:Int)+i<=2000)
 | _=>false
noncomputable def fTu:LS->DT (PX × List PV × List Row)
 | ([.i i],[.i id,.l f ps,.i lf,.i rt,.i b0,.i b1,.i b2,.i c0,.n _,.n _,.i c1,.i c2,.l nl es]) =>
  .leaf (xTu id f ps lf rt b0 b1 b2 c0 (es.length+(i+1).toNat) (es.length+(i+1).toNat) c1 c2 (nl&&decide ((i+1).toNat=0)) (es++turL ps (i+1).toNat))
 | _=>.no
def mTu:LS->Nat
 | ([.i i],_)=>(i+1).toNat
 | _=>0
theorem sTu:∀ s r,pTu s=true->(fTu s).run=some r->r.1 ≠ .normal/\(CR Try.prog MT1 60 85 (CZ Try.f85 3) [1,2,3,4] [2,3] (shTu.put s).1 (shTu.put s).2=some r \/
   ∃ s',CR Try.prog MT1 60 85 (CZ Try.f85 3) [1,2,3,4] [2,3] (shTu.put s).1 (shTu.put s).2=some (.normal,shTu.put s')/\pTu s'=true/\mTu s'<mTu s/\(fTu s').run=some r):=by
 intro t r hp hr;unfold pTu at hp;split at hp
 ·rename_i i id f ps lf rt b0 b1 b2 c0 n l c1 c2 nl es;simp only[Aa,Ab] at hp;obtain⟨⟨⟨⟨⟨rfl,rfl⟩,h2⟩,h3⟩,h4⟩,h5⟩:=hp;have hr':=(Ah hr).symm;refine⟨by rw[hr'];simp,?_⟩;rw[show shTu.put ([.i i],[.i id,.l f ps,.i lf,.i rt,.i b0,.i b1,.i b2,.i c0,.n es.length,.n es.length,.i c1,.i c2,.l nl es])=shTu.put (lTu i id f ps lf rt b0 b1 b2 c0 es.length es.length c1 c2 nl es) from rfl,qTu];by_cases hi:i ≥ 0
  ·obtain⟨m,hm⟩:∃ m,(i+1).toNat=m+1:=⟨(i+1).toNat-1,by omega⟩;have hm2:(i-1+1).toNat=m:=by omega
   have hm3:i.toNat=m:=by omega
   rw[Ac hi,D1 (by omega) h3,Dc (n:=i-1) (by omega) (by omega),show (true&&decide (es.length=es.length)&&decide (es.length=es.length)&&decide ((es.length+1)*16<=140737488355328))=true by simp;omega];simp only[Am,BV];rw[hm] at hr';refine .inr ⟨lTu (i-1) id f ps lf rt b0 b1 b2 c0 (es.length+1) (es.length+1) c1 c2 false (es++[ptN (aE ps i)]),rfl,?_,by simp only[mTu];omega,?_⟩
   ·simp only[pTu,Aa,Ab,Ar,Ay,AC];exact⟨⟨⟨⟨⟨trivial,trivial⟩,by omega⟩,by omega⟩,h4⟩,by omega⟩
   ·rw[hr'];simp only[fTu,hm2,DT.run,Ar,Ay,AC,turL];rw[BG,show es.length+(0+1)+m=es.length+(m+1) by omega,show aE ps i=ps.getD m .any by unfold aE;rw[hm3]];simp
  ·rw[Aj hi];refine .inl ?_;rw[hr',show (i+1).toNat=0 by omega,Bq];simp only[turL,BW,decide_true,BD];rfl
 ·cases hp
noncomputable def MT2:CO:=MT1.C8 85 3 [1,2,3,4] [true,true,true,true] shTu pTu fTu
theorem okMT2:Ck Try.prog MT2.env:=
 okMT1.C8 (n:=60) Try.func85 (show Try.f85.body=some (DL Try.f85) by kernel_rfl) (show (loops (DL Try.f85)).filter (fun b=>Ed b==3)=[CZ Try.f85 3] by kernel_rfl) [1,2,3,4] [2,3] [true,true,true,true] shTu mTu sTu
theorem qTurned (id:Int) (f:Bool) (ps:List PV) (lf rt:Int):Dw Try.prog MT2 60 85 [.agg [iv id,.CQ f 28 ps,iv lf,iv rt]] =
 bif pTu (lTu (W ((ps.length:Int)-1)) id f ps lf rt 0 0 0 id 0 0 rt lf true []) then
  J0 ([]++turL ps (W ((ps.length:Int)-1)+1).toNat) (0+(W ((ps.length:Int)-1)+1).toNat) (some (.agg [iv id,.CQ false 28 ((([]++turL ps (W ((ps.length:Int)-1)+1).toNat).drop 0).take (0+(W ((ps.length:Int)-1)+1).toNat)),iv rt,iv lf])) else none:=by kernel_rfl
theorem qTurnedN (id:Int) (f:Bool) (ps:List PV) (lf rt:Int) (h:ps.length<=1000):Dw Try.prog MT2 60 85 [.agg [iv id,.CQ f 28 ps,iv lf,iv rt]]=some (.agg [iv id,.CQ false 28 (turL ps ps.length),iv rt,iv lf]):=by
 have hw:W ((ps.length:Int)-1)=(ps.length:Int)-1:=Dc (by omega) (by omega);have hp:pTu (lTu ((ps.length:Int)-1) id f ps lf rt 0 0 0 id 0 0 rt lf true [])=true:=by
  simp only[pTu,Aa,Ab,AC];exact⟨⟨⟨⟨⟨trivial,trivial⟩,by omega⟩,by omega⟩,h⟩,by omega⟩
 rw[qTurned,hw,hp,show ((ps.length:Int)-1+1).toNat=ps.length by omega];rw[Am,BM,AN,DQ (turL_len _ _),AM,Bi (by rw[turL_len];exact Ak _)]
def cTur:List PV->Option (DT PV)
 | [.agg [.val (.int .i64 id),.CQ _ 28 ps,.val (.int .i64 lf),.val (.int .i64 rt)]]=>some (.br (decide (ps.length<=1000)) (.leaf (.agg [iv id,.CQ false 28 (turL ps ps.length),iv rt,iv lf])) .no)
 | _=>none
theorem eTur:Hx.CV Try.prog 85:=(CK okMT2 (n:=60) (qTurnedN 0 false [] 0 0 (by simp))).1
theorem oTur (args:List PV) (d:DT PV) (r:PV) (h:cTur args=some d) (hr:d.run=some r):Da Try.prog 85 args r:=by
 unfold cTur at h;split at h
 ·rename_i id f ps lf rt;cases h;obtain⟨h1,rfl⟩:=DI hr;exact (CK okMT2 (n:=60) (qTurnedN id f ps lf rt (AS h1))).2
 ·cases h
noncomputable def MA1:CO:=M7.DF 85 cTur
theorem okMA1:Ck Try.prog MA1.env:=Ia.DF eTur oTur
abbrev edR (nl:Bool) (es:List PV):Row:={ es,s:=4,t:=147,bv:=true,nl }
abbrev edv (id:Int) (f:Bool) (ps:List PV) (lf rt:Int):PV:=.agg [iv id,.CQ f 28 ps,iv lf,iv rt]
abbrev roomE (es:List PV) (n l:Nat):Bool:=true&&decide (es.length=n)&&decide (n=l)&&decide ((n+1)*48<=140737488355328)
theorem qAdd (n l:Nat) (nl:Bool) (es:List PV) (g:Bool) (ps:List PV) (lf rt:Int) (f:Bool) (L:List PV) (a:Int):JV Try.prog MA1 60 71 [.sl 0 n 0 l,.CQ g 28 ps,iv lf,iv rt,.ptr 1 1 0 0] [edR nl es,HC f L a] =
 bif lf==rt then some (.sl 0 n 0 l,[edR nl es,HC f L a]) else bif EE a 2 then bif dI L a 2==1 then bif decide (ps.length<=1000) then bif roomE es n l then
  some (.sl 0 (n+1) 0 (n+1),[edR (nl&&false) (es++[edv (W ((l:Int)+1)) false (turL ps ps.length) rt lf]),HC (fI f L a) L (aI L a)]) else none else none
 else bif roomE es n l then some (.sl 0 (n+1) 0 (n+1),[edR (nl&&false) (es++[edv (W ((l:Int)+1)) g ps lf rt]),HC (fI f L a) L (aI L a)]) else none else none:=by kernel_rfl
def H5 (es:List PV) (g:Bool) (ps:List PV) (lf rt:Int) (L:List PV) (a:Int):List PV:=
 bif lf==rt then es else es++[bif dI L a 2==1 then edv (W ((es.length:Int)+1)) false (turL ps ps.length) rt lf else edv (W ((es.length:Int)+1)) g ps lf rt]
def addA (lf rt:Int) (L:List PV) (a:Int):Int:=bif lf==rt then a else aI L a
def addF' (lf rt:Int) (f:Bool) (L:List PV) (a:Int):Bool:=bif lf==rt then f else fI f L a
def addN' (lf rt:Int) (nl:Bool):Bool:=bif lf==rt then nl else false
def okAd (n l:Nat) (es ps:List PV) (a:Int):Bool:=decide (n=es.length)&&decide (l=es.length)&&decide (es.length<=1000)&&decide (ps.length<=1000)&&EE a 2
theorem qAddN {n l:Nat} {nl:Bool} {es:List PV} {g:Bool} {ps:List PV} {lf rt:Int} {f:Bool} {L:List PV} {a:Int} (h:okAd n l es ps a=true):JV Try.prog MA1 60 71 [.sl 0 n 0 l,.CQ g 28 ps,iv lf,iv rt,.ptr 1 1 0 0] [edR nl es,HC f L a] =
  some (.sl 0 (H5 es g ps lf rt L a).length 0 (H5 es g ps lf rt L a).length,[edR (addN' lf rt nl) (H5 es g ps lf rt L a),HC (addF' lf rt f L a) L (addA lf rt L a)]):=by
 unfold okAd at h;simp only[Aa,Ab] at h;obtain⟨⟨⟨⟨rfl,rfl⟩,h1⟩,h2⟩,h3⟩:=h;rw[qAdd,h3,Ac h2,show roomE es es.length es.length=true by show (true&&_&&_&&_)=true;simp;omega];unfold H5 addN' addF' addA;cases lf==rt with
 | true=>rfl
 | false =>
  simp only[At,Am,BV,Ar,Ay,AC];cases dI L a 2==1 <;> rfl
def cAdd:List PV->List Row->Option (DT (PV × List Row))
 | [.sl 0 n 0 l,.CQ g 28 ps,.val (.int .i64 lf),.val (.int .i64 rt),.ptr 1 1 0 0],[⟨es,4,147,true,true,nl,none,false⟩,⟨[.agg [.CQ f 3 L,.val (.int .i64 a)]],2,103,true,true,false,none,false⟩] =>
  some (.br (okAd n l es ps a) (.leaf (.sl 0 (H5 es g ps lf rt L a).length 0 (H5 es g ps lf rt L a).length,[edR (addN' lf rt nl) (H5 es g ps lf rt L a),HC (addF' lf rt f L a) L (addA lf rt L a)])) .no)
 | _,_=>none
theorem eAdd:Hx.CV Try.prog 71:=(Dm okMA1 (qAddN (n:=0) (l:=0) (nl:=false) (es:=[]) (g:=false) (ps:=[]) (lf:=0) (rt:=0) (f:=false) (L:=[]) (a:=0) (by rfl))).1
theorem oAdd (args:List PV) (H:List Row) (d:DT (PV × List Row)) (q:PV) (H':List Row) (h:cAdd args H=some d) (hd:d.run=some (q,H')):ET Try.prog 0 71 args H q H':=by
 unfold cAdd at h;split at h
 ·rename_i n l g ps lf rt es nl f L a;cases h;obtain⟨hc,he⟩:=FK hd;cases he;exact (Dm okMA1 (qAddN hc)).2
 ·cases h
noncomputable def MA2:CO:=M7.ER 71 cAdd
theorem okMA2:Ck Try.prog MA2.env:=Ia.ER eAdd oAdd
noncomputable def MA3:CO:=MA2.Gj 75 5 3
theorem okMA3:Ck Try.prog MA3.env:=okMA2.Gj 75 5 3
abbrev isR (L:List PV) (a:Int):Int:=W (6+dI L a 8)
abbrev isA (cx cy r:Int):List PV:=[FC (W (cx-r)) (W (cy-r)),FC (W (cx+r)) (W (cy-r)),FC (W (cx+r)) (W (cy+r)),FC (W (cx-r)) (W (cy-r))]
abbrev isB (cx cy r:Int):List PV:=[FC (W (cx-r)) cy,FC cx (W (cy-r)),FC (W (cx+r)) (W (cy+2)),FC cx (W (cy+r)),FC (W (cx-r)) cy]
noncomputable def isT (n l:Nat) (nl:Bool) (es:List PV) (ps:List PV) (ar:Int) (f:Bool) (L:List PV) (a:Int):Option (PV × List Row):=
 bif es.length==n then bif okAd n l es ps a then
  some (.sl 0 (H5 es false ps 28 ar L a).length 0 (H5 es false ps 28 ar L a).length,[edR (addN' 28 ar nl) (H5 es false ps 28 ar L a),HC (addF' 28 ar f L a) L (addA 28 ar L a)]) else none else none
theorem qIsl (n l:Nat) (nl:Bool) (es:List PV) (cx cy ar:Int) (f:Bool) (L:List PV) (a:Int):JV Try.prog MA3 60 75 [.sl 0 n 0 l,FC cx cy,iv ar,.ptr 1 1 0 0] [edR nl es,HC f L a] =
 bif EE a 8 then bif EE (aI L a) 2 then bif dI L (aI L a) 2==1 then isT n l nl es (isB cx cy (isR L a)) ar (f1 f L a 2) L (a1 L a 2) else isT n l nl es (isA cx cy (isR L a)) ar (f1 f L a 2) L (a1 L a 2) else none else none:=by kernel_rfl
def isL (cx cy:Int) (L:List PV) (a:Int):List PV:=bif dI L (aI L a) 2==1 then isB cx cy (isR L a) else isA cx cy (isR L a)
def okIs (n l:Nat) (es:List PV) (a:Int):Bool:=decide (n=es.length)&&decide (l=es.length)&&decide (es.length<=1000)&&decide (0<=a)&&decide (a<=1000000000)
theorem qIslN {n l:Nat} {nl:Bool} {es:List PV} {cx cy ar:Int} {f:Bool} {L:List PV} {a:Int} (h:okIs n l es a=true):JV Try.prog MA3 60 75 [.sl 0 n 0 l,FC cx cy,iv ar,.ptr 1 1 0 0] [edR nl es,HC f L a] =
  some (.sl 0 (H5 es false (isL cx cy L a) 28 ar L (a1 L a 2)).length 0 (H5 es false (isL cx cy L a) 28 ar L (a1 L a 2)).length,
   [edR (addN' 28 ar nl) (H5 es false (isL cx cy L a) 28 ar L (a1 L a 2)),HC (addF' 28 ar (f1 f L a 2) L (a1 L a 2)) L (addA 28 ar L (a1 L a 2))]):=by
 unfold okIs at h;simp only[Aa,Ab] at h;obtain⟨⟨⟨⟨rfl,rfl⟩,h1⟩,h2⟩,h3⟩:=h;have ha:=FF L a;have hb:=GV L a 2;have hok:∀ ps:List PV,ps.length<=1000->okAd es.length es.length es ps (a1 L a 2)=true:=fun ps hp=>by
  unfold okAd EE;simp only[Aa,Ab];exact⟨⟨⟨⟨trivial,trivial⟩,h1⟩,hp⟩,⟨⟨by omega,by omega⟩,by omega⟩,by omega⟩
 rw[qIsl,show EE a 8=true by unfold EE;simp;omega,show EE (aI L a) 2=true by unfold EE;simp;omega];unfold isL isT;rw[hok (isA cx cy (isR L a)) (by simp),hok (isB cx cy (isR L a)) (by simp),AR];cases dI L (aI L a) 2==1 <;> rfl
def cIsl:List PV->List Row->Option (DT (PV × List Row))
 | [.sl 0 n 0 l,.agg [.val (.int .i64 cx),.val (.int .i64 cy)],.val (.int .i64 ar),.ptr 1 1 0 0],[⟨es,4,147,true,true,nl,none,false⟩,⟨[.agg [.CQ f 3 L,.val (.int .i64 a)]],2,103,true,true,false,none,false⟩] =>
  some (.br (okIs n l es a) (.leaf (.sl 0 (H5 es false (isL cx cy L a) 28 ar L (a1 L a 2)).length 0 (H5 es false (isL cx cy L a) 28 ar L (a1 L a 2)).length,
   [edR (addN' 28 ar nl) (H5 es false (isL cx cy L a) 28 ar L (a1 L a 2)),HC (addF' 28 ar (f1 f L a 2) L (a1 L a 2)) L (addA 28 ar L (a1 L a 2))])) .no)
 | _,_=>none
theorem eIsl:Hx.CV Try.prog 75:=(Dm okMA3 (qIslN (n:=0) (l:=0) (nl:=false) (es:=[]) (cx:=0) (cy:=0) (ar:=0) (f:=false) (L:=[]) (a:=0) (by rfl))).1
theorem oIsl (args:List PV) (H:List Row) (d:DT (PV × List Row)) (q:PV) (H':List Row) (h:cIsl args H=some d) (hd:d.run=some (q,H')):ET Try.prog 0 75 args H q H':=by
 unfold cIsl at h;split at h
 ·rename_i n l cx cy ar es nl f L a;cases h;obtain⟨hc,he⟩:=FK hd;cases he;exact (Dm okMA3 (qIslN hc)).2
 ·cases h
noncomputable def MA4:CO:=((M10.ER 71 cAdd).ER 75 cIsl)
theorem okMA4:Ck Try.prog MA4.env:=(okM10.ER eAdd oAdd).ER eIsl oIsl
abbrev arv (o0 o1 o2 o3 o4 o5:Int):PV:=.agg [iv o0,iv o1,iv o2,iv o3,iv o4,iv o5]
theorem qCell (o0 o1 o2 o3 o4 o5 w h i j:Int):Dw Try.prog M7 60 74 [arv o0 o1 o2 o3 o4 o5,iv w,iv h,iv i,iv j] =
 bif decide (i<0) then some (iv 0) else bif cond false true (decide (j<0)) then some (iv 0) else bif cond false true (decide (i ≥ w)) then some (iv 0) else bif cond false true (decide (j ≥ h)) then some (iv 0) else
  bif decide (i=2) then bif decide (j=1) then some (iv o5) else bif decide (j=0) then some (iv o4) else none else
  bif decide (i=1) then bif decide (j=1) then some (iv o3) else bif decide (j=0) then some (iv o2) else none else
  bif decide (i=0) then bif decide (j=1) then some (iv o1) else bif decide (j=0) then some (iv o0) else none else none:=by kernel_rfl
def clJ (o0 o1 o2 o3 o4 o5 w h i j:Int):Int:=bif decide (i<0) then 0 else bif decide (j<0) then 0 else bif decide (i ≥ w) then 0 else bif decide (j ≥ h) then 0 else
 bif decide (i=2) then bif decide (j=1) then o5 else o4 else bif decide (i=1) then bif decide (j=1) then o3 else o2 else bif decide (j=1) then o1 else o0
def cCell:List PV->Option (DT PV)
 | [.agg [.val (.int .i64 o0),.val (.int .i64 o1),.val (.int .i64 o2),.val (.int .i64 o3),.val (.int .i64 o4),.val (.int .i64 o5)],.val (.int .i64 w),.val (.int .i64 h),.val (.int .i64 i),.val (.int .i64 j)] =>
  some (.br (decide (w<=3)&&decide (h<=2)) (.leaf (iv (clJ o0 o1 o2 o3 o4 o5 w h i j))) .no)
 | _=>none
theorem qCellN (o0 o1 o2 o3 o4 o5 w h i j:Int) (hw:w<=3) (hh:h<=2):Dw Try.prog M7 60 74 [arv o0 o1 o2 o3 o4 o5,iv w,iv h,iv i,iv j]=some (iv (clJ o0 o1 o2 o3 o4 o5 w h i j)):=by
 rw[qCell];unfold clJ;by_cases c1:i<0
 ·rw[Ac c1];rfl
 rw[Aj c1];by_cases c2:j<0
 ·rw[Ac c2];rfl
 rw[Aj c2];by_cases c3:i ≥ w
 ·rw[Ac c3];rfl
 rw[Aj c3];by_cases c4:j ≥ h
 ·rw[Ac c4];rfl
 rw[Aj c4];have hi:i=0\/i=1\/i=2:=by omega
 have hj:j=0\/j=1:=by omega
 rcases hi with rfl | rfl | rfl <;> rcases hj with rfl | rfl <;> rfl
theorem eCell:Hx.CV Try.prog 74:=(CK Ia (n:=60) (qCellN 0 0 0 0 0 0 0 0 0 0 (by omega) (by omega))).1
theorem oCell (args:List PV) (d:DT PV) (r:PV) (h:cCell args=some d) (hr:d.run=some r):Da Try.prog 74 args r:=by
 unfold cCell at h;split at h
 ·rename_i o0 o1 o2 o3 o4 o5 w h' i j;cases h;obtain⟨h1,rfl⟩:=DI hr;simp only[Aa,Ab] at h1;exact (CK Ia (n:=60) (qCellN o0 o1 o2 o3 o4 o5 w h' i j h1.1 h1.2)).2
 ·cases h
noncomputable def MA5:CO:=MA4.DF 74 cCell
theorem okMA5:Ck Try.prog MA5.env:=okMA4.DF eCell oCell
noncomputable def MB1:CO:=((((((MA5.D6 53 33).D6 53 40).FN 73).FN 74).FN 72).FN 71)
theorem okMB1:Ck Try.prog MB1.env:=((((((okMA5.D6 53 33).D6 53 40).FN 73).FN 74).FN 72).FN 71)
abbrev Ew:=List PV × Bool × Int × Bool
def edS (N:List PV) (x0 y0 x1 y1 lf rt:Int) (s:Ew):Ew:=
 (H5 s.1 false (wigL x0 y0 x1 y1 N s.2.2.1) lf rt N (a1 N s.2.2.1 (Lg N s.2.2.1+1)),addF' lf rt (f1 s.2.1 N s.2.2.1 (Lg N s.2.2.1+1)) N (a1 N s.2.2.1 (Lg N s.2.2.1+1)),addA lf rt N (a1 N s.2.2.1 (Lg N s.2.2.1+1)),addN' lf rt s.2.2.2)
abbrev shEd (t:List (Tmp × X1)):S1:=⟨208,[(5,.CQ 3),(7,.ptr 0 1 0 0),(8,C4),(9,C4),(10,.ptr 1 1 0 0),(13,.ptr 2 1 0 0),(14,.sl 3)]++t,
 [.one 103 2 (.agg [.CQ 3,C4]),.one 128 6 (.agg [C4,C4,C4,C4,C4,C4]),.one 103 2 (.agg [.CQ 3,C4]),.many 147 4]⟩
def sh31:S1:=shEd [(15,C4),(16,C4)]
def sh38:S1:=shEd [(17,C4),(18,C4)]
abbrev l31 (m:Bool) (M:List PV) (w h:Int) (n l:Nat) (j i:Int) (f:Bool) (L:List PV) (a o0 o1 o2 o3 o4 o5:Int) (g:Bool) (N:List PV) (c:Int) (nl:Bool) (es:List PV):LS:=([.l m M,.i w,.i h,.n n,.n l,.i j,.i i],[.l f L,.i a,.i o0,.i o1,.i o2,.i o3,.i o4,.i o5,.l g N,.i c,.l nl es])
abbrev arR (o0 o1 o2 o3 o4 o5:Int):Row:=r1 128 6 (arv o0 o1 o2 o3 o4 o5)
abbrev dd0:Row:={ es:=[],s:=0,t:=0,bv:=true,live:=false }
noncomputable def tlE (sh:S1) (m:Bool) (M:List PV) (w h:Int) (n l:Nat) (j i:Int) (f:Bool) (L:List PV) (a o0 o1 o2 o3 o4 o5:Int) (g:Bool) (N:List PV) (c:Int) (nl:Bool) (es:List PV) (x0 y0 x1 y1 lf rt:Int):Option (PX × List PV × List Row):=
 bif decide (0<=c)&&decide (c<=1000000000) then bif GQ [HC f L a,arR o0 o1 o2 o3 o4 o5,dd0,edR nl es] [HC f L a,arR o0 o1 o2 o3 o4 o5,dd0,edR nl es] then
 bif decide (w<=3)&&decide (h<=2) then bif decide (w<=3)&&decide (h<=2) then bif es.length==n then
 bif okAd n l es (wigL x0 y0 x1 y1 N c) (a1 N c (Lg N c+1)) then bif GQ [HC f L a,arR o0 o1 o2 o3 o4 o5,dd0,dd0] [HC f L a,arR o0 o1 o2 o3 o4 o5,dd0,dd0] then
  some (.normal,sh.put (l31 m M w h (edS N x0 y0 x1 y1 lf rt (es,g,c,nl)).1.length (edS N x0 y0 x1 y1 lf rt (es,g,c,nl)).1.length j (W (i+1)) f L a o0 o1 o2 o3 o4 o5 (edS N x0 y0 x1 y1 lf rt (es,g,c,nl)).2.1 N (edS N x0 y0 x1 y1 lf rt (es,g,c,nl)).2.2.1 (edS N x0 y0 x1 y1 lf rt (es,g,c,nl)).2.2.2 (edS N x0 y0 x1 y1 lf rt (es,g,c,nl)).1))
 else none else none else none else none else none else none else none
theorem q31 (m:Bool) (M:List PV) (w h:Int) (n l:Nat) (j i:Int) (f:Bool) (L:List PV) (a o0 o1 o2 o3 o4 o5:Int) (g:Bool) (N:List PV) (c:Int) (nl:Bool) (es:List PV):
 CR Try.prog MB1 60 53 (CZ Try.f53 31) [5,7,8,9,10,13,14,15,16] [5,7,8,9,10,13,14,15] (sh31.put (l31 m M w h n l j i f L a o0 o1 o2 o3 o4 o5 g N c nl es)).1 (sh31.put (l31 m M w h n l j i f L a o0 o1 o2 o3 o4 o5 g N c nl es)).2 =
 bif decide (i<w) then bif Ld i j then bif Ld (W (i+1)) j then
  tlE sh31 m M w h n l j i f L a o0 o1 o2 o3 o4 o5 g N c nl es (ndX M i j) (ndY M i j) (ndX M (W (i+1)) j) (ndY M (W (i+1)) j) (clJ o0 o1 o2 o3 o4 o5 w h i j) (clJ o0 o1 o2 o3 o4 o5 w h i (W (j-1)))
 else none else none
 else some (.exit 6,tm 208 [(5,.CQ m 3 M),(7,.ptr 0 1 0 0),(8,iv w),(9,iv h),(10,.ptr 1 1 0 0),(13,.ptr 2 1 0 0),(14,.sl 3 n 0 l),(15,iv j)],[HC f L a,arR o0 o1 o2 o3 o4 o5,HC g N c,edR nl es]):=by kernel_rfl
theorem wigL_len (x0 y0 x1 y1:Int) (N:List PV) (c:Int):(wigL x0 y0 x1 y1 N c).length=Lg N c+2:=by
 show (([FC x0 y0]++wgL x0 y0 (W (x1-x0)) (W (y1-y0)) (dI N c 4) N (Lg N c) 1 (aI N c))++[FC x1 y1]:List PV).length=_
 rw[Ar,Ar,wgL_len];simp only[Ay,AC];omega
theorem wgN_le (N:List PV) (c:Int):Lg N c<=3:=by
 have h3:=Iq N c (n:=4) (by omega);have h4:=HY N c (n:=4) (by omega);show (dI N c 4+1-1).toNat<=3;omega
theorem edS_bd (N:List PV) (x0 y0 x1 y1 lf rt:Int) (s:Ew):s.1.length<=(edS N x0 y0 x1 y1 lf rt s).1.length/\(edS N x0 y0 x1 y1 lf rt s).1.length<=s.1.length+1/\s.2.2.1<=(edS N x0 y0 x1 y1 lf rt s).2.2.1/\(edS N x0 y0 x1 y1 lf rt s).2.2.1<=s.2.2.1+5:=by
 have h1:=wgN_le N s.2.2.1;have h2:=GV N s.2.2.1 (Lg N s.2.2.1+1);have h3:=FF N (a1 N s.2.2.1 (Lg N s.2.2.1+1));unfold edS H5 addA;cases lf==rt with
 | true=>simp only[Am];omega
 | false=>simp only[At,Ar,Ay,AC];omega
theorem tlE_of (sh:S1) (m:Bool) (M:List PV) (w h:Int) (j i:Int) (f:Bool) (L:List PV) (a o0 o1 o2 o3 o4 o5:Int) (g:Bool) (N:List PV) (c:Int) (nl:Bool) (es:List PV) (x0 y0 x1 y1 lf rt:Int) (hw:w<=3) (hh:h<=2) (hc:0<=c) (hc2:c<=100000) (he:es.length<=1000) (hi:0<=i) (hi2:i<=100):
 tlE sh m M w h es.length es.length j i f L a o0 o1 o2 o3 o4 o5 g N c nl es x0 y0 x1 y1 lf rt =
  some (.normal,sh.put (l31 m M w h (edS N x0 y0 x1 y1 lf rt (es,g,c,nl)).1.length (edS N x0 y0 x1 y1 lf rt (es,g,c,nl)).1.length j (i+1) f L a o0 o1 o2 o3 o4 o5 (edS N x0 y0 x1 y1 lf rt (es,g,c,nl)).2.1 N (edS N x0 y0 x1 y1 lf rt (es,g,c,nl)).2.2.1 (edS N x0 y0 x1 y1 lf rt (es,g,c,nl)).2.2.2 (edS N x0 y0 x1 y1 lf rt (es,g,c,nl)).1)):=by
 have h1:=wgN_le N c;have h2:=GV N c (Lg N c+1);have hok:okAd es.length es.length es (wigL x0 y0 x1 y1 N c) (a1 N c (Lg N c+1))=true:=by
  unfold okAd EE;rw[wigL_len];simp only[Aa,Ab];exact⟨⟨⟨⟨trivial,trivial⟩,he⟩,by omega⟩,⟨⟨by omega,by omega⟩,by omega⟩,by omega⟩
 unfold tlE;rw[Ac hc,Ac (show c<=1000000000 by omega),EF,EF,Ac hw,Ac hh,AR,hok,Dc (n:=i+1) (by omega) (by omega)];rfl
def hoS (M N:List PV) (o0 o1 o2 o3 o4 o5 w h j i:Int) (s:Ew):Ew:=edS N (ndX M i j) (ndY M i j) (ndX M (i+1) j) (ndY M (i+1) j) (clJ o0 o1 o2 o3 o4 o5 w h i j) (clJ o0 o1 o2 o3 o4 o5 w h i (j-1)) s
def hoN (M N:List PV) (o0 o1 o2 o3 o4 o5 w h j:Int):Nat->Int->Ew->Ew
 | 0,_,s=>s
 | m+1,i,s=>hoN M N o0 o1 o2 o3 o4 o5 w h j m (i+1) (hoS M N o0 o1 o2 o3 o4 o5 w h j i s)
theorem hoN_bd (M N:List PV) (o0 o1 o2 o3 o4 o5 w h j:Int):∀ (m:Nat) (i:Int) (s:Ew),s.1.length<=(hoN M N o0 o1 o2 o3 o4 o5 w h j m i s).1.length/\(hoN M N o0 o1 o2 o3 o4 o5 w h j m i s).1.length<=s.1.length+m/\s.2.2.1<=(hoN M N o0 o1 o2 o3 o4 o5 w h j m i s).2.2.1/\(hoN M N o0 o1 o2 o3 o4 o5 w h j m i s).2.2.1<=s.2.2.1+5*m
 | 0,_,s=>by simp[hoN]
 | m+1,i,s=>by
  obtain⟨a1,a2,a3,a4⟩:=edS_bd N (ndX M i j) (ndY M i j) (ndX M (i+1) j) (ndY M (i+1) j) (clJ o0 o1 o2 o3 o4 o5 w h i j) (clJ o0 o1 o2 o3 o4 o5 w h i (j-1)) s;obtain⟨b1,b2,b3,b4⟩:=hoN_bd M N o0 o1 o2 o3 o4 o5 w h j m (i+1) (hoS M N o0 o1 o2 o3 o4 o5 w h j i s);simp only[hoN];unfold hoS at *;refine⟨by omega,by omega,by omega,?_⟩;have:((m+1:Nat):Int)=(m:Int)+1:=by simp
  omega
noncomputable abbrev x31 (m:Bool) (M:List PV) (w h j:Int) (f:Bool) (L:List PV) (a o0 o1 o2 o3 o4 o5:Int) (N:List PV) (s:Ew):PX × List PV × List Row:=
 (.exit 6,tm 208 [(5,.CQ m 3 M),(7,.ptr 0 1 0 0),(8,iv w),(9,iv h),(10,.ptr 1 1 0 0),(13,.ptr 2 1 0 0),(14,.sl 3 s.1.length 0 s.1.length),(15,iv j)],[HC f L a,arR o0 o1 o2 o3 o4 o5,HC s.2.1 N s.2.2.1,edR s.2.2.2 s.1])
def p31:LS->Bool
 | ([.l _ _,.i w,.i h,.n n,.n l,.i j,.i i],[.l _ _,.i _,.i _,.i _,.i _,.i _,.i _,.i _,.l _ _,.i c,.l _ es])=>decide (n=es.length)&&decide (l=es.length)&&decide (0<=i)&&decide (i<=w)&&decide (w<=3)&&decide (h<=2)&&decide (0<=j)&&decide (j<=3)&&decide ((es.length:Int)<=0+4*j+i)&&decide (0<=c)&&decide (c<=0+20*j+5*i)
 | _=>false
noncomputable def f31:LS->DT (PX × List PV × List Row)
 | ([.l m M,.i w,.i h,.n _,.n _,.i j,.i i],[.l f L,.i a,.i o0,.i o1,.i o2,.i o3,.i o4,.i o5,.l g N,.i c,.l nl es])=>.leaf (x31 m M w h j f L a o0 o1 o2 o3 o4 o5 N (hoN M N o0 o1 o2 o3 o4 o5 w h j (w-i).toNat i (es,g,c,nl)))
 | _=>.no
def m31:LS->Nat
 | ([.l _ _,.i w,.i _,.n _,.n _,.i _,.i i],_)=>(w-i).toNat
 | _=>0
theorem s31:∀ s r,p31 s=true->(f31 s).run=some r->r.1 ≠ .normal/\(CR Try.prog MB1 60 53 (CZ Try.f53 31) [5,7,8,9,10,13,14,15,16] [5,7,8,9,10,13,14,15] (sh31.put s).1 (sh31.put s).2=some r \/
   ∃ s',CR Try.prog MB1 60 53 (CZ Try.f53 31) [5,7,8,9,10,13,14,15,16] [5,7,8,9,10,13,14,15] (sh31.put s).1 (sh31.put s).2=some (.normal,sh31.put s')/\p31 s'=true/\m31 s'<m31 s/\(f31 s').run=some r):=by
 intro t r hp hr;unfold p31 at hp;split at hp
 ·rename_i m M w h n l j i f L a o0 o1 o2 o3 o4 o5 g N c nl es;simp only[Aa,Ab] at hp;obtain⟨⟨⟨⟨⟨⟨⟨⟨⟨⟨rfl,rfl⟩,h2⟩,h3⟩,h4⟩,h5⟩,h6⟩,h7⟩,h8⟩,h9⟩,h10⟩:=hp;have hr':=(Ah hr).symm;refine⟨by rw[hr'];simp,?_⟩;rw[show sh31.put ([.l m M,.i w,.i h,.n es.length,.n es.length,.i j,.i i],[.l f L,.i a,.i o0,.i o1,.i o2,.i o3,.i o4,.i o5,.l g N,.i c,.l nl es])=sh31.put (l31 m M w h es.length es.length j i f L a o0 o1 o2 o3 o4 o5 g N c nl es) from rfl,q31];by_cases hi:i<w
  ·obtain⟨k,hk⟩:∃ k,(w-i).toNat=k+1:=⟨(w-i).toNat-1,by omega⟩;have hk2:(w-(i+1)).toNat=k:=by omega
   have hwi:W (i+1)=i+1:=Dc (by omega) (by omega);have hwi2:W (i-1)=i-1:=Dc (by omega) (by omega);have hwj:W (j-1)=j-1:=Dc (by omega) (by omega);have hwj2:W (j+1)=j+1:=Dc (by omega) (by omega);rw[Ac hi,hwi,hwj,show Ld i j=true by unfold Ld;simp;omega,show Ld (i+1) j=true by unfold Ld;simp;omega];simp only[Am];rw[tlE_of (hw:=h4) (hh:=h5) (hc:=h9) (hc2:=by omega) (he:=by omega) (hi:=h2) (hi2:=by omega)];rw[hk] at hr';obtain⟨b1,b2,b3,b4⟩:=edS_bd N (ndX M i j) (ndY M i j) (ndX M (i+1) j) (ndY M (i+1) j) (clJ o0 o1 o2 o3 o4 o5 w h i j) (clJ o0 o1 o2 o3 o4 o5 w h i (j-1)) (es,g,c,nl);refine .inr ⟨_,rfl,?_,by simp only[m31];omega,?_⟩
   ·simp only[p31,Aa,Ab];simp only at b1 b2 b3 b4;exact⟨⟨⟨⟨⟨⟨⟨⟨⟨⟨trivial,trivial⟩,by omega⟩,by omega⟩,h4⟩,h5⟩,h6⟩,h7⟩,by omega⟩,by omega⟩,by omega⟩
   ·rw[hr'];simp only[f31,hk2,DT.run];rfl
  ·rw[Aj hi];refine .inl ?_;rw[hr',show (w-i).toNat=0 by omega];rfl
 ·cases hp
noncomputable def MB2:CO:=MB1.C8 53 31 [5,7,8,9,10,13,14,15,16] [true,true,true,false] sh31 p31 f31
theorem okMB2:Ck Try.prog MB2.env:=
 okMB1.C8 (n:=60) Try.func53 (show Try.f53.body=some (DL Try.f53) by kernel_rfl) (show (loops (DL Try.f53)).filter (fun b=>Ed b==31)=[CZ Try.f53 31] by kernel_rfl) [5,7,8,9,10,13,14,15,16] [5,7,8,9,10,13,14,15] [true,true,true,false] sh31 m31 s31
theorem q38 (m:Bool) (M:List PV) (w h:Int) (n l:Nat) (j i:Int) (f:Bool) (L:List PV) (a o0 o1 o2 o3 o4 o5:Int) (g:Bool) (N:List PV) (c:Int) (nl:Bool) (es:List PV):
 CR Try.prog MB2 60 53 (CZ Try.f53 38) [5,7,8,9,10,13,14,17,18] [5,7,8,9,10,13,14,17] (sh38.put (l31 m M w h n l j i f L a o0 o1 o2 o3 o4 o5 g N c nl es)).1 (sh38.put (l31 m M w h n l j i f L a o0 o1 o2 o3 o4 o5 g N c nl es)).2 =
 bif decide (i<=w) then bif Ld i j then bif Ld i (W (j+1)) then
  tlE sh38 m M w h n l j i f L a o0 o1 o2 o3 o4 o5 g N c nl es (ndX M i j) (ndY M i j) (ndX M i (W (j+1))) (ndY M i (W (j+1))) (clJ o0 o1 o2 o3 o4 o5 w h (W (i-1)) j) (clJ o0 o1 o2 o3 o4 o5 w h i j)
 else none else none
 else some (.exit 10,tm 208 [(5,.CQ m 3 M),(7,.ptr 0 1 0 0),(8,iv w),(9,iv h),(10,.ptr 1 1 0 0),(13,.ptr 2 1 0 0),(14,.sl 3 n 0 l),(17,iv j)],[HC f L a,arR o0 o1 o2 o3 o4 o5,HC g N c,edR nl es]):=by kernel_rfl
def veS (M N:List PV) (o0 o1 o2 o3 o4 o5 w h j i:Int) (s:Ew):Ew:=edS N (ndX M i j) (ndY M i j) (ndX M i (j+1)) (ndY M i (j+1)) (clJ o0 o1 o2 o3 o4 o5 w h (i-1) j) (clJ o0 o1 o2 o3 o4 o5 w h i j) s
def veN (M N:List PV) (o0 o1 o2 o3 o4 o5 w h j:Int):Nat->Int->Ew->Ew
 | 0,_,s=>s
 | m+1,i,s=>veN M N o0 o1 o2 o3 o4 o5 w h j m (i+1) (veS M N o0 o1 o2 o3 o4 o5 w h j i s)
theorem veN_bd (M N:List PV) (o0 o1 o2 o3 o4 o5 w h j:Int):∀ (m:Nat) (i:Int) (s:Ew),s.1.length<=(veN M N o0 o1 o2 o3 o4 o5 w h j m i s).1.length/\(veN M N o0 o1 o2 o3 o4 o5 w h j m i s).1.length<=s.1.length+m/\s.2.2.1<=(veN M N o0 o1 o2 o3 o4 o5 w h j m i s).2.2.1/\(veN M N o0 o1 o2 o3 o4 o5 w h j m i s).2.2.1<=s.2.2.1+5*m
 | 0,_,s=>by simp[veN]
 | m+1,i,s=>by
  obtain⟨a1,a2,a3,a4⟩:=edS_bd N (ndX M i j) (ndY M i j) (ndX M i (j+1)) (ndY M i (j+1)) (clJ o0 o1 o2 o3 o4 o5 w h (i-1) j) (clJ o0 o1 o2 o3 o4 o5 w h i j) s;obtain⟨b1,b2,b3,b4⟩:=veN_bd M N o0 o1 o2 o3 o4 o5 w h j m (i+1) (veS M N o0 o1 o2 o3 o4 o5 w h j i s);simp only[veN];unfold veS at *;refine⟨by omega,by omega,by omega,?_⟩;have:((m+1:Nat):Int)=(m:Int)+1:=by simp
  omega
noncomputable abbrev x38 (m:Bool) (M:List PV) (w h j:Int) (f:Bool) (L:List PV) (a o0 o1 o2 o3 o4 o5:Int) (N:List PV) (s:Ew):PX × List PV × List Row:=
 (.exit 10,tm 208 [(5,.CQ m 3 M),(7,.ptr 0 1 0 0),(8,iv w),(9,iv h),(10,.ptr 1 1 0 0),(13,.ptr 2 1 0 0),(14,.sl 3 s.1.length 0 s.1.length),(17,iv j)],[HC f L a,arR o0 o1 o2 o3 o4 o5,HC s.2.1 N s.2.2.1,edR s.2.2.2 s.1])
def p38:LS->Bool
 | ([.l _ _,.i w,.i h,.n n,.n l,.i j,.i i],[.l _ _,.i _,.i _,.i _,.i _,.i _,.i _,.i _,.l _ _,.i c,.l _ es])=>decide (n=es.length)&&decide (l=es.length)&&decide (0<=i)&&decide (i<=(w+1))&&decide (w<=3)&&decide (h<=2)&&decide (0<=j)&&decide (j<=3)&&decide ((es.length:Int)<=16+4*j+i)&&decide (0<=c)&&decide (c<=100+20*j+5*i)
 | _=>false
noncomputable def f38:LS->DT (PX × List PV × List Row)
 | ([.l m M,.i w,.i h,.n _,.n _,.i j,.i i],[.l f L,.i a,.i o0,.i o1,.i o2,.i o3,.i o4,.i o5,.l g N,.i c,.l nl es])=>.leaf (x38 m M w h j f L a o0 o1 o2 o3 o4 o5 N (veN M N o0 o1 o2 o3 o4 o5 w h j ((w+1)-i).toNat i (es,g,c,nl)))
 | _=>.no
def m38:LS->Nat
 | ([.l _ _,.i w,.i _,.n _,.n _,.i _,.i i],_)=>((w+1)-i).toNat
 | _=>0
theorem s38:∀ s r,p38 s=true->(f38 s).run=some r->r.1 ≠ .normal/\(CR Try.prog MB2 60 53 (CZ Try.f53 38) [5,7,8,9,10,13,14,17,18] [5,7,8,9,10,13,14,17] (sh38.put s).1 (sh38.put s).2=some r \/
   ∃ s',CR Try.prog MB2 60 53 (CZ Try.f53 38) [5,7,8,9,10,13,14,17,18] [5,7,8,9,10,13,14,17] (sh38.put s).1 (sh38.put s).2=some (.normal,sh38.put s')/\p38 s'=true/\m38 s'<m38 s/\(f38 s').run=some r):=by
 intro t r hp hr;unfold p38 at hp;split at hp
 ·rename_i m M w h n l j i f L a o0 o1 o2 o3 o4 o5 g N c nl es;simp only[Aa,Ab] at hp;obtain⟨⟨⟨⟨⟨⟨⟨⟨⟨⟨rfl,rfl⟩,h2⟩,h3⟩,h4⟩,h5⟩,h6⟩,h7⟩,h8⟩,h9⟩,h10⟩:=hp;have hr':=(Ah hr).symm;refine⟨by rw[hr'];simp,?_⟩;rw[show sh38.put ([.l m M,.i w,.i h,.n es.length,.n es.length,.i j,.i i],[.l f L,.i a,.i o0,.i o1,.i o2,.i o3,.i o4,.i o5,.l g N,.i c,.l nl es])=sh38.put (l31 m M w h es.length es.length j i f L a o0 o1 o2 o3 o4 o5 g N c nl es) from rfl,q38];by_cases hi:i<=w
  ·obtain⟨k,hk⟩:∃ k,((w+1)-i).toNat=k+1:=⟨((w+1)-i).toNat-1,by omega⟩;have hk2:((w+1)-(i+1)).toNat=k:=by omega
   have hwi:W (i+1)=i+1:=Dc (by omega) (by omega);have hwi2:W (i-1)=i-1:=Dc (by omega) (by omega);have hwj:W (j-1)=j-1:=Dc (by omega) (by omega);have hwj2:W (j+1)=j+1:=Dc (by omega) (by omega);rw[Ac hi,hwi2,hwj2,show Ld i j=true by unfold Ld;simp;omega,show Ld i (j+1)=true by unfold Ld;simp;omega];simp only[Am];rw[tlE_of (hw:=h4) (hh:=h5) (hc:=h9) (hc2:=by omega) (he:=by omega) (hi:=h2) (hi2:=by omega)];rw[hk] at hr';obtain⟨b1,b2,b3,b4⟩:=edS_bd N (ndX M i j) (ndY M i j) (ndX M i (j+1)) (ndY M i (j+1)) (clJ o0 o1 o2 o3 o4 o5 w h (i-1) j) (clJ o0 o1 o2 o3 o4 o5 w h i j) (es,g,c,nl);refine .inr ⟨_,rfl,?_,by simp only[m38];omega,?_⟩
   ·simp only[p38,Aa,Ab];simp only at b1 b2 b3 b4;exact⟨⟨⟨⟨⟨⟨⟨⟨⟨⟨trivial,trivial⟩,by omega⟩,by omega⟩,h4⟩,h5⟩,h6⟩,h7⟩,by omega⟩,by omega⟩,by omega⟩
   ·rw[hr'];simp only[f38,hk2,DT.run];rfl
  ·rw[Aj hi];refine .inl ?_;rw[hr',show ((w+1)-i).toNat=0 by omega];rfl
 ·cases hp
noncomputable def MB3:CO:=MB2.C8 53 38 [5,7,8,9,10,13,14,17,18] [true,true,true,false] sh38 p38 f38
theorem okMB3:Ck Try.prog MB3.env:=
 okMB2.C8 (n:=60) Try.func53 (show Try.f53.body=some (DL Try.f53) by kernel_rfl) (show (loops (DL Try.f53)).filter (fun b=>Ed b==38)=[CZ Try.f53 38] by kernel_rfl) [5,7,8,9,10,13,14,17,18] [5,7,8,9,10,13,14,17] [true,true,true,false] sh38 m38 s38
end Go.Hr
