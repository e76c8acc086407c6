import Derived.Test.YtggmhenfkidjbaaPart9
import Derived.Test.YtggmhenfkidjbaaPart5
namespace Go.Hr
open Go.Hx Go.Hg Go.Hn Go.Proofs
abbrev l28 (m:Bool) (M:List PV) (w h:Int) (n l:Nat) (j:Int) (f:Bool) (L:List PV) (a o0 o1 o2 o3 o4 o5:Int) (g:Bool) (N:List PV) (c:Int) (nl:Bool) (es:List PV):LS:=([.l m M,.i w,.i h,.n n,.n l,.i j],[.l f L,.i a,.i o0,.i o1,.i o2,.i o3,.i o4,.i o5,.l g N,.i c,.l nl es])
def sh28:S1:=shEd [(15,C4)]
def sh35:S1:=shEd [(17,C4)]
noncomputable def MB4:CO:=MB3.G3 53 28 [(5,3,0),(14,147,4)]
theorem okMB4:Ck Try.prog MB4.env:=okMB3.G3 53 28 [(5,3,0),(14,147,4)]
noncomputable abbrev x28 (m:Bool) (M:List PV) (w h:Int) (f:Bool) (L:List PV) (a o0 o1 o2 o3 o4 o5:Int) (N:List PV) (s:Ew):PX × List PV × List Row:=
 (.exit 4,tm 208 [(5,.CQ m 3 M),(7,.ptr 0 1 0 0),(8,iv w),(9,iv h),(10,.ptr 1 1 0 0),(13,.ptr 2 1 0 0),(14,.sl 3 s.1.length 0 s.1.length)],[HC f L a,arR o0 o1 o2 o3 o4 o5,HC s.2.1 N s.2.2.1,edR s.2.2.2 s.1])
theorem q28 (m:Bool) (M:List PV) (w h:Int) (es:List PV) (j:Int) (f:Bool) (L:List PV) (a o0 o1 o2 o3 o4 o5:Int) (g:Bool) (N:List PV) (c:Int) (nl:Bool):
 CR Try.prog MB4 60 53 (CZ Try.f53 28) [5,7,8,9,10,13,14,15] [5,7,8,9,10,13,14] (sh28.put (l28 m M w h es.length es.length j f L a o0 o1 o2 o3 o4 o5 g N c nl es)).1 (sh28.put (l28 m M w h es.length es.length j f L a o0 o1 o2 o3 o4 o5 g N c nl es)).2 =
 bif decide (j<=h) then bif p31 (l31 m M w h es.length es.length j 0 f L a o0 o1 o2 o3 o4 o5 g N c nl es) then
  some (.normal,sh28.put (l28 m M w h (hoN M N o0 o1 o2 o3 o4 o5 w h j (w-0).toNat 0 (es,g,c,nl)).1.length (hoN M N o0 o1 o2 o3 o4 o5 w h j (w-0).toNat 0 (es,g,c,nl)).1.length (W (j+1)) f L a o0 o1 o2 o3 o4 o5 (hoN M N o0 o1 o2 o3 o4 o5 w h j (w-0).toNat 0 (es,g,c,nl)).2.1 N (hoN M N o0 o1 o2 o3 o4 o5 w h j (w-0).toNat 0 (es,g,c,nl)).2.2.1 (hoN M N o0 o1 o2 o3 o4 o5 w h j (w-0).toNat 0 (es,g,c,nl)).2.2.2 (hoN M N o0 o1 o2 o3 o4 o5 w h j (w-0).toNat 0 (es,g,c,nl)).1)) else none
 else some (x28 m M w h f L a o0 o1 o2 o3 o4 o5 N (es,g,c,nl)):=by kernel_rfl
def hjN (M N:List PV) (o0 o1 o2 o3 o4 o5 w h:Int):Nat->Int->Ew->Ew
 | 0,_,s=>s
 | m+1,j,s=>hjN M N o0 o1 o2 o3 o4 o5 w h m (j+1) (hoN M N o0 o1 o2 o3 o4 o5 w h j (w-0).toNat 0 s)
theorem hjN_bd (M N:List PV) (o0 o1 o2 o3 o4 o5 w h:Int) (hw:w<=3):∀ (m:Nat) (j:Int) (s:Ew),s.1.length<=(hjN M N o0 o1 o2 o3 o4 o5 w h m j s).1.length/\(hjN M N o0 o1 o2 o3 o4 o5 w h m j s).1.length<=s.1.length+4*m/\s.2.2.1<=(hjN M N o0 o1 o2 o3 o4 o5 w h m j s).2.2.1/\(hjN M N o0 o1 o2 o3 o4 o5 w h m j s).2.2.1<=s.2.2.1+20*m
 | 0,_,s=>by simp[hjN]
 | m+1,j,s=>by
  obtain⟨a1,a2,a3,a4⟩:=hoN_bd M N o0 o1 o2 o3 o4 o5 w h j (w-0).toNat 0 s;obtain⟨b1,b2,b3,b4⟩:=hjN_bd M N o0 o1 o2 o3 o4 o5 w h hw m (j+1) (hoN M N o0 o1 o2 o3 o4 o5 w h j (w-0).toNat 0 s);simp only[hjN];refine⟨by omega,by omega,by omega,?_⟩;have:((m+1:Nat):Int)=(m:Int)+1:=by simp
  omega
def p28:LS->Bool
 | ([.l _ _,.i w,.i h,.n n,.n l,.i j],[.l _ _,.i _,.i _,.i _,.i _,.i _,.i _,.i _,.l _ _,.i c,.l _ es])=>decide (n=es.length)&&decide (l=es.length)&&decide (0<=w)&&decide (w<=3)&&decide (0<=h)&&decide (h<=2)&&decide (0<=j)&&decide (j<=(h+1))&&decide ((es.length:Int)<=0+4*j)&&decide (0<=c)&&decide (c<=0+20*j)
 | _=>false
noncomputable def f28:LS->DT (PX × List PV × List Row)
 | ([.l m M,.i w,.i h,.n _,.n _,.i j],[.l f L,.i a,.i o0,.i o1,.i o2,.i o3,.i o4,.i o5,.l g N,.i c,.l nl es])=>.leaf (x28 m M w h f L a o0 o1 o2 o3 o4 o5 N (hjN M N o0 o1 o2 o3 o4 o5 w h ((h+1)-j).toNat j (es,g,c,nl)))
 | _=>.no
def m28:LS->Nat
 | ([.l _ _,.i _,.i h,.n _,.n _,.i j],_)=>((h+1)-j).toNat
 | _=>0
theorem s28:∀ s r,p28 s=true->(f28 s).run=some r->r.1 ≠ .normal/\(CR Try.prog MB4 60 53 (CZ Try.f53 28) [5,7,8,9,10,13,14,15] [5,7,8,9,10,13,14] (sh28.put s).1 (sh28.put s).2=some r \/
   ∃ s',CR Try.prog MB4 60 53 (CZ Try.f53 28) [5,7,8,9,10,13,14,15] [5,7,8,9,10,13,14] (sh28.put s).1 (sh28.put s).2=some (.normal,sh28.put s')/\p28 s'=true/\m28 s'<m28 s/\(f28 s').run=some r):=by
 intro t r hp hr;unfold p28 at hp;split at hp
 ·rename_i m M w h n l j f L a o0 o1 o2 o3 o4 o5 g N c nl es;simp only[Aa,Ab] at hp;obtain⟨⟨⟨⟨⟨⟨⟨⟨⟨⟨rfl,rfl⟩,h2⟩,h3⟩,h4⟩,h5⟩,h6⟩,h7⟩,h8⟩,h9⟩,h10⟩:=hp;have hr':=(Ah hr).symm;refine⟨by rw[hr'];simp,?_⟩;rw[show sh28.put ([.l m M,.i w,.i h,.n es.length,.n es.length,.i j],[.l f L,.i a,.i o0,.i o1,.i o2,.i o3,.i o4,.i o5,.l g N,.i c,.l nl es])=sh28.put (l28 m M w h es.length es.length j f L a o0 o1 o2 o3 o4 o5 g N c nl es) from rfl,q28];by_cases hi:j<=h
  ·obtain⟨k,hk⟩:∃ k,((h+1)-j).toNat=k+1:=⟨((h+1)-j).toNat-1,by omega⟩;have hk2:((h+1)-(j+1)).toNat=k:=by omega
   have hp2:p31 (l31 m M w h es.length es.length j 0 f L a o0 o1 o2 o3 o4 o5 g N c nl es)=true:=by
    simp only[p31,Aa,Ab];exact⟨⟨⟨⟨⟨⟨⟨⟨⟨⟨trivial,trivial⟩,by omega⟩,by omega⟩,h3⟩,h5⟩,h6⟩,by omega⟩,by omega⟩,h9⟩,by omega⟩
   rw[Ac hi,hp2,Dc (n:=j+1) (by omega) (by omega)];simp only[Am];rw[hk] at hr';obtain⟨b1,b2,b3,b4⟩:=hoN_bd M N o0 o1 o2 o3 o4 o5 w h j (w-0).toNat 0 (es,g,c,nl);refine .inr ⟨_,rfl,?_,by simp only[m28];omega,?_⟩
   ·simp only[p28,Aa,Ab];simp only at b1 b2 b3 b4;exact⟨⟨⟨⟨⟨⟨⟨⟨⟨⟨trivial,trivial⟩,h2⟩,h3⟩,h4⟩,h5⟩,by omega⟩,by omega⟩,by omega⟩,by omega⟩,by omega⟩
   ·rw[hr'];simp only[f28,hk2,DT.run];rfl
  ·rw[Aj hi];refine .inl ?_;rw[hr',show ((h+1)-j).toNat=0 by omega];rfl
 ·cases hp
noncomputable def MB5:CO:=MB4.C8 53 28 [5,7,8,9,10,13,14,15] [true,true,true,false] sh28 p28 f28
theorem okMB5:Ck Try.prog MB5.env:=
 okMB4.C8 (n:=60) Try.func53 (show Try.f53.body=some (DL Try.f53) by kernel_rfl) (show (loops (DL Try.f53)).filter (fun b=>Ed b==28)=[CZ Try.f53 28] by kernel_rfl) [5,7,8,9,10,13,14,15] [5,7,8,9,10,13,14] [true,true,true,false] sh28 m28 s28
noncomputable abbrev x35 (m:Bool) (M:List PV) (w h:Int) (f:Bool) (L:List PV) (a o0 o1 o2 o3 o4 o5:Int) (N:List PV) (s:Ew):PX × List PV × List Row:=
 (.exit 8,tm 208 [(5,.CQ m 3 M),(7,.ptr 0 1 0 0),(8,iv w),(9,iv h),(10,.ptr 1 1 0 0),(13,.ptr 2 1 0 0),(14,.sl 3 s.1.length 0 s.1.length)],[HC f L a,arR o0 o1 o2 o3 o4 o5,HC s.2.1 N s.2.2.1,edR s.2.2.2 s.1])
theorem q35 (m:Bool) (M:List PV) (w h:Int) (es:List PV) (j:Int) (f:Bool) (L:List PV) (a o0 o1 o2 o3 o4 o5:Int) (g:Bool) (N:List PV) (c:Int) (nl:Bool):
 CR Try.prog MB5 60 53 (CZ Try.f53 35) [5,7,8,9,10,13,14,17] [5,7,8,9,10,13,14] (sh35.put (l28 m M w h es.length es.length j f L a o0 o1 o2 o3 o4 o5 g N c nl es)).1 (sh35.put (l28 m M w h es.length es.length j f L a o0 o1 o2 o3 o4 o5 g N c nl es)).2 =
 bif decide (j<h) then bif p38 (l31 m M w h es.length es.length j 0 f L a o0 o1 o2 o3 o4 o5 g N c nl es) then
  some (.normal,sh35.put (l28 m M w h (veN M N o0 o1 o2 o3 o4 o5 w h j ((w+1)-0).toNat 0 (es,g,c,nl)).1.length (veN M N o0 o1 o2 o3 o4 o5 w h j ((w+1)-0).toNat 0 (es,g,c,nl)).1.length (W (j+1)) f L a o0 o1 o2 o3 o4 o5 (veN M N o0 o1 o2 o3 o4 o5 w h j ((w+1)-0).toNat 0 (es,g,c,nl)).2.1 N (veN M N o0 o1 o2 o3 o4 o5 w h j ((w+1)-0).toNat 0 (es,g,c,nl)).2.2.1 (veN M N o0 o1 o2 o3 o4 o5 w h j ((w+1)-0).toNat 0 (es,g,c,nl)).2.2.2 (veN M N o0 o1 o2 o3 o4 o5 w h j ((w+1)-0).toNat 0 (es,g,c,nl)).1)) else none
 else some (x35 m M w h f L a o0 o1 o2 o3 o4 o5 N (es,g,c,nl)):=by kernel_rfl
def vjN (M N:List PV) (o0 o1 o2 o3 o4 o5 w h:Int):Nat->Int->Ew->Ew
 | 0,_,s=>s
 | m+1,j,s=>vjN M N o0 o1 o2 o3 o4 o5 w h m (j+1) (veN M N o0 o1 o2 o3 o4 o5 w h j ((w+1)-0).toNat 0 s)
theorem vjN_bd (M N:List PV) (o0 o1 o2 o3 o4 o5 w h:Int) (hw:w<=3):∀ (m:Nat) (j:Int) (s:Ew),s.1.length<=(vjN M N o0 o1 o2 o3 o4 o5 w h m j s).1.length/\(vjN M N o0 o1 o2 o3 o4 o5 w h m j s).1.length<=s.1.length+4*m/\s.2.2.1<=(vjN M N o0 o1 o2 o3 o4 o5 w h m j s).2.2.1/\(vjN M N o0 o1 o2 o3 o4 o5 w h m j s).2.2.1<=s.2.2.1+20*m
 | 0,_,s=>by simp[vjN]
 | m+1,j,s=>by
  obtain⟨a1,a2,a3,a4⟩:=veN_bd M N o0 o1 o2 o3 o4 o5 w h j ((w+1)-0).toNat 0 s;obtain⟨b1,b2,b3,b4⟩:=vjN_bd M N o0 o1 o2 o3 o4 o5 w h hw m (j+1) (veN M N o0 o1 o2 o3 o4 o5 w h j ((w+1)-0).toNat 0 s);simp only[vjN];refine⟨by omega,by omega,by omega,?_⟩;have:((m+1:Nat):Int)=(m:Int)+1:=by simp
  omega
def p35:LS->Bool
 | ([.l _ _,.i w,.i h,.n n,.n l,.i j],[.l _ _,.i _,.i _,.i _,.i _,.i _,.i _,.i _,.l _ _,.i c,.l _ es])=>decide (n=es.length)&&decide (l=es.length)&&decide (0<=w)&&decide (w<=3)&&decide (0<=h)&&decide (h<=2)&&decide (0<=j)&&decide (j<=h)&&decide ((es.length:Int)<=16+4*j)&&decide (0<=c)&&decide (c<=100+20*j)
 | _=>false
noncomputable def f35:LS->DT (PX × List PV × List Row)
 | ([.l m M,.i w,.i h,.n _,.n _,.i j],[.l f L,.i a,.i o0,.i o1,.i o2,.i o3,.i o4,.i o5,.l g N,.i c,.l nl es])=>.leaf (x35 m M w h f L a o0 o1 o2 o3 o4 o5 N (vjN M N o0 o1 o2 o3 o4 o5 w h (h-j).toNat j (es,g,c,nl)))
 | _=>.no
def m35:LS->Nat
 | ([.l _ _,.i _,.i h,.n _,.n _,.i j],_)=>(h-j).toNat
 | _=>0
theorem s35:∀ s r,p35 s=true->(f35 s).run=some r->r.1 ≠ .normal/\(CR Try.prog MB5 60 53 (CZ Try.f53 35) [5,7,8,9,10,13,14,17] [5,7,8,9,10,13,14] (sh35.put s).1 (sh35.put s).2=some r \/
   ∃ s',CR Try.prog MB5 60 53 (CZ Try.f53 35) [5,7,8,9,10,13,14,17] [5,7,8,9,10,13,14] (sh35.put s).1 (sh35.put s).2=some (.normal,sh35.put s')/\p35 s'=true/\m35 s'<m35 s/\(f35 s').run=some r):=by
 intro t r hp hr;unfold p35 at hp;split at hp
 ·rename_i m M w h n l j f L a o0 o1 o2 o3 o4 o5 g N c nl es;simp only[Aa,Ab] at hp;obtain⟨⟨⟨⟨⟨⟨⟨⟨⟨⟨rfl,rfl⟩,h2⟩,h3⟩,h4⟩,h5⟩,h6⟩,h7⟩,h8⟩,h9⟩,h10⟩:=hp;have hr':=(Ah hr).symm;refine⟨by rw[hr'];simp,?_⟩;rw[show sh35.put ([.l m M,.i w,.i h,.n es.length,.n es.length,.i j],[.l f L,.i a,.i o0,.i o1,.i o2,.i o3,.i o4,.i o5,.l g N,.i c,.l nl es])=sh35.put (l28 m M w h es.length es.length j f L a o0 o1 o2 o3 o4 o5 g N c nl es) from rfl,q35];by_cases hi:j<h
  ·obtain⟨k,hk⟩:∃ k,(h-j).toNat=k+1:=⟨(h-j).toNat-1,by omega⟩;have hk2:(h-(j+1)).toNat=k:=by omega
   have hp2:p38 (l31 m M w h es.length es.length j 0 f L a o0 o1 o2 o3 o4 o5 g N c nl es)=true:=by
    simp only[p38,Aa,Ab];exact⟨⟨⟨⟨⟨⟨⟨⟨⟨⟨trivial,trivial⟩,by omega⟩,by omega⟩,h3⟩,h5⟩,h6⟩,by omega⟩,by omega⟩,h9⟩,by omega⟩
   rw[Ac hi,hp2,Dc (n:=j+1) (by omega) (by omega)];simp only[Am];rw[hk] at hr';obtain⟨b1,b2,b3,b4⟩:=veN_bd M N o0 o1 o2 o3 o4 o5 w h j ((w+1)-0).toNat 0 (es,g,c,nl);refine .inr ⟨_,rfl,?_,by simp only[m35];omega,?_⟩
   ·simp only[p35,Aa,Ab];simp only at b1 b2 b3 b4;exact⟨⟨⟨⟨⟨⟨⟨⟨⟨⟨trivial,trivial⟩,h2⟩,h3⟩,h4⟩,h5⟩,by omega⟩,by omega⟩,by omega⟩,by omega⟩,by omega⟩
   ·rw[hr'];simp only[f35,hk2,DT.run];rfl
  ·rw[Aj hi];refine .inl ?_;rw[hr',show (h-j).toNat=0 by omega];rfl
 ·cases hp
noncomputable def MB6:CO:=MB5.C8 53 35 [5,7,8,9,10,13,14,17] [true,true,true,false] sh35 p35 f35
theorem okMB6:Ck Try.prog MB6.env:=
 okMB5.C8 (n:=60) Try.func53 (show Try.f53.body=some (DL Try.f53) by kernel_rfl) (show (loops (DL Try.f53)).filter (fun b=>Ed b==35)=[CZ Try.f53 35] by kernel_rfl) [5,7,8,9,10,13,14,17] [5,7,8,9,10,13,14] [true,true,true,false] sh35 m35 s35
noncomputable def MO1:CO:=MB6.G3 53 15 [(5,3,0),(6,3,0)]
theorem okMO1:Ck Try.prog MO1.env:=okMB6.G3 53 15 [(5,3,0),(6,3,0)]
def GL:S1:=⟨208,[(5,.CQ 3),(6,.CQ 3),(7,.ptr 0 1 0 0),(8,C4),(9,C4),(10,.ptr 1 1 0 0),(11,C4)],[.one 103 2 (.agg [.CQ 3,C4]),.one 128 6 (.agg [C4,C4,C4,C4,C4,C4])]⟩
abbrev l15 (m:Bool) (M:List PV) (g:Bool) (N:List PV) (w h i:Int) (f:Bool) (L:List PV) (a o0 o1 o2 o3 o4 o5:Int):LS:=([.l m M,.l g N,.i w,.i h,.i i],[.l f L,.i a,.i o0,.i o1,.i o2,.i o3,.i o4,.i o5])
noncomputable abbrev x15 (m:Bool) (M:List PV) (g:Bool) (N:List PV) (w h:Int) (f:Bool) (L:List PV) (a o0 o1 o2 o3 o4 o5:Int):PX × List PV × List Row:=
 (.exit 0,tm 208 [(5,.CQ m 3 M),(6,.CQ g 3 N),(7,.ptr 0 1 0 0),(8,iv w),(9,iv h),(10,.ptr 1 1 0 0)],[HC f L a,arR o0 o1 o2 o3 o4 o5])
abbrev bsO (w i j:Int):Int:=W (W (21+i)+W (w*j))
noncomputable abbrev n15 (m:Bool) (M:List PV) (g:Bool) (N:List PV) (w h i:Int) (f:Bool) (L:List PV) (a o0 o1 o2 o3 o4 o5:Int):Option (PX × List PV × List Row):=some (.normal,GL.put (l15 m M g N w h i f L a o0 o1 o2 o3 o4 o5))
abbrev c0 (L:List PV) (a:Int):Bool:=cond true (dI L a 5==0) false
theorem q15a (m:Bool) (M:List PV) (g:Bool) (N:List PV) (w:Int) (f:Bool) (L:List PV) (a o0 o1 o2 o3 o4 o5:Int):CR Try.prog MO1 60 53 (CZ Try.f53 15) [5,6,7,8,9,10,11] [5,6,7,8,9,10] (GL.put (l15 m M g N w 1 0 f L a o0 o1 o2 o3 o4 o5)).1 (GL.put (l15 m M g N w 1 0 f L a o0 o1 o2 o3 o4 o5)).2 =
 bif decide (0<w) then n15 m M g N w 1 1 f L a (bsO w 0 0) o1 o2 o3 o4 o5 else some (x15 m M g N w 1 f L a o0 o1 o2 o3 o4 o5):=by kernel_rfl
theorem q15b (m:Bool) (M:List PV) (g:Bool) (N:List PV) (w:Int) (f:Bool) (L:List PV) (a o0 o1 o2 o3 o4 o5:Int):CR Try.prog MO1 60 53 (CZ Try.f53 15) [5,6,7,8,9,10,11] [5,6,7,8,9,10] (GL.put (l15 m M g N w 1 1 f L a o0 o1 o2 o3 o4 o5)).1 (GL.put (l15 m M g N w 1 1 f L a o0 o1 o2 o3 o4 o5)).2 =
 bif decide (1<w) then bif EE a 5 then bif c0 L a then n15 m M g N w 1 2 (fI f L a) L (aI L a) o0 o1 o0 o3 o4 o5 else n15 m M g N w 1 2 (fI f L a) L (aI L a) o0 o1 (bsO w 1 0) o3 o4 o5 else none else some (x15 m M g N w 1 f L a o0 o1 o2 o3 o4 o5):=by kernel_rfl
theorem q15c (m:Bool) (M:List PV) (g:Bool) (N:List PV) (w:Int) (f:Bool) (L:List PV) (a o0 o1 o2 o3 o4 o5:Int):CR Try.prog MO1 60 53 (CZ Try.f53 15) [5,6,7,8,9,10,11] [5,6,7,8,9,10] (GL.put (l15 m M g N w 1 2 f L a o0 o1 o2 o3 o4 o5)).1 (GL.put (l15 m M g N w 1 2 f L a o0 o1 o2 o3 o4 o5)).2 =
 bif decide (2<w) then bif EE a 5 then bif c0 L a then n15 m M g N w 1 3 (fI f L a) L (aI L a) o0 o1 o2 o3 o2 o5 else n15 m M g N w 1 3 (fI f L a) L (aI L a) o0 o1 o2 o3 (bsO w 2 0) o5 else none else some (x15 m M g N w 1 f L a o0 o1 o2 o3 o4 o5):=by kernel_rfl
theorem q15d (m:Bool) (M:List PV) (g:Bool) (N:List PV) (f:Bool) (L:List PV) (a o0 o1 o2 o3 o4 o5:Int):CR Try.prog MO1 60 53 (CZ Try.f53 15) [5,6,7,8,9,10,11] [5,6,7,8,9,10] (GL.put (l15 m M g N 3 1 3 f L a o0 o1 o2 o3 o4 o5)).1 (GL.put (l15 m M g N 3 1 3 f L a o0 o1 o2 o3 o4 o5)).2 =
 some (x15 m M g N 3 1 f L a o0 o1 o2 o3 o4 o5):=by kernel_rfl
theorem q15g (m:Bool) (M:List PV) (g:Bool) (N:List PV) (f:Bool) (L:List PV) (a o0 o1 o2 o3 o4 o5:Int):CR Try.prog MO1 60 53 (CZ Try.f53 15) [5,6,7,8,9,10,11] [5,6,7,8,9,10] (GL.put (l15 m M g N 2 2 2 f L a o0 o1 o2 o3 o4 o5)).1 (GL.put (l15 m M g N 2 2 2 f L a o0 o1 o2 o3 o4 o5)).2 =
 some (x15 m M g N 2 2 f L a o0 o1 o2 o3 o4 o5):=by kernel_rfl
theorem q15e (m:Bool) (M:List PV) (g:Bool) (N:List PV) (w:Int) (f:Bool) (L:List PV) (a o0 o1 o2 o3 o4 o5:Int):CR Try.prog MO1 60 53 (CZ Try.f53 15) [5,6,7,8,9,10,11] [5,6,7,8,9,10] (GL.put (l15 m M g N w 2 0 f L a o0 o1 o2 o3 o4 o5)).1 (GL.put (l15 m M g N w 2 0 f L a o0 o1 o2 o3 o4 o5)).2 =
 bif decide (0<w) then bif EE a 5 then bif c0 L a then n15 m M g N w 2 1 (fI f L a) L (aI L a) (bsO w 0 0) (bsO w 0 0) o2 o3 o4 o5 else n15 m M g N w 2 1 (fI f L a) L (aI L a) (bsO w 0 0) (bsO w 0 1) o2 o3 o4 o5 else none else some (x15 m M g N w 2 f L a o0 o1 o2 o3 o4 o5):=by kernel_rfl
noncomputable def f15B (m:Bool) (M:List PV) (g:Bool) (N:List PV) (w:Int) (f:Bool) (L:List PV) (a o0 o1 o4 o5:Int) (p q:Int):Option (PX × List PV × List Row):=
 bif EE a 5 then bif c0 L a then n15 m M g N w 2 2 (fI f L a) L (aI L a) o0 o1 p p o4 o5 else n15 m M g N w 2 2 (fI f L a) L (aI L a) o0 o1 p q o4 o5 else none
noncomputable def f15A (m:Bool) (M:List PV) (g:Bool) (N:List PV) (w:Int) (f:Bool) (L:List PV) (a o0 o1 o4 o5:Int) (p:Int):Option (PX × List PV × List Row):=
 bif EE a 5 then bif c0 L a then f15B m M g N w (fI f L a) L (aI L a) o0 o1 o4 o5 p o1 else f15B m M g N w (fI f L a) L (aI L a) o0 o1 o4 o5 p (bsO w 1 1) else none
theorem q15f (m:Bool) (M:List PV) (g:Bool) (N:List PV) (w:Int) (f:Bool) (L:List PV) (a o0 o1 o2 o3 o4 o5:Int):CR Try.prog MO1 60 53 (CZ Try.f53 15) [5,6,7,8,9,10,11] [5,6,7,8,9,10] (GL.put (l15 m M g N w 2 1 f L a o0 o1 o2 o3 o4 o5)).1 (GL.put (l15 m M g N w 2 1 f L a o0 o1 o2 o3 o4 o5)).2 =
 bif decide (1<w) then bif EE a 5 then bif c0 L a then f15A m M g N w (fI f L a) L (aI L a) o0 o1 o4 o5 o0 else f15A m M g N w (fI f L a) L (aI L a) o0 o1 o4 o5 (bsO w 1 0) else none else some (x15 m M g N w 2 f L a o0 o1 o2 o3 o4 o5):=by kernel_rfl
abbrev OS:=Bool × Int × Int × Int × Int × Int × Int × Int
def ofS (w h i:Int) (L:List PV):OS->OS
 | (f,a,o0,o1,o2,o3,o4,o5) =>
  bif decide (h=1) then
   bif decide (i=0) then (f,a,bsO w 0 0,o1,o2,o3,o4,o5) else
   bif decide (i=1) then (fI f L a,aI L a,o0,o1,bif c0 L a then o0 else bsO w 1 0,o3,o4,o5) else
   (fI f L a,aI L a,o0,o1,o2,o3,bif c0 L a then o2 else bsO w 2 0,o5)
  else
   bif decide (i=0) then (fI f L a,aI L a,bsO w 0 0,bif c0 L a then bsO w 0 0 else bsO w 0 1,o2,o3,o4,o5) else
   (f1 f L a 3,a1 L a 3,o0,o1,bif c0 L a then o0 else bsO w 1 0,bif c0 L (a1 L a 2) then (bif c0 L a then o0 else bsO w 1 0) else (bif c0 L (a1 L a 1) then o1 else bsO w 1 1),o4,o5)
def ofN (w h:Int) (L:List PV):Nat->Int->OS->OS
 | 0,_,s=>s
 | m+1,i,s=>ofN w h L m (i+1) (ofS w h i L s)
theorem ofS_a (w h i:Int) (L:List PV) (s:OS):s.2.1<=(ofS w h i L s).2.1/\(ofS w h i L s).2.1<=s.2.1+3:=by
 obtain⟨f,a,o0,o1,o2,o3,o4,o5⟩:=s;have h1:=FF L a;have h3:=GV L a 3;unfold ofS;cases decide (h=1) <;> cases decide (i=0) <;> cases decide (i=1) <;> simp only[Am,At] <;> omega
theorem ofN_a (w h:Int) (L:List PV):∀ (m:Nat) (i:Int) (s:OS),s.2.1<=(ofN w h L m i s).2.1/\(ofN w h L m i s).2.1<=s.2.1+3*m
 | 0,_,s=>by simp[ofN]
 | m+1,i,s=>by
  have h1:=ofS_a w h i L s;have h2:=ofN_a w h L m (i+1) (ofS w h i L s);simp only[ofN];have:((m+1:Nat):Int)=(m:Int)+1:=by simp
  omega
noncomputable abbrev lO (m:Bool) (M:List PV) (g:Bool) (N:List PV) (w h i:Int) (L:List PV) (s:OS):LS:=l15 m M g N w h i s.1 L s.2.1 s.2.2.1 s.2.2.2.1 s.2.2.2.2.1 s.2.2.2.2.2.1 s.2.2.2.2.2.2.1 s.2.2.2.2.2.2.2
noncomputable abbrev xO (m:Bool) (M:List PV) (g:Bool) (N:List PV) (w h:Int) (L:List PV) (s:OS):PX × List PV × List Row:=x15 m M g N w h s.1 L s.2.1 s.2.2.1 s.2.2.2.1 s.2.2.2.2.1 s.2.2.2.2.2.1 s.2.2.2.2.2.2.1 s.2.2.2.2.2.2.2
def okO (w h:Int):Bool:=decide (1<=w)&&(decide (h=1)&&decide (w<=3)||decide (h=2)&&decide (w<=2))
def p15:LS->Bool
 | ([.l _ _,.l _ _,.i w,.i h,.i i],[.l _ _,.i a,.i _,.i _,.i _,.i _,.i _,.i _])=>okO w h&&decide (0<=i)&&decide (i<=w)&&decide (0<=a)&&decide (a<=1000000+3*i)
 | _=>false
noncomputable def f15:LS->DT (PX × List PV × List Row)
 | ([.l m M,.l g N,.i w,.i h,.i i],[.l f L,.i a,.i o0,.i o1,.i o2,.i o3,.i o4,.i o5])=>.leaf (xO m M g N w h L (ofN w h L (w-i).toNat i (f,a,o0,o1,o2,o3,o4,o5)))
 | _=>.no
def m15:LS->Nat
 | ([.l _ _,.l _ _,.i w,.i _,.i i],_)=>(w-i).toNat
 | _=>0
theorem r15 (m:Bool) (M:List PV) (g:Bool) (N:List PV) (w h i:Int) (L:List PV) (s:OS) (hok:okO w h=true) (h0:0<=i) (h1:i<w) (ha:0<=s.2.1) (ha2:s.2.1<=2000000):
 CR Try.prog MO1 60 53 (CZ Try.f53 15) [5,6,7,8,9,10,11] [5,6,7,8,9,10] (GL.put (lO m M g N w h i L s)).1 (GL.put (lO m M g N w h i L s)).2=some (.normal,GL.put (lO m M g N w h (i+1) L (ofS w h i L s))):=by
 obtain⟨f,a,o0,o1,o2,o3,o4,o5⟩:=s;simp only at ha ha2;have ok:∀ k:Nat,k<=3->EE (a1 L a k) 5=true:=fun k hk=>by
  have:=GV L a k;unfold EE;simp;omega
 have ok0:EE a 5=true:=ok 0 (by omega);have ok1:EE (aI L a) 5=true:=ok 1 (by omega);have ok2:EE (aI L (aI L a)) 5=true:=ok 2 (by omega);unfold okO at hok;simp only[Aa,A0,Ab] at hok;obtain⟨hw,⟨rfl,hh⟩ | ⟨rfl,hh⟩⟩:=hok
 ·have hi:i=0\/i=1\/i=2:=by omega
  rcases hi with rfl | rfl | rfl
  ·refine (q15a m M g N w f L a o0 o1 o2 o3 o4 o5).trans ?_;rw[Ac h1];rfl
  ·refine (q15b m M g N w f L a o0 o1 o2 o3 o4 o5).trans ?_;rw[Ac h1,ok0];rw[show ofS w 1 1 L (f,a,o0,o1,o2,o3,o4,o5)=(fI f L a,aI L a,o0,o1,bif c0 L a then o0 else bsO w 1 0,o3,o4,o5) from rfl];cases c0 L a <;> rfl
  ·refine (q15c m M g N w f L a o0 o1 o2 o3 o4 o5).trans ?_;rw[Ac h1,ok0];rw[show ofS w 1 2 L (f,a,o0,o1,o2,o3,o4,o5)=(fI f L a,aI L a,o0,o1,o2,o3,bif c0 L a then o2 else bsO w 2 0,o5) from rfl];cases c0 L a <;> rfl
 ·have hi:i=0\/i=1:=by omega
  rcases hi with rfl | rfl
  ·refine (q15e m M g N w f L a o0 o1 o2 o3 o4 o5).trans ?_;rw[Ac h1,ok0];rw[show ofS w 2 0 L (f,a,o0,o1,o2,o3,o4,o5)=(fI f L a,aI L a,bsO w 0 0,bif c0 L a then bsO w 0 0 else bsO w 0 1,o2,o3,o4,o5) from rfl];cases c0 L a <;> rfl
  ·refine (q15f m M g N w f L a o0 o1 o2 o3 o4 o5).trans ?_;unfold f15A f15B;rw[Ac h1,ok0,ok1,ok2];rw[show ofS w 2 1 L (f,a,o0,o1,o2,o3,o4,o5)=(f1 f L a 3,a1 L a 3,o0,o1,bif c0 L a then o0 else bsO w 1 0,bif c0 L (aI L (aI L a)) then (bif c0 L a then o0 else bsO w 1 0) else (bif c0 L (aI L a) then o1 else bsO w 1 1),o4,o5) from rfl];cases c0 L a <;> cases c0 L (aI L a) <;> cases c0 L (aI L (aI L a)) <;> rfl
theorem e15 (m:Bool) (M:List PV) (g:Bool) (N:List PV) (w h:Int) (L:List PV) (s:OS) (hok:okO w h=true):
 CR Try.prog MO1 60 53 (CZ Try.f53 15) [5,6,7,8,9,10,11] [5,6,7,8,9,10] (GL.put (lO m M g N w h w L s)).1 (GL.put (lO m M g N w h w L s)).2=some (xO m M g N w h L s):=by
 obtain⟨f,a,o0,o1,o2,o3,o4,o5⟩:=s;unfold okO at hok;simp only[Aa,A0,Ab] at hok;obtain⟨hw,⟨rfl,hh⟩ | ⟨rfl,hh⟩⟩:=hok
 ·have hi:w=1\/w=2\/w=3:=by omega
  rcases hi with rfl | rfl | rfl
  ·exact (q15b m M g N 1 f L a o0 o1 o2 o3 o4 o5).trans (by rw[Aj (by omega)];rfl)
  ·exact (q15c m M g N 2 f L a o0 o1 o2 o3 o4 o5).trans (by rw[Aj (by omega)];rfl)
  ·exact q15d m M g N f L a o0 o1 o2 o3 o4 o5
 ·have hi:w=1\/w=2:=by omega
  rcases hi with rfl | rfl
  ·exact (q15f m M g N 1 f L a o0 o1 o2 o3 o4 o5).trans (by rw[Aj (by omega)];rfl)
  ·exact q15g m M g N f L a o0 o1 o2 o3 o4 o5
theorem s15:∀ s r,p15 s=true->(f15 s).run=some r->r.1 ≠ .normal/\(CR Try.prog MO1 60 53 (CZ Try.f53 15) [5,6,7,8,9,10,11] [5,6,7,8,9,10] (GL.put s).1 (GL.put s).2=some r \/
   ∃ s',CR Try.prog MO1 60 53 (CZ Try.f53 15) [5,6,7,8,9,10,11] [5,6,7,8,9,10] (GL.put s).1 (GL.put s).2=some (.normal,GL.put s')/\p15 s'=true/\m15 s'<m15 s/\(f15 s').run=some r):=by
 intro t r hp hr;unfold p15 at hp;split at hp
 ·rename_i m M g N w h i f L a o0 o1 o2 o3 o4 o5;simp only[Aa,Ab] at hp;obtain⟨⟨⟨⟨h1,h2⟩,h3⟩,h4⟩,h5⟩:=hp;have hr':=(Ah hr).symm;refine⟨by rw[hr'];simp,?_⟩;have hw3:w<=3:=by
   unfold okO at h1;simp only[Aa,A0,Ab] at h1;omega
  by_cases hi:i<w
  ·obtain⟨k,hk⟩:∃ k,(w-i).toNat=k+1:=⟨(w-i).toNat-1,by omega⟩;have hk2:(w-(i+1)).toNat=k:=by omega
   have ha:=ofS_a w h i L (f,a,o0,o1,o2,o3,o4,o5);simp only at ha;refine .inr ⟨lO m M g N w h (i+1) L (ofS w h i L (f,a,o0,o1,o2,o3,o4,o5)),r15 m M g N w h i L (f,a,o0,o1,o2,o3,o4,o5) h1 h2 hi h4 (by simp only;omega),?_,by simp only[m15];omega,?_⟩
   ·simp only[p15,Aa,Ab];exact⟨⟨⟨⟨h1,by omega⟩,by omega⟩,by omega⟩,by omega⟩
   ·rw[hr',hk];simp only[f15,hk2,DT.run,ofN]
  ·have:i=w:=by omega
   subst this;rw[show (i-i).toNat=0 by omega] at hr';exact .inl (by rw[hr'];exact e15 m M g N i h L (f,a,o0,o1,o2,o3,o4,o5) h1)
 ·cases hp
noncomputable def MO2:CO:=MO1.LD Try.prog [true,false] 53 15 [5,6,7,8,9,10,11] [true,true] GL p15 f15
theorem okMO2:Ck Try.prog MO2.env:=
 okMO1.LD (n:=60) Try.func53 (show Try.f53.body=some (DL Try.f53) by kernel_rfl) (show (loops (DL Try.f53)).filter (fun b=>Ed b==15)=[CZ Try.f53 15] by kernel_rfl) [true,false] [5,6,7,8,9,10,11] [5,6,7,8,9,10] [true,true] GL m15 s15
def shPu:S1:=⟨48,[(0,.CQ 3),(1,C4),(5,C4)],[]⟩
abbrev lPu (f:Bool) (l:List PV) (n a:Int):LS:=([.l f l,.i n,.i a],[])
abbrev xPu (f:Bool) (l:List PV) (n a:Int):PX × List PV × List Row:=(.exit 0,tm 48 [(0,.CQ f 3 l),(1,iv n),(5,iv a)],[])
theorem qPu (f:Bool) (l:List PV) (n a:Int):CR Try.prog M7 60 86 (CZ Try.f86 2) [0,1,5] [0,1,5] (shPu.put (lPu f l n a)).1 (shPu.put (lPu f l n a)).2 =
 bif decide (a > 0) then bif H8 l (W (a-1)) then bif cond true (decide (nI l (W (a-1)) ≥ n)) false then some (.normal,shPu.put (lPu f l n (W (a-1)))) else some (xPu f l n a) else none else some (xPu f l n a):=by kernel_rfl
def atN (l:List PV) (n:Int):Nat->Nat
 | 0=>0
 | m+1=>bif decide (((l.getD m .any).cellAt 0).Dn ≥ n) then atN l n m else m+1
theorem atN_le (l:List PV) (n:Int):∀ m,atN l n m<=m
 | 0=>Ak _
 | m+1=>by
  have:=atN_le l n m;unfold atN;cases decide (((l.getD m .any).cellAt 0).Dn ≥ n) <;> simp only[Am,At] <;> omega
def pPu:LS->Bool
 | ([.l _ l,.i _,.i a],[])=>decide (0<=a)&&decide (a<=(l.length:Int))&&decide (l.length<=10000)
 | _=>false
def fPu:LS->DT (PX × List PV × List Row)
 | ([.l f l,.i n,.i a],[])=>.leaf (xPu f l n (atN l n a.toNat:Nat))
 | _=>.no
def mPu:LS->Nat
 | ([.l _ _,.i _,.i a],_)=>a.toNat
 | _=>0
theorem sPu:∀ s r,pPu s=true->(fPu s).run=some r->r.1 ≠ .normal/\(CR Try.prog M7 60 86 (CZ Try.f86 2) [0,1,5] [0,1,5] (shPu.put s).1 (shPu.put s).2=some r \/
   ∃ s',CR Try.prog M7 60 86 (CZ Try.f86 2) [0,1,5] [0,1,5] (shPu.put s).1 (shPu.put s).2=some (.normal,shPu.put s')/\pPu s'=true/\mPu s'<mPu s/\(fPu s').run=some r):=by
 intro t r hp hr;unfold pPu at hp;split at hp
 ·rename_i f l n a;simp only[Aa,Ab] at hp;obtain⟨⟨h1,h2⟩,h3⟩:=hp;have hr':=(Ah hr).symm;refine⟨by rw[hr'];simp,?_⟩;rw[show shPu.put ([.l f l,.i n,.i a],[])=shPu.put (lPu f l n a) from rfl,qPu];by_cases hi:a > 0
  ·obtain⟨k,hk⟩:∃ k,a.toNat=k+1:=⟨a.toNat-1,by omega⟩;have hk2:(a-1).toNat=k:=by omega
   rw[Ac hi,Dc (n:=a-1) (by omega) (by omega),D1 (by omega) (by omega)];simp only[Am];rw[hk] at hr';simp only[atN] at hr';rw[show nI l (a-1)=((l.getD k .any).cellAt 0).Dn by unfold nI;rw[hk2]];cases hb:decide (((l.getD k .any).cellAt 0).Dn ≥ n) with
   | true =>
    rw[hb,Am] at hr';refine .inr ⟨lPu f l n (a-1),rfl,by simp only[pPu,Aa,Ab];omega,by simp only[mPu];omega,?_⟩;rw[hr'];simp only[fPu,hk2,DT.run]
   | false =>
    rw[hb,At] at hr';refine .inl ?_;rw[hr'];have:((k+1:Nat):Int)=a:=by omega
    rw[this];rfl
  ·rw[Aj hi];refine .inl ?_;have ha:a=0:=by omega
   subst ha;rw[hr'];rfl
 ·cases hp
noncomputable def MP1:CO:=M7.C8 86 2 [0,1,5] [] shPu pPu fPu
theorem okMP1:Ck Try.prog MP1.env:=
 Ia.C8 (n:=60) Try.func86 (show Try.f86.body=some (DL Try.f86) by kernel_rfl) (show (loops (DL Try.f86)).filter (fun b=>Ed b==2)=[CZ Try.f86 2] by kernel_rfl) [0,1,5] [0,1,5] [] shPu mPu sPu
abbrev puT (l:List PV) (A:Int):List PV:=(l.take A.toNat).drop 0
abbrev puD (l:List PV) (A:Int):List PV:=(l.take ((none:Option Int).getD (l.length:Int)).toNat).drop A.toNat
noncomputable def puK (l:List PV) (n A:Int):Option PV:=
 bif decide (0<=A)&&decide (A<=(l.length:Int)) then bif true&&decide ((0+(puT l A).length)*8<=140737488355328) then
 bif true&&decide (([]++puT l A).length=0+(puT l A).length)&&decide (0+(puT l A).length=0+(puT l A).length)&&decide ((0+(puT l A).length+1)*8<=140737488355328) then
 bif (decide (0<=A)&&decide (A<=(none:Option Int).getD (l.length:Int)))&&decide ((none:Option Int).getD (l.length:Int)<=(l.length:Int)) then
 bif true&&decide ((([]++puT l A)++[iv n]).length=0+(puT l A).length+1)&&decide (0+(puT l A).length+1=0+(puT l A).length+1)&&decide ((0+(puT l A).length+1+(puD l A).length)*8<=140737488355328) then
  J0 ((([]++puT l A)++[iv n])++puD l A) (0+(puT l A).length+1+(puD l A).length) (some (.CQ false 3 ((((([]++puT l A)++[iv n])++puD l A).drop 0).take (0+(puT l A).length+1+(puD l A).length))))
 else none else none else none else none else none
theorem qPut (f:Bool) (l:List PV) (n:Int):Dw Try.prog MP1 60 86 [.CQ f 3 l,iv n] =
 bif pPu (lPu f l n (l.length:Int)) then
  bif decide ((atN l n (l.length:Int).toNat:Int)<(l.length:Int)) then bif H8 l (atN l n (l.length:Int).toNat:Int) then bif cond true (nI l (atN l n (l.length:Int).toNat:Int)==n) false then some (.CQ f 3 l) else puK l n (atN l n (l.length:Int).toNat:Int) else none
  else puK l n (atN l n (l.length:Int).toNat:Int) else none:=by kernel_rfl
def puS (l:List PV) (n:Int):Bool:=bif decide ((atN l n l.length:Int)<(l.length:Int)) then nI l (atN l n l.length:Int)==n else false
def puL (l:List PV) (n:Int):List PV:=bif puS l n then l else l.take (atN l n l.length)++iv n::l.drop (atN l n l.length)
theorem puK_of {l:List PV} {n:Int} {a:Nat} (h:a<=l.length) (hl:l.length<=1000):puK l n (a:Int)=some (.CQ false 3 (l.take a++iv n::l.drop a)):=by
 have e1:puT l (a:Int)=l.take a:=by show (l.take ((a:Nat):Int).toNat).drop 0=_;simp
 have e2:puD l (a:Int)=l.drop a:=by show (l.take ((l.length:Nat):Int).toNat).drop ((a:Nat):Int).toNat=_;simp
 have e3:(none:Option Int).getD (l.length:Int)=(l.length:Int):=rfl;unfold puK J0;rw[e1,e2,e3];have l1:(l.take a).length=a:=by rw[Az];omega
 have l2:(l.drop a).length=l.length-a:=by rw[B1]
 simp only[BM,Ar,Ay,AC,AM,l1,l2,Cf,AN,decide_true,BD,AR,Am];have c1:(decide ((0:Int)<=(a:Int))&&decide ((a:Int)<=(l.length:Int)))=true:=by simp;omega
 rw[c1,Ac (show a*8<=140737488355328 by omega),Ac (show (a+1)*8<=140737488355328 by omega),Ac (show (a+1+(l.length-a))*8<=140737488355328 by omega),Ac (show (l.length:Int)<=(l.length:Int) by omega)];simp only[Am,BD];rw[Bi (by simp;omega)];simp
theorem qPutN (f:Bool) (l:List PV) (n:Int) (hl:l.length<=1000):Dw Try.prog MP1 60 86 [.CQ f 3 l,iv n]=some (.CQ (puS l n&&f) 3 (puL l n)):=by
 have hp:pPu (lPu f l n (l.length:Int))=true:=by
  simp only[pPu,Aa,Ab];omega
 have ha:=atN_le l n l.length;rw[qPut,hp,show (l.length:Int).toNat=l.length by simp];simp only[Am];unfold puL puS;by_cases h:(atN l n l.length:Int)<(l.length:Int)
 ·rw[Ac h,D1 (by omega) (by omega)];simp only[Am];cases nI l (atN l n l.length:Int)==n
  ·exact puK_of ha hl
  ·rfl
 ·rw[Aj h];exact puK_of ha hl
def cPut:List PV->Option (DT PV)
 | [.CQ f 3 l,.val (.int .i64 n)]=>some (.br (decide (l.length<=1000)) (.leaf (.CQ (puS l n&&f) 3 (puL l n))) .no)
 | _=>none
theorem ePut:Hx.CV Try.prog 86:=(CK okMP1 (n:=60) (qPutN false [] 0 (by simp))).1
theorem oPut (args:List PV) (d:DT PV) (r:PV) (h:cPut args=some d) (hr:d.run=some r):Da Try.prog 86 args r:=by
 unfold cPut at h;split at h
 ·rename_i f l n;cases h;obtain⟨h1,rfl⟩:=DI hr;exact (CK okMP1 (n:=60) (qPutN f l n (AS h1))).2
 ·cases h
theorem puL_len (l:List PV) (n:Int):l.length<=(puL l n).length/\(puL l n).length<=l.length+1:=by
 unfold puL;cases puS l n with
 | true=>simp only[Am];omega
 | false =>
  have:=atN_le l n l.length;simp only[At,Ar,Ay,Az,B1];omega
noncomputable def MF1:CO:=((MO2.DF 86 cPut).G3 76 3 [(3,3,0)]).G3 76 11 [(5,106,5)]
theorem okMF1:Ck Try.prog MF1.env:=((okMO2.DF ePut oPut).G3 76 3 [(3,3,0)]).G3 76 11 [(5,106,5)]
abbrev fR3:List Y1:=[.one 103 2 (.agg [.CQ 3,C4]),.one 128 6 (.agg [C4,C4,C4,C4,C4,C4]),.one 103 2 (.agg [.CQ 3,C4]),.many 147 4]
structure FR where
 f:Bool
 L:List PV
 a:Int
 o0:Int
 o1:Int
 o2:Int
 o3:Int
 o4:Int
 o5:Int
 g:Bool
 N:List PV
 c:Int
 nl:Bool
 es:List PV
abbrev FR.rows (R:FR):List Row:=[HC R.f R.L R.a,arR R.o0 R.o1 R.o2 R.o3 R.o4 R.o5,HC R.g R.N R.c,edR R.nl R.es]
abbrev FR.ls (R:FR) (t:List L1):List L1:=.l R.f R.L::.i R.a::.i R.o0::.i R.o1::.i R.o2::.i R.o3::.i R.o4::.i R.o5::.l R.g R.N::.i R.c::.l R.nl R.es::t
def shF3:S1:=⟨54,[(0,.sl 3),(3,.CQ 3),(4,C4)],fR3⟩
abbrev lF3 (n l:Nat) (u:Bool) (is:List PV) (k:Int) (R:FR):LS:=([.n n,.n l,.l u is,.i k],R.ls [])
noncomputable abbrev xF3 (u:Bool) (is:List PV) (R:FR):PX × List PV × List Row:=(.exit 0,tm 54 [(3,.CQ u 3 is)],R.rows)
def lfA (es:List PV) (k:Int):Int:=((es.getD (0+k.toNat) .any).cellAt 2).Dn
def rtA (es:List PV) (k:Int):Int:=((es.getD (0+k.toNat) .any).cellAt 3).Dn
def lFq (es:List PV) (n l:Nat) (k:Int) {α:Type} (x:Option α):Option α:=ixR es n l k (J0 es n (J0 es n x))
theorem lFq_of {es:List PV} {k:Int} {α:Type} {x:Option α} (h1:0<=k) (h2:k<(es.length:Int)):lFq es es.length es.length k x=x:=by
 unfold lFq ixR J0;rw[AR,Ac h1,Ac h2];rfl
noncomputable def nF3 (n l:Nat) (k:Int) (R:FR) (u:Bool) (is:List PV):Option (PX × List PV × List Row):=some (.normal,shF3.put (lF3 n l u is (W (k+1)) R))
noncomputable def rF3 (n l:Nat) (k:Int) (R:FR) (u:Bool) (is:List PV):Option (PX × List PV × List Row):=
 lFq R.es n l k (bif rtA R.es k != 0 then lFq R.es n l k (bif decide (is.length<=1000) then nF3 n l k R (puS is (rtA R.es k)&&u) (puL is (rtA R.es k)) else none) else nF3 n l k R u is)
theorem qF3 (n l:Nat) (u:Bool) (is:List PV) (k:Int) (f:Bool) (L:List PV) (a o0 o1 o2 o3 o4 o5:Int) (g:Bool) (N:List PV) (c:Int) (nl:Bool) (es:List PV):
 CR Try.prog MF1 60 76 (CZ Try.f76 3) [0,3,4] [3] (shF3.put (lF3 n l u is k ⟨f,L,a,o0,o1,o2,o3,o4,o5,g,N,c,nl,es⟩)).1 (shF3.put (lF3 n l u is k ⟨f,L,a,o0,o1,o2,o3,o4,o5,g,N,c,nl,es⟩)).2 =
 bif decide (k<(l:Int)) then
  lFq es n l k (bif lfA es k != 0 then lFq es n l k (bif decide (is.length<=1000) then rF3 n l k ⟨f,L,a,o0,o1,o2,o3,o4,o5,g,N,c,nl,es⟩ (puS is (lfA es k)&&u) (puL is (lfA es k)) else none) else rF3 n l k ⟨f,L,a,o0,o1,o2,o3,o4,o5,g,N,c,nl,es⟩ u is)
 else some (xF3 u is ⟨f,L,a,o0,o1,o2,o3,o4,o5,g,N,c,nl,es⟩):=by kernel_rfl
def puP (n:Int) (s:Bool × List PV):Bool × List PV:=bif n != 0 then (puS s.2 n&&s.1,puL s.2 n) else s
def faS (es:List PV) (k:Int) (s:Bool × List PV):Bool × List PV:=puP (rtA es k) (puP (lfA es k) s)
def faN (es:List PV):Nat->Int->Bool × List PV->Bool × List PV
 | 0,_,s=>s
 | m+1,k,s=>faN es m (k+1) (faS es k s)
theorem puP_len (n:Int) (s:Bool × List PV):s.2.length<=(puP n s).2.length/\(puP n s).2.length<=s.2.length+1:=by
 have:=puL_len s.2 n;unfold puP;cases n != 0 <;> simp only[Am,At] <;> omega
theorem faS_len (es:List PV) (k:Int) (s:Bool × List PV):(faS es k s).2.length<=s.2.length+2:=by
 have h1:=puP_len (lfA es k) s;have h2:=puP_len (rtA es k) (puP (lfA es k) s);unfold faS;omega
theorem faN_len (es:List PV):∀ (m:Nat) (k:Int) (s:Bool × List PV),(faN es m k s).2.length<=s.2.length+2*m
 | 0,_,s=>by simp[faN]
 | m+1,k,s=>by
  have h1:=faS_len es k s;have h2:=faN_len es m (k+1) (faS es k s);simp only[faN];omega
def pF3:LS->Bool
 | ([.n n,.n l,.l _ is,.i k],[.l _ _,.i _,.i _,.i _,.i _,.i _,.i _,.i _,.l _ _,.i _,.l _ es])=>decide (n=es.length)&&decide (l=es.length)&&decide (0<=k)&&decide (k<=(es.length:Int))&&decide (es.length<=100)&&decide ((is.length:Int)<=2*k)
 | _=>false
noncomputable def fF3:LS->DT (PX × List PV × List Row)
 | ([.n _,.n _,.l u is,.i k],[.l f L,.i a,.i o0,.i o1,.i o2,.i o3,.i o4,.i o5,.l g N,.i c,.l nl es]) =>
  .leaf (xF3 (faN es ((es.length:Int)-k).toNat k (u,is)).1 (faN es ((es.length:Int)-k).toNat k (u,is)).2 ⟨f,L,a,o0,o1,o2,o3,o4,o5,g,N,c,nl,es⟩)
 | _=>.no
def mF3:LS->Nat
 | ([.n _,.n l,.l _ _,.i k],_)=>((l:Int)-k).toNat
 | _=>0
theorem rF3_of {R:FR} {k:Int} {u:Bool} {is:List PV} (h1:0<=k) (h2:k<(R.es.length:Int)) (h3:is.length<=1000) (h4:k<=1000):
  rF3 R.es.length R.es.length k R u is=some (.normal,shF3.put (lF3 R.es.length R.es.length (puP (rtA R.es k) (u,is)).1 (puP (rtA R.es k) (u,is)).2 (k+1) R)):=by
 unfold rF3 nF3;rw[lFq_of h1 h2,lFq_of h1 h2,Ac h3,Dc (n:=k+1) (by omega) (by omega)];unfold puP;cases rtA R.es k != 0 <;> rfl
theorem sFa3:∀ s r,pF3 s=true->(fF3 s).run=some r->r.1 ≠ .normal/\(CR Try.prog MF1 60 76 (CZ Try.f76 3) [0,3,4] [3] (shF3.put s).1 (shF3.put s).2=some r \/
   ∃ s',CR Try.prog MF1 60 76 (CZ Try.f76 3) [0,3,4] [3] (shF3.put s).1 (shF3.put s).2=some (.normal,shF3.put s')/\pF3 s'=true/\mF3 s'<mF3 s/\(fF3 s').run=some r):=by
 intro t r hp hr;unfold pF3 at hp;split at hp
 ·rename_i n l u is k f L a o0 o1 o2 o3 o4 o5 g N c nl es;simp only[Aa,Ab] at hp;obtain⟨⟨⟨⟨⟨rfl,rfl⟩,h1⟩,h2⟩,h3⟩,h4⟩:=hp;have hr':=(Ah hr).symm;refine⟨by rw[hr'];simp,?_⟩;have q:=qF3 es.length es.length u is k f L a o0 o1 o2 o3 o4 o5 g N c nl es;rw[show (shF3.put ([.n es.length,.n es.length,.l u is,.i k],[.l f L,.i a,.i o0,.i o1,.i o2,.i o3,.i o4,.i o5,.l g N,.i c,.l nl es]))=shF3.put (lF3 es.length es.length u is k ⟨f,L,a,o0,o1,o2,o3,o4,o5,g,N,c,nl,es⟩) from rfl,q];by_cases hk:k<(es.length:Int)
  ·obtain⟨j,hj⟩:∃ j,((es.length:Int)-k).toNat=j+1:=⟨((es.length:Int)-k).toNat-1,by omega⟩;have hj2:((es.length:Int)-(k+1)).toNat=j:=by omega
   have hs:=faS_len es k (u,is);have hl:=puP_len (lfA es k) (u,is);simp only at hs hl;refine .inr ⟨lF3 es.length es.length (faS es k (u,is)).1 (faS es k (u,is)).2 (k+1) ⟨f,L,a,o0,o1,o2,o3,o4,o5,g,N,c,nl,es⟩,?_,?_,by simp only[mF3];omega,?_⟩
   ·rw[Ac hk,lFq_of h1 hk,lFq_of h1 hk,Ac (show is.length<=1000 by omega)];simp only[Am];rw[rF3_of (R:=⟨f,L,a,o0,o1,o2,o3,o4,o5,g,N,c,nl,es⟩) (u:=u) (is:=is) h1 hk (by show is.length<=1000;omega) (by omega),
     rF3_of (R:=⟨f,L,a,o0,o1,o2,o3,o4,o5,g,N,c,nl,es⟩) (u:=puS is (lfA es k)&&u) (is:=puL is (lfA es k)) h1 hk (by have:=puL_len is (lfA es k);omega) (by omega)]
    unfold faS;rw[show puP (lfA es k) (u,is)=bif lfA es k != 0 then (puS is (lfA es k)&&u,puL is (lfA es k)) else (u,is) from rfl];cases lfA es k != 0 <;> rfl
   ·simp only[pF3,Aa,Ab];exact⟨⟨⟨⟨⟨trivial,trivial⟩,by omega⟩,by omega⟩,h3⟩,by omega⟩
   ·rw[hr',hj];simp only[fF3,hj2,DT.run,faN]
  ·have hz:((es.length:Int)-k).toNat=0:=by omega
   rw[Aj hk];exact .inl (by rw[hr',hz];rfl)
 ·cases hp
noncomputable def MF2:CO:=MF1.C8 76 3 [0,3,4] [true,true,true,false] shF3 pF3 fF3
theorem okMF2:Ck Try.prog MF2.env:=
 okMF1.C8 (n:=60) Try.func76 (show Try.f76.body=some (DL Try.f76) by kernel_rfl) (show (loops (DL Try.f76)).filter (fun b=>Ed b==3)=[CZ Try.f76 3] by kernel_rfl) [0,3,4] [3] [true,true,true,false] shF3 mF3 sFa3
def JQ:S1:=⟨54,[(3,.CQ 3),(5,.sl 4),(6,C4)],[.one 103 2 (.agg [.CQ 3,C4]),.one 128 6 (.agg [C4,C4,C4,C4,C4,C4]),.one 103 2 (.agg [.CQ 3,C4]),.many 147 4,.many 106 5]⟩
abbrev facV (e:PV):PV:=.agg [iv (e.cellAt 0).Dn,.val (.string .empty),.val (.string .empty),iv 0,iv 0]
abbrev faR (v:Bool) (fs:List PV):Row:={ es:=fs,s:=5,t:=106,bv:=true,nl:=v }
abbrev lF11 (u:Bool) (is:List PV) (m r:Nat) (k:Int) (R:FR) (v:Bool) (fs:List PV):LS:=([.l u is,.n m,.n r,.i k],R.ls [.l v fs])
noncomputable abbrev xF11 (m r:Nat) (R:FR) (v:Bool) (fs:List PV):PX × List PV × List Row:=(.exit 2,tm 54 [(5,.sl 4 m 0 r)],R.rows++[faR v fs])
theorem qF11 (u:Bool) (is:List PV) (m r:Nat) (k:Int) (f:Bool) (L:List PV) (a o0 o1 o2 o3 o4 o5:Int) (g:Bool) (N:List PV) (c:Int) (nl:Bool) (es:List PV) (v:Bool) (fs:List PV):
 CR Try.prog MF2 60 76 (CZ Try.f76 11) [3,5,6] [5] (JQ.put (lF11 u is m r k ⟨f,L,a,o0,o1,o2,o3,o4,o5,g,N,c,nl,es⟩ v fs)).1 (JQ.put (lF11 u is m r k ⟨f,L,a,o0,o1,o2,o3,o4,o5,g,N,c,nl,es⟩ v fs)).2 =
 bif decide (k<(is.length:Int)) then bif H8 is k then bif true&&decide (fs.length=m)&&decide (m=r)&&decide ((m+1)*56<=140737488355328) then
  some (.normal,JQ.put (lF11 u is (m+1) (m+1) (W (k+1)) ⟨f,L,a,o0,o1,o2,o3,o4,o5,g,N,c,nl,es⟩ (v&&false) (fs++[facV (is.getD k.toNat .any)]))) else none else none
 else some (xF11 m r ⟨f,L,a,o0,o1,o2,o3,o4,o5,g,N,c,nl,es⟩ v fs):=by kernel_rfl
def fcN (is:List PV):Nat->Int->Bool × List PV->Bool × List PV
 | 0,_,s=>s
 | m+1,k,s=>fcN is m (k+1) (s.1&&false,s.2++[facV (is.getD k.toNat .any)])
theorem fcN_len (is:List PV):∀ (m:Nat) (k:Int) (s:Bool × List PV),(fcN is m k s).2.length=s.2.length+m
 | 0,_,_=>rfl
 | m+1,k,s=>by
  simp only[fcN];rw[fcN_len is m];simp;omega
def pF11:LS->Bool
 | ([.l _ is,.n m,.n r,.i k],[.l _ _,.i _,.i _,.i _,.i _,.i _,.i _,.i _,.l _ _,.i _,.l _ _,.l _ fs])=>decide (m=fs.length)&&decide (r=fs.length)&&decide (0<=k)&&decide (k<=(is.length:Int))&&decide (is.length<=1000)&&decide ((fs.length:Int)=k)
 | _=>false
noncomputable def fF11:LS->DT (PX × List PV × List Row)
 | ([.l _ is,.n _,.n _,.i k],[.l f L,.i a,.i o0,.i o1,.i o2,.i o3,.i o4,.i o5,.l g N,.i c,.l nl es,.l v fs]) =>
  .leaf (xF11 is.length is.length ⟨f,L,a,o0,o1,o2,o3,o4,o5,g,N,c,nl,es⟩ (fcN is ((is.length:Int)-k).toNat k (v,fs)).1 (fcN is ((is.length:Int)-k).toNat k (v,fs)).2)
 | _=>.no
def mF11:LS->Nat
 | ([.l _ is,.n _,.n _,.i k],_)=>((is.length:Int)-k).toNat
 | _=>0
theorem sF11:∀ s r,pF11 s=true->(fF11 s).run=some r->r.1 ≠ .normal/\(CR Try.prog MF2 60 76 (CZ Try.f76 11) [3,5,6] [5] (JQ.put s).1 (JQ.put s).2=some r \/
   ∃ s',CR Try.prog MF2 60 76 (CZ Try.f76 11) [3,5,6] [5] (JQ.put s).1 (JQ.put s).2=some (.normal,JQ.put s')/\pF11 s'=true/\mF11 s'<mF11 s/\(fF11 s').run=some r):=by
 intro t r hp hr;unfold pF11 at hp;split at hp
 ·rename_i u is m r k f L a o0 o1 o2 o3 o4 o5 g N c nl es v fs;simp only[Aa,Ab] at hp;obtain⟨⟨⟨⟨⟨rfl,rfl⟩,h1⟩,h2⟩,h3⟩,h4⟩:=hp;have hr':=(Ah hr).symm;refine⟨by rw[hr'];simp,?_⟩;have q:=qF11 u is fs.length fs.length k f L a o0 o1 o2 o3 o4 o5 g N c nl es v fs;rw[show (JQ.put ([.l u is,.n fs.length,.n fs.length,.i k],[.l f L,.i a,.i o0,.i o1,.i o2,.i o3,.i o4,.i o5,.l g N,.i c,.l nl es,.l v fs]))=JQ.put (lF11 u is fs.length fs.length k ⟨f,L,a,o0,o1,o2,o3,o4,o5,g,N,c,nl,es⟩ v fs) from rfl,q];by_cases hk:k<(is.length:Int)
  ·obtain⟨j,hj⟩:∃ j,((is.length:Int)-k).toNat=j+1:=⟨((is.length:Int)-k).toNat-1,by omega⟩;have hj2:((is.length:Int)-(k+1)).toNat=j:=by omega
   refine .inr ⟨lF11 u is (fs.length+1) (fs.length+1) (k+1) ⟨f,L,a,o0,o1,o2,o3,o4,o5,g,N,c,nl,es⟩ (v&&false) (fs++[facV (is.getD k.toNat .any)]),?_,?_,by simp only[mF11];omega,?_⟩
   ·rw[Ac hk,D1 h1 hk,Dc (n:=k+1) (by omega) (by omega),Ac (show fs.length=fs.length from rfl),Ac (show (fs.length+1)*56<=140737488355328 by omega)];rfl
   ·simp only[pF11,Aa,Ab,Ar,Ay,AC];exact⟨⟨⟨⟨⟨trivial,trivial⟩,by omega⟩,by omega⟩,h3⟩,by omega⟩
   ·rw[hr',hj];simp only[fF11,hj2,DT.run,fcN]
  ·have hz:((is.length:Int)-k).toNat=0:=by omega
   rw[Aj hk];exact .inl (by rw[hr',hz,show fs.length=is.length by omega];rfl)
 ·cases hp
noncomputable def MF3:CO:=MF2.C8 76 11 [3,5,6] [true,true,true,false,false] JQ pF11 fF11
theorem okMF3:Ck Try.prog MF3.env:=
 okMF2.C8 (n:=60) Try.func76 (show Try.f76.body=some (DL Try.f76) by kernel_rfl) (show (loops (DL Try.f76)).filter (fun b=>Ed b==11)=[CZ Try.f76 11] by kernel_rfl) [3,5,6] [5] [true,true,true,false,false] JQ mF11 sF11
noncomputable def MF4:CO:=MF3.FN 76
theorem okMF4:Ck Try.prog MF4.env:=okMF3.FN 76
noncomputable def mdZ (R:FR):Option (PV × List Row):=
 bif R.es.length==R.es.length then bif pF3 (lF3 R.es.length R.es.length false [] 0 R) then
 bif pF11 (lF11 (faN R.es ((R.es.length:Int)-0).toNat 0 (false,[])).1 (faN R.es ((R.es.length:Int)-0).toNat 0 (false,[])).2 0 0 0 R true []) then
  some (.D8 [.sl 3 R.es.length 0 R.es.length,.sl 4 (faN R.es ((R.es.length:Int)-0).toNat 0 (false,[])).2.length 0 (faN R.es ((R.es.length:Int)-0).toNat 0 (false,[])).2.length],
   R.rows++[faR (fcN (faN R.es ((R.es.length:Int)-0).toNat 0 (false,[])).2 (((faN R.es ((R.es.length:Int)-0).toNat 0 (false,[])).2.length:Int)-0).toNat 0 (true,[])).1 (fcN (faN R.es ((R.es.length:Int)-0).toNat 0 (false,[])).2 (((faN R.es ((R.es.length:Int)-0).toNat 0 (false,[])).2.length:Int)-0).toNat 0 (true,[])).2])
 else none else none else none
abbrev mdP (i j:Int):Int × Int:=(W (90+W (100*i)),W (90+W (100*j)))
def FR.isl (R:FR) (i j o:Int):FR:={ R with
 f:=fI (fI (fI R.f R.L R.a) R.L (aI R.L R.a)) R.L (aI R.L (aI R.L R.a)),a:=aI R.L (aI R.L (aI R.L R.a)),
 g:=addF' 28 o (f1 R.g R.N R.c 2) R.N (a1 R.N R.c 2),c:=addA 28 o R.N (a1 R.N R.c 2),nl:=addN' 28 o R.nl,
 es:=H5 R.es false (isL (mdP i j).1 (mdP i j).2 R.N R.c) 28 o R.N (a1 R.N R.c 2) }
noncomputable def mdQ (R:FR) (i j o:Int):Option (PV × List Row):=
 bif R.es.length==R.es.length then bif okIs R.es.length R.es.length R.es R.c then mdZ (R.isl i j o) else none else none
noncomputable def mdI (R:FR) (w h:Int):Option (PV × List Row):=
 bif EE R.a 2 then bif dI R.L R.a 2==1 then bif EE (aI R.L R.a) w then bif EE (aI R.L (aI R.L R.a)) h then
  bif decide (dI R.L (aI R.L R.a) w=2) then bif decide (dI R.L (aI R.L (aI R.L R.a)) h=1) then mdQ R (dI R.L (aI R.L R.a) w) (dI R.L (aI R.L (aI R.L R.a)) h) R.o5 else bif decide (dI R.L (aI R.L (aI R.L R.a)) h=0) then mdQ R (dI R.L (aI R.L R.a) w) (dI R.L (aI R.L (aI R.L R.a)) h) R.o4 else none else
  bif decide (dI R.L (aI R.L R.a) w=1) then bif decide (dI R.L (aI R.L (aI R.L R.a)) h=1) then mdQ R (dI R.L (aI R.L R.a) w) (dI R.L (aI R.L (aI R.L R.a)) h) R.o3 else bif decide (dI R.L (aI R.L (aI R.L R.a)) h=0) then mdQ R (dI R.L (aI R.L R.a) w) (dI R.L (aI R.L (aI R.L R.a)) h) R.o2 else none else
  bif decide (dI R.L (aI R.L R.a) w=0) then bif decide (dI R.L (aI R.L (aI R.L R.a)) h=1) then mdQ R (dI R.L (aI R.L R.a) w) (dI R.L (aI R.L (aI R.L R.a)) h) R.o1 else bif decide (dI R.L (aI R.L (aI R.L R.a)) h=0) then mdQ R (dI R.L (aI R.L R.a) w) (dI R.L (aI R.L (aI R.L R.a)) h) R.o0 else none else none
 else none else none else mdZ { R with f:=fI R.f R.L R.a,a:=aI R.L R.a } else none
def G9 (w h:Int) (A:List PV):OS:=ofN w h A (w-0).toNat 0 (false,a1 A 0 2,0,0,0,0,0,0)
def hjO (M N:List PV) (s:OS) (w h:Int) (m:Nat) (t:Ew):Ew:=hjN M N s.2.2.1 s.2.2.2.1 s.2.2.2.2.1 s.2.2.2.2.2.1 s.2.2.2.2.2.2.1 s.2.2.2.2.2.2.2 w h m 0 t
def vjO (M N:List PV) (s:OS) (w h:Int) (m:Nat) (t:Ew):Ew:=vjN M N s.2.2.1 s.2.2.2.1 s.2.2.2.2.1 s.2.2.2.2.2.1 s.2.2.2.2.2.2.1 s.2.2.2.2.2.2.2 w h m 0 t
abbrev frO (s:OS) (A N:List PV) (t:Ew):FR:=⟨s.1,A,s.2.1,s.2.2.1,s.2.2.2.1,s.2.2.2.2.1,s.2.2.2.2.2.1,s.2.2.2.2.2.2.1,s.2.2.2.2.2.2.2,t.2.1,N,t.2.2.1,t.2.2.2,t.1⟩
abbrev l28O (B C A:List PV) (w h:Int) (n:Nat) (s:OS) (t:Ew):LS:=l28 false B w h n n 0 s.1 A s.2.1 s.2.2.1 s.2.2.2.1 s.2.2.2.2.1 s.2.2.2.2.2.1 s.2.2.2.2.2.2.1 s.2.2.2.2.2.2.2 t.2.1 C t.2.2.1 t.2.2.2 t.1
noncomputable def mdM (A B C:List PV) (w h:Int):Option (PV × List Row):=
 bif p15 (lO false B false C w h 0 A (false,a1 A 0 2,0,0,0,0,0,0)) then
 bif p28 (l28O B C A w h 0 (G9 w h A) ([],false,0,true)) then
 bif p35 (l28O B C A w h (hjO B C (G9 w h A) w h (h+1-0).toNat ([],false,0,true)).1.length (G9 w h A) (hjO B C (G9 w h A) w h (h+1-0).toNat ([],false,0,true))) then
  mdI (frO (G9 w h A) A C (vjO B C (G9 w h A) w h (h-0).toNat (hjO B C (G9 w h A) w h (h+1-0).toNat ([],false,0,true)))) w h
 else none else none else none
noncomputable def mdX (A B C:List PV):Option (PV × List Row):=
 bif EE (aI A 0) 2 then bif W (1+dI A 0 3)==3 then mdM A B C (W (1+dI A 0 3)) 1 else mdM A B C (W (1+dI A 0 3)) (W (1+dI A (aI A 0) 2)) else none
abbrev liL (e:PV):List PV:=(e.cellAt 0).getL
theorem qMd3 (f:Bool) (e0 e1 e2:PV):runR Try.prog MF4 60 0 53 [.CQ f 38 [e0,e1,e2]] []=mdX (liL e0) (liL e1) (liL e2):=by kernel_rfl
theorem qMd2 (f:Bool) (e0 e1:PV):runR Try.prog MF4 60 0 53 [.CQ f 38 [e0,e1]] []=mdX (liL e0) (liL e1) []:=by kernel_rfl
theorem qMd1 (f:Bool) (e0:PV):runR Try.prog MF4 60 0 53 [.CQ f 38 [e0]] []=mdX (liL e0) [] []:=by kernel_rfl
theorem qMd0 (f:Bool):runR Try.prog MF4 60 0 53 [.CQ f 38 []] []=mdX [] [] []:=by kernel_rfl
def EdgE (e:PV):Prop:=∃ id f ps lf rt,e=edv id f ps lf rt/\ps.length<=10
def Li (es:List PV):Prop:=∀ e ∈ es,EdgE e
theorem addE_e {es:List PV} {g:Bool} {ps:List PV} {lf rt:Int} {L:List PV} {a:Int} (h:Li es) (hp:ps.length<=10):Li (H5 es g ps lf rt L a):=by
 unfold H5;cases lf==rt with
 | true=>exact h
 | false =>
  intro e he;rcases A5.1 he with he | he
  ·exact h e he
  ·rw[AF] at he;subst he;cases dI L a 2==1
   ·exact⟨_,_,_,_,_,rfl,hp⟩
   ·exact⟨_,_,_,_,_,rfl,by rw[turL_len];exact hp⟩
theorem addE_len (es:List PV) (g:Bool) (ps:List PV) (lf rt:Int) (L:List PV) (a:Int):(H5 es g ps lf rt L a).length<=es.length+1:=by
 unfold H5;cases lf==rt <;> simp only[Am,At,Ar,Ay,AC] <;> omega
theorem edS_e (N:List PV) (x0 y0 x1 y1 lf rt:Int) {s:Ew} (h:Li s.1):Li (edS N x0 y0 x1 y1 lf rt s).1:=
 addE_e h (by have:=wgN_le N s.2.2.1;rw[wigL_len];omega)
theorem hoN_e (M N:List PV) (o0 o1 o2 o3 o4 o5 w h j:Int):∀ (m:Nat) (i:Int) {s:Ew},Li s.1->Li (hoN M N o0 o1 o2 o3 o4 o5 w h j m i s).1
 | 0,_,_,hs=>hs
 | m+1,i,_,hs=>hoN_e M N o0 o1 o2 o3 o4 o5 w h j m (i+1) (edS_e _ _ _ _ _ _ _ hs)
theorem veN_e (M N:List PV) (o0 o1 o2 o3 o4 o5 w h j:Int):∀ (m:Nat) (i:Int) {s:Ew},Li s.1->Li (veN M N o0 o1 o2 o3 o4 o5 w h j m i s).1
 | 0,_,_,hs=>hs
 | m+1,i,_,hs=>veN_e M N o0 o1 o2 o3 o4 o5 w h j m (i+1) (edS_e _ _ _ _ _ _ _ hs)
theorem hjN_e (M N:List PV) (o0 o1 o2 o3 o4 o5 w h:Int):∀ (m:Nat) (j:Int) {s:Ew},Li s.1->Li (hjN M N o0 o1 o2 o3 o4 o5 w h m j s).1
 | 0,_,_,hs=>hs
 | m+1,j,_,hs=>hjN_e M N o0 o1 o2 o3 o4 o5 w h m (j+1) (hoN_e _ _ _ _ _ _ _ _ _ _ _ _ _ hs)
theorem vjN_e (M N:List PV) (o0 o1 o2 o3 o4 o5 w h:Int):∀ (m:Nat) (j:Int) {s:Ew},Li s.1->Li (vjN M N o0 o1 o2 o3 o4 o5 w h m j s).1
 | 0,_,_,hs=>hs
 | m+1,j,_,hs=>vjN_e M N o0 o1 o2 o3 o4 o5 w h m (j+1) (veN_e _ _ _ _ _ _ _ _ _ _ _ _ _ hs)
def mdJ (es:List PV):List PV:=(faN es ((es.length:Int)-0).toNat 0 (false,[])).2
def mdF (es:List PV):Bool × List PV:=fcN (mdJ es) (((mdJ es).length:Int)-0).toNat 0 (true,[])
theorem mdJ_len (es:List PV):(mdJ es).length<=2*es.length:=by
 have:=faN_len es ((es.length:Int)-0).toNat 0 (false,[]);unfold mdJ;simp only[AC] at this;omega
theorem mdF_len (es:List PV):(mdF es).2.length=(mdJ es).length:=by
 unfold mdF;rw[fcN_len];simp
theorem fcN_v (is:List PV):∀ (m:Nat) (k:Int) (s:Bool × List PV),(∀ e ∈ s.2,∃ x,e=facV x)->∀ e ∈ (fcN is m k s).2,∃ x,e=facV x
 | 0,_,_,h=>h
 | m+1,k,s,h=>fcN_v is m (k+1) _ (fun e he=>by
   rcases A5.1 he with he | he
   ·exact h e he
   ·rw[AF] at he;exact⟨_,he⟩)
theorem mdF_v (es:List PV):∀ e ∈ (mdF es).2,∃ x,e=facV x:=fcN_v _ _ _ _ (by simp)
theorem mdZ_eq {R:FR} (h:R.es.length<=50):mdZ R=some (.D8 [.sl 3 R.es.length 0 R.es.length,.sl 4 (mdF R.es).2.length 0 (mdF R.es).2.length],R.rows++[faR (mdF R.es).1 (mdF R.es).2]):=by
 have hJ:=mdJ_len R.es;have h1:pF3 (lF3 R.es.length R.es.length false [] 0 R)=true:=by
  simp only[pF3,Aa,Ab,AC,CL,C_];omega
 have h2:pF11 (lF11 (faN R.es ((R.es.length:Int)-0).toNat 0 (false,[])).1 (faN R.es ((R.es.length:Int)-0).toNat 0 (false,[])).2 0 0 0 R true [])=true:=by
  show pF11 (lF11 _ (mdJ R.es) 0 0 0 R true [])=true
  simp only[pF11,Aa,Ab,AC,CL,C_];omega
 unfold mdZ;rw[AR,h1,h2,mdF_len];rfl
def EH (A:List PV):Int:=1+dI A 0 3
def D4 (A:List PV):Int:=if EH A=3 then 1 else 1+dI A (aI A 0) 2
def Lj (A B C:List PV):FR:=frO (G9 (EH A) (D4 A) A) A C (vjO B C (G9 (EH A) (D4 A) A) (EH A) (D4 A) (D4 A-0).toNat (hjO B C (G9 (EH A) (D4 A) A) (EH A) (D4 A) (D4 A+1-0).toNat ([],false,0,true)))
def mdU (R:FR) (i j:Int):Int:=bif decide (i=2) then bif decide (j=1) then R.o5 else R.o4 else bif decide (i=1) then bif decide (j=1) then R.o3 else R.o2 else bif decide (j=1) then R.o1 else R.o0
def mdR1 (R:FR) (w h:Int):FR:=bif dI R.L R.a 2==1 then R.isl (dI R.L (aI R.L R.a) w) (dI R.L (aI R.L (aI R.L R.a)) h) (mdU R (dI R.L (aI R.L R.a) w) (dI R.L (aI R.L (aI R.L R.a)) h)) else { R with f:=fI R.f R.L R.a,a:=aI R.L R.a }
def mdR (A B C:List PV):FR:=mdR1 (Lj A B C) (EH A) (D4 A)
def mdE (A B C:List PV):List PV:=(mdR A B C).es
theorem mdWH (A:List PV):1<=EH A/\EH A<=3/\1<=D4 A/\D4 A<=2/\okO (EH A) (D4 A)=true:=by
 have h1:=Iq A 0 (n:=3) (by omega);have h2:=HY A 0 (n:=3) (by omega);have h3:=Iq A (aI A 0) (n:=2) (by omega);have h4:=HY A (aI A 0) (n:=2) (by omega);have e:EH A=1+dI A 0 3:=rfl;unfold okO D4;simp only[Aa,A0,Ab];split <;> omega
theorem mdO_bd (A:List PV):0<=(G9 (EH A) (D4 A) A).2.1/\(G9 (EH A) (D4 A) A).2.1<=11:=by
 have h1:=GV A 0 2;have h2:=ofN_a (EH A) (D4 A) A (EH A-0).toNat 0 (false,a1 A 0 2,0,0,0,0,0,0);have h3:=mdWH A;unfold G9;simp only at h2;omega
theorem mdR0_bd (A B C:List PV):(Lj A B C).es.length<=20/\0<=(Lj A B C).c/\(Lj A B C).c<=200/\0<=(Lj A B C).a/\(Lj A B C).a<=11/\Li (Lj A B C).es:=by
 obtain⟨w1,w2,h1,h2,hok⟩:=mdWH A;obtain⟨a1,a2⟩:=mdO_bd A;have b1:=hjN_bd B C (G9 (EH A) (D4 A) A).2.2.1 (G9 (EH A) (D4 A) A).2.2.2.1 (G9 (EH A) (D4 A) A).2.2.2.2.1 (G9 (EH A) (D4 A) A).2.2.2.2.2.1 (G9 (EH A) (D4 A) A).2.2.2.2.2.2.1 (G9 (EH A) (D4 A) A).2.2.2.2.2.2.2 (EH A) (D4 A) w2 (D4 A+1-0).toNat 0 ([],false,0,true);have b2:=vjN_bd B C (G9 (EH A) (D4 A) A).2.2.1 (G9 (EH A) (D4 A) A).2.2.2.1 (G9 (EH A) (D4 A) A).2.2.2.2.1 (G9 (EH A) (D4 A) A).2.2.2.2.2.1 (G9 (EH A) (D4 A) A).2.2.2.2.2.2.1 (G9 (EH A) (D4 A) A).2.2.2.2.2.2.2 (EH A) (D4 A) w2 (D4 A-0).toNat 0 (hjO B C (G9 (EH A) (D4 A) A) (EH A) (D4 A) (D4 A+1-0).toNat ([],false,0,true));change _<=(vjO B C (G9 (EH A) (D4 A) A) (EH A) (D4 A) (D4 A-0).toNat _).1.length/\_ at b2
 change _<=(hjO B C (G9 (EH A) (D4 A) A) (EH A) (D4 A) (D4 A+1-0).toNat _).1.length/\(hjO B C (G9 (EH A) (D4 A) A) (EH A) (D4 A) (D4 A+1-0).toNat _).1.length<=_/\_<=(hjO B C (G9 (EH A) (D4 A) A) (EH A) (D4 A) (D4 A+1-0).toNat _).2.2.1/\(hjO B C (G9 (EH A) (D4 A) A) (EH A) (D4 A) (D4 A+1-0).toNat _).2.2.1<=_ at b1
 have b3:_/\(vjO B C (G9 (EH A) (D4 A) A) (EH A) (D4 A) (D4 A-0).toNat (hjO B C (G9 (EH A) (D4 A) A) (EH A) (D4 A) (D4 A+1-0).toNat ([],false,0,true))).1.length<=_/\_<=(vjO B C (G9 (EH A) (D4 A) A) (EH A) (D4 A) (D4 A-0).toNat (hjO B C (G9 (EH A) (D4 A) A) (EH A) (D4 A) (D4 A+1-0).toNat ([],false,0,true))).2.2.1/\(vjO B C (G9 (EH A) (D4 A) A) (EH A) (D4 A) (D4 A-0).toNat (hjO B C (G9 (EH A) (D4 A) A) (EH A) (D4 A) (D4 A+1-0).toNat ([],false,0,true))).2.2.1<=_:=b2;simp only[AC] at b1;refine⟨?_,?_,?_,a1,a2,?_⟩
 ·show (vjO _ _ _ _ _ _ _).1.length<=20;omega
 ·show 0<=(vjO _ _ _ _ _ _ _).2.2.1;omega
 ·show (vjO _ _ _ _ _ _ _).2.2.1<=200;omega
 ·exact vjN_e _ _ _ _ _ _ _ _ _ _ _ _ (hjN_e _ _ _ _ _ _ _ _ _ _ _ _ (by intro e he;cases he))
theorem mdX_eq (A B C:List PV):mdX A B C=mdZ (mdR A B C):=by
 obtain⟨w1,w2,h1,h2,hok⟩:=mdWH A;obtain⟨r1,r2,r3,r4,r5,_⟩:=mdR0_bd A B C;obtain⟨a1',a2'⟩:=mdO_bd A;have d1:=Iq A 0 (n:=3) (by omega);have d2:=HY A 0 (n:=3) (by omega);have d3:=Iq A (aI A 0) (n:=2) (by omega);have d4:=HY A (aI A 0) (n:=2) (by omega);have la:=FF A 0;have hw:W (1+dI A 0 3)=EH A:=Dc (by omega) (by omega);have hm:mdM A B C (EH A) (D4 A)=mdZ (mdR A B C):=by
  have la2:=GV A 0 2;have p1:p15 (lO false B false C (EH A) (D4 A) 0 A (false,a1 A 0 2,0,0,0,0,0,0))=true:=by
   simp only[p15,Aa,Ab];exact⟨⟨⟨⟨hok,by omega⟩,by omega⟩,by omega⟩,by omega⟩
  have p2:p28 (l28O B C A (EH A) (D4 A) 0 (G9 (EH A) (D4 A) A) ([],false,0,true))=true:=by
   simp only[p28,Aa,Ab,AC,CL,C_];omega
  have b1:=hjN_bd B C (G9 (EH A) (D4 A) A).2.2.1 (G9 (EH A) (D4 A) A).2.2.2.1 (G9 (EH A) (D4 A) A).2.2.2.2.1 (G9 (EH A) (D4 A) A).2.2.2.2.2.1 (G9 (EH A) (D4 A) A).2.2.2.2.2.2.1 (G9 (EH A) (D4 A) A).2.2.2.2.2.2.2 (EH A) (D4 A) w2 (D4 A+1-0).toNat 0 ([],false,0,true);change _<=(hjO B C (G9 (EH A) (D4 A) A) (EH A) (D4 A) (D4 A+1-0).toNat _).1.length/\(hjO B C (G9 (EH A) (D4 A) A) (EH A) (D4 A) (D4 A+1-0).toNat _).1.length<=_/\_<=(hjO B C (G9 (EH A) (D4 A) A) (EH A) (D4 A) (D4 A+1-0).toNat _).2.2.1/\(hjO B C (G9 (EH A) (D4 A) A) (EH A) (D4 A) (D4 A+1-0).toNat _).2.2.1<=_ at b1
  simp only[AC] at b1;have p3:p35 (l28O B C A (EH A) (D4 A) (hjO B C (G9 (EH A) (D4 A) A) (EH A) (D4 A) (D4 A+1-0).toNat ([],false,0,true)).1.length (G9 (EH A) (D4 A) A) (hjO B C (G9 (EH A) (D4 A) A) (EH A) (D4 A) (D4 A+1-0).toNat ([],false,0,true)))=true:=by
   simp only[p35,Aa,Ab,CL,C_];omega
  unfold mdM;rw[p1,p2,p3];simp only[Am];show mdI (Lj A B C) (EH A) (D4 A)=mdZ (mdR1 (Lj A B C) (EH A) (D4 A))
  generalize Lj A B C=R at r1 r2 r3 r4 r5;have l1:=FF R.L R.a;have l2:=FF R.L (aI R.L R.a);have i1:=Iq R.L (aI R.L R.a) (n:=EH A) (by omega);have i2:=HY R.L (aI R.L R.a) (n:=EH A) (by omega);have j1:=Iq R.L (aI R.L (aI R.L R.a)) (n:=D4 A) (by omega);have j2:=HY R.L (aI R.L (aI R.L R.a)) (n:=D4 A) (by omega);have k1:EE R.a 2=true:=by unfold EE;simp;omega
  have k2:EE (aI R.L R.a) (EH A)=true:=by unfold EE;simp;omega
  have k3:EE (aI R.L (aI R.L R.a)) (D4 A)=true:=by unfold EE;simp;omega
  have k4:okIs R.es.length R.es.length R.es R.c=true:=by
   unfold okIs;simp only[Aa,Ab,CL,C_];omega
  have q:∀ i j o,mdQ R i j o=mdZ (R.isl i j o):=fun i j o=>by
   unfold mdQ;rw[AR,k4];rfl
  unfold mdI mdR1;rw[k1,k2,k3];simp only[Am];cases dI R.L R.a 2==1
  ·rfl
  ·simp only[Am,q];generalize dI R.L (aI R.L R.a) (EH A)=i at i1 i2;generalize dI R.L (aI R.L (aI R.L R.a)) (D4 A)=j at j1 j2;unfold mdU;have hi:i=0\/i=1\/i=2:=by omega
   have hj:j=0\/j=1:=by omega
   rcases hi with rfl | rfl | rfl <;> rcases hj with rfl | rfl <;> rfl
 unfold mdX;rw[show EE (aI A 0) 2=true by unfold EE;simp;omega,hw];simp only[Am];by_cases h3:EH A=3
 ·rw[h3,show ((3:Int)==3)=true from rfl,Am,<- hm];rw[show D4 A=1 by unfold D4;rw[Ai h3],h3]
 ·rw[show (EH A==3)=false by simp[h3],At,<- hm,Dc (n:=1+dI A (aI A 0) 2) (by omega) (by omega),show D4 A=1+dI A (aI A 0) 2 by unfold D4;rw[An h3]]
theorem mdR_bd (A B C:List PV):(mdE A B C).length<=21/\Li (mdE A B C):=by
 obtain⟨r1,r2,r3,r4,r5,r6⟩:=mdR0_bd A B C;unfold mdE mdR mdR1;cases dI (Lj A B C).L (Lj A B C).a 2==1
 ·exact⟨by show (Lj A B C).es.length<=21;omega,r6⟩
 ·refine⟨?_,addE_e r6 ?_⟩
  ·exact A_ (addE_len _ _ _ _ _ _ _) (by omega)
  ·unfold isL;cases dI (Lj A B C).N (aI (Lj A B C).N (Lj A B C).c) 2==1 <;> simp
def nth (ls:List PV) (k:Nat):List PV:=((ls.getD k .any).cellAt 0).getL
def F8 (ls:List PV):List PV:=mdE (nth ls 0) (nth ls 1) (nth ls 2)
def mdNL (ls:List PV):Bool:=(mdR (nth ls 0) (nth ls 1) (nth ls 2)).nl
def FP (ls:List PV):Bool × List PV:=mdF (F8 ls)
theorem mdRun (f:Bool) (ls:List PV) (h:ls.length<=3):∃ H0 H1 H2,runR Try.prog MF4 60 0 53 [.CQ f 38 ls] [] =
  some (.D8 [.sl 3 (F8 ls).length 0 (F8 ls).length,.sl 4 (FP ls).2.length 0 (FP ls).2.length],[H0,H1,H2,edR (mdNL ls) (F8 ls),faR (FP ls).1 (FP ls).2]):=by
 have e:runR Try.prog MF4 60 0 53 [.CQ f 38 ls] []=mdX (nth ls 0) (nth ls 1) (nth ls 2):=by
  match ls,h with
  | [],_=>exact qMd0 f
  | [e0],_=>exact qMd1 f e0
  | [e0,e1],_=>exact qMd2 f e0 e1
  | [e0,e1,e2],_=>exact qMd3 f e0 e1 e2
  | _::_::_::_::_,h=>simp at h
 have hb:=(mdR_bd (nth ls 0) (nth ls 1) (nth ls 2)).1;exact⟨_,_,_,by rw[e,mdX_eq,mdZ_eq (by show (mdE _ _ _).length<=50;omega)];rfl⟩
theorem mdCall (f:Bool) (ls:List PV) (h:ls.length<=3):Hx.CV Try.prog 53/\∀ ro H,ET Try.prog ro 53 [.CQ f 38 ls] H
  (.D8 [.sl H.length (F8 ls).length 0 (F8 ls).length,.sl (H.length+1) (FP ls).2.length 0 (FP ls).2.length]) (H++[edR (mdNL ls) (F8 ls),faR (FP ls).1 (FP ls).2]):=by
 obtain⟨H0,H1,H2,he⟩:=mdRun f ls h;refine newR_call okMF4 (n:=60) (ps:=fun _=>[.sl 3 (F8 ls).length 0 (F8 ls).length,.sl 4 (FP ls).2.length 0 (FP ls).2.length]) (qs:=fun h=>[.sl h (F8 ls).length 0 (F8 ls).length,.sl (h+1) (FP ls).2.length 0 (FP ls).2.length]) (idx:=[3,4]) (by rfl) he (by decide) ?_ rfl ?_ ?_
 ·intro x i hi
  match x,hi with
  | 0,hi=>cases hi;exact⟨_,rfl,rfl⟩
  | 1,hi=>cases hi;exact⟨_,rfl,rfl⟩
  | x+2,hi=>simp at hi
 ·intro r hr e he c hc;simp only[AK,BN,B6] at hr;rcases hr with rfl | rfl
  ·obtain⟨id,f,ps,lf,rt,rfl,_⟩:=(mdR_bd (nth ls 0) (nth ls 1) (nth ls 2)).2 e he;change c ∈ [_,_,_,_] at hc
   simp only[AK,BN,B6] at hc;rcases hc with rfl | rfl | rfl | rfl <;> rfl
  ·obtain⟨x,rfl⟩:=mdF_v _ e he;change c ∈ [_,_,_,_,_] at hc
   simp only[AK,BN,B6] at hc;rcases hc with rfl | rfl | rfl | rfl | rfl <;> rfl
 ·intro h;refine⟨rfl,fun j p q h1 h2 => ?_⟩
  match j,h1,h2 with
  | 0,h1,h2=>cases h1;cases h2;exact .sl (x:=0) rfl
  | 1,h1,h2=>cases h1;cases h2;exact .sl (x:=1) rfl
  | j+2,h1,_=>simp at h1
def cMd (_:Nat) (args:List PV) (H:List Row):Option (DT (PV × List Row)):=
 match args with
 | [.CQ _ 38 ls]=>some (.br (decide (ls.length<=3)) (.leaf (.D8 [.sl H.length (F8 ls).length 0 (F8 ls).length,.sl (H.length+1) (FP ls).2.length 0 (FP ls).2.length],H++[edR (mdNL ls) (F8 ls),faR (FP ls).1 (FP ls).2])) .no)
 | _=>none
theorem oMd (ro:Nat) (args:List PV) (H:List Row) (d:DT (PV × List Row)) (p:PV) (H':List Row) (h:cMd ro args H=some d) (hd:d.run=some (p,H')):ET Try.prog ro 53 args H p H':=by
 unfold cMd at h;split at h
 ·rename_i f ls;cases h;obtain⟨hc,he⟩:=FK hd;cases he;exact (mdCall f ls (AS hc)).2 ro H
 ·cases h
theorem eMd:Hx.CV Try.prog 53:=(mdCall false [] (by simp)).1
noncomputable def MX1:CO:=(((M7.G3 88 3 [(3,159,4)]).G3 88 7 [(1101,155,3)]).Hq 88 10 1001)
theorem okMX1:Ck Try.prog MX1.env:=(((Ia.G3 88 3 [(3,159,4)]).G3 88 7 [(1101,155,3)]).Hq 88 10 1001)
abbrev trR (u:Bool) (ts:List PV):Row:={ es:=ts,s:=4,t:=159,bv:=true,nl:=u }
def shT7:S1:=⟨58,[(0,.CQ 147),(3,.sl 0),(4,C4),(5,.ptr 1 1 0 0),(6,C4)],[.many 159 4,.Gl 159 4 (.agg [C4,.sl 2,C4,C4]),.many 155 3]⟩
abbrev lT7 (f:Bool) (es:List PV) (m r:Nat) (k i:Int) (u:Bool) (ts:List PV) (b0:Int) (n l:Nat) (b1 b2:Int) (v:Bool) (ss:List PV):LS:=([.l f es,.n m,.n r,.i k,.i i],[.l u ts,.i b0,.n n,.n l,.i b1,.i b2,.l v ss])
noncomputable abbrev xT7 (f:Bool) (es:List PV) (m r:Nat) (k:Int) (u:Bool) (ts:List PV) (b0:Int) (n l:Nat) (b1 b2:Int) (v:Bool) (ss:List PV):PX × List PV × List Row:=
 (.exit 2,tm 58 [(0,.CQ f 147 es),(3,.sl 0 m 0 r),(4,iv k),(5,.ptr 1 1 0 0)],(shT7.put (lT7 f es m r k 0 u ts b0 n l b1 b2 v ss)).2)
abbrev DB (es:List PV) (k:Int):List PV:=((es.getD k.toNat .any).cellAt 1).getL
abbrev sptE (e:PV):PV:=.agg [iv (e.cellAt 0).Dn,iv (e.cellAt 1).Dn,iv 1]
theorem qT7 (f:Bool) (es:List PV) (m r:Nat) (k i:Int) (u:Bool) (ts:List PV) (b0:Int) (n l:Nat) (b1 b2:Int) (v:Bool) (ss:List PV):
 CR Try.prog MX1 60 88 (CZ Try.f88 7) [0,3,4,5,6] [0,3,4,5] (shT7.put (lT7 f es m r k i u ts b0 n l b1 b2 v ss)).1 (shT7.put (lT7 f es m r k i u ts b0 n l b1 b2 v ss)).2 =
 bif H8 es k then bif decide (i<((DB es k).length:Int)) then bif H8 es k then bif H8 (DB es k) i then bif true&&decide (ss.length=n)&&decide (n=l)&&decide ((n+1)*24<=140737488355328) then
  some (.normal,shT7.put (lT7 f es m r k (W (i+1)) u ts b0 (n+1) (n+1) b1 b2 (v&&false) (ss++[sptE ((DB es k).getD i.toNat .any)]))) else none else none else none
 else some (xT7 f es m r k u ts b0 n l b1 b2 v ss) else none:=by kernel_rfl
def spN (ps:List PV):Nat->Int->Bool × List PV->Bool × List PV
 | 0,_,s=>s
 | m+1,i,s=>spN ps m (i+1) (s.1&&false,s.2++[sptE (ps.getD i.toNat .any)])
theorem spN_len (ps:List PV):∀ (m:Nat) (i:Int) (s:Bool × List PV),(spN ps m i s).2.length=s.2.length+m
 | 0,_,_=>rfl
 | m+1,i,s=>by
  simp only[spN];rw[spN_len ps m];simp;omega
def pT7:LS->Bool
 | ([.l _ es,.n _,.n _,.i k,.i i],[.l _ _,.i _,.n n,.n l,.i _,.i _,.l _ ss])=>H8 es k&&decide (n=ss.length)&&decide (l=ss.length)&&decide (0<=i)&&decide (i<=((DB es k).length:Int))&&decide ((DB es k).length<=1000)&&decide ((ss.length:Int)=i)
 | _=>false
noncomputable def fT7:LS->DT (PX × List PV × List Row)
 | ([.l f es,.n m,.n r,.i k,.i i],[.l u ts,.i b0,.n _,.n _,.i b1,.i b2,.l v ss]) =>
  .leaf (xT7 f es m r k u ts b0 (DB es k).length (DB es k).length b1 b2 (spN (DB es k) (((DB es k).length:Int)-i).toNat i (v,ss)).1 (spN (DB es k) (((DB es k).length:Int)-i).toNat i (v,ss)).2)
 | _=>.no
def mT7:LS->Nat
 | ([.l _ es,.n _,.n _,.i k,.i i],_)=>(((DB es k).length:Int)-i).toNat
 | _=>0
theorem sT7:∀ s r,pT7 s=true->(fT7 s).run=some r->r.1 ≠ .normal/\(CR Try.prog MX1 60 88 (CZ Try.f88 7) [0,3,4,5,6] [0,3,4,5] (shT7.put s).1 (shT7.put s).2=some r \/
   ∃ s',CR Try.prog MX1 60 88 (CZ Try.f88 7) [0,3,4,5,6] [0,3,4,5] (shT7.put s).1 (shT7.put s).2=some (.normal,shT7.put s')/\pT7 s'=true/\mT7 s'<mT7 s/\(fT7 s').run=some r):=by
 intro t r hp hr;unfold pT7 at hp;split at hp
 ·rename_i f es m r' k i u ts b0 n l b1 b2 v ss;simp only[Aa,Ab] at hp;obtain⟨⟨⟨⟨⟨⟨h0,rfl⟩,rfl⟩,h1⟩,h2⟩,h3⟩,h4⟩:=hp;have hr':=(Ah hr).symm;refine⟨by rw[hr'];simp,?_⟩;have q:=qT7 f es m r' k i u ts b0 ss.length ss.length b1 b2 v ss;rw[show (shT7.put ([.l f es,.n m,.n r',.i k,.i i],[.l u ts,.i b0,.n ss.length,.n ss.length,.i b1,.i b2,.l v ss]))=shT7.put (lT7 f es m r' k i u ts b0 ss.length ss.length b1 b2 v ss) from rfl,q,D1 h0.1 h0.2,Am,Am];by_cases hk:i<((DB es k).length:Int)
  ·obtain⟨j,hj⟩:∃ j,(((DB es k).length:Int)-i).toNat=j+1:=⟨(((DB es k).length:Int)-i).toNat-1,by omega⟩;have hj2:(((DB es k).length:Int)-(i+1)).toNat=j:=by omega
   refine .inr ⟨lT7 f es m r' k (i+1) u ts b0 (ss.length+1) (ss.length+1) b1 b2 (v&&false) (ss++[sptE ((DB es k).getD i.toNat .any)]),?_,?_,by simp only[mT7];omega,?_⟩
   ·rw[Ac hk,D1 h1 hk,Dc (n:=i+1) (by omega) (by omega),Ac (show ss.length=ss.length from rfl),Ac (show (ss.length+1)*24<=140737488355328 by omega)];rfl
   ·simp only[pT7,Aa,Ab,Ar,Ay,AC];exact⟨⟨⟨⟨⟨⟨h0,trivial⟩,trivial⟩,by omega⟩,by omega⟩,h3⟩,by omega⟩
   ·rw[hr',hj];simp only[fT7,hj2,DT.run,spN]
  ·have hz:(((DB es k).length:Int)-i).toNat=0:=by omega
   rw[Aj hk];exact .inl (by rw[hr',hz,show ss.length=(DB es k).length by omega];rfl)
 ·cases hp
noncomputable def MX2:CO:=MX1.C8 88 7 [0,3,4,5,6] [false,true,false] shT7 pT7 fT7
theorem okMX2:Ck Try.prog MX2.env:=
 okMX1.C8 (n:=60) Try.func88 (show Try.f88.body=some (DL Try.f88) by kernel_rfl) (show (loops (DL Try.f88)).filter (fun b=>Ed b==7)=[CZ Try.f88 7] by kernel_rfl) [0,3,4,5,6] [0,3,4,5] [false,true,false] shT7 mT7 sT7
def shT3:S1:=⟨58,[(0,.CQ 147),(3,.sl 0),(4,C4)],[.many 159 4]⟩
abbrev lT3 (f:Bool) (es:List PV) (m r:Nat) (k:Int) (u:Bool) (ts:List PV):LS:=([.l f es,.n m,.n r,.i k],[.l u ts])
noncomputable abbrev xT3 (m r:Nat) (u:Bool) (ts:List PV):PX × List PV × List Row:=(.exit 0,tm 58 [(3,.sl 0 m 0 r)],[trR u ts])
abbrev ssE (es:List PV) (k:Int):List PV:=(spN (DB es k) (((DB es k).length:Int)-0).toNat 0 (true,[])).2
abbrev trE (es:List PV) (k:Int):PV:=.agg [iv ((es.getD k.toNat .any).cellAt 0).Dn,.CQ false 155 (((ssE es k).drop 0).take (DB es k).length),iv ((es.getD k.toNat .any).cellAt 2).Dn,iv ((es.getD k.toNat .any).cellAt 3).Dn]
theorem qT3 (f:Bool) (es:List PV) (m r:Nat) (k:Int) (u:Bool) (ts:List PV):
 CR Try.prog MX2 60 88 (CZ Try.f88 3) [0,3,4] [3] (shT3.put (lT3 f es m r k u ts)).1 (shT3.put (lT3 f es m r k u ts)).2 =
 bif decide (k<(es.length:Int)) then bif H8 es k then bif H8 es k then bif H8 es k then bif pT7 (lT7 f es m r k 0 u ts ((es.getD k.toNat .any).cellAt 0).Dn 0 0 ((es.getD k.toNat .any).cellAt 2).Dn ((es.getD k.toNat .any).cellAt 3).Dn true []) then
  bif ((((ssE es k).length==(DB es k).length)&&true)&&true)&&true then bif true&&decide (ts.length=m)&&decide (m=r)&&decide ((m+1)*48<=140737488355328) then
  some (.normal,shT3.put (lT3 f es (m+1) (m+1) (W (k+1)) (u&&false) (ts++[trE es k]))) else none else none else none else none else none else none
 else some (xT3 m r u ts):=by kernel_rfl
def trN (es:List PV):Nat->Int->Bool × List PV->Bool × List PV
 | 0,_,s=>s
 | m+1,k,s=>trN es m (k+1) (s.1&&false,s.2++[trE es k])
theorem trN_len (es:List PV):∀ (m:Nat) (k:Int) (s:Bool × List PV),(trN es m k s).2.length=s.2.length+m
 | 0,_,_=>rfl
 | m+1,k,s=>by
  simp only[trN];rw[trN_len es m];simp;omega
def smE (es:List PV):Bool:=es.all fun e=>decide (((e.cellAt 1).getL).length<=1000)
theorem smE_at {es:List PV} (h:smE es=true) {k:Int} (h1:0<=k) (h2:k<(es.length:Int)):(DB es k).length<=1000:=by
 unfold DB;rw[AA,Ae (by omega)];exact AS (Ap.1 h _ (Bl _))
def pT3:LS->Bool
 | ([.l _ es,.n m,.n r,.i k],[.l _ ts])=>smE es&&decide (m=ts.length)&&decide (r=ts.length)&&decide (0<=k)&&decide (k<=(es.length:Int))&&decide (es.length<=1000)&&decide ((ts.length:Int)=k)
 | _=>false
noncomputable def fT3:LS->DT (PX × List PV × List Row)
 | ([.l _ es,.n _,.n _,.i k],[.l u ts])=>.leaf (xT3 es.length es.length (trN es ((es.length:Int)-k).toNat k (u,ts)).1 (trN es ((es.length:Int)-k).toNat k (u,ts)).2)
 | _=>.no
def mT3:LS->Nat
 | ([.l _ es,.n _,.n _,.i k],_)=>((es.length:Int)-k).toNat
 | _=>0
theorem ssE_len (es:List PV) (k:Int):(ssE es k).length=(DB es k).length:=by
 unfold ssE;rw[spN_len];simp
theorem sT3:∀ s r,pT3 s=true->(fT3 s).run=some r->r.1 ≠ .normal/\(CR Try.prog MX2 60 88 (CZ Try.f88 3) [0,3,4] [3] (shT3.put s).1 (shT3.put s).2=some r \/
   ∃ s',CR Try.prog MX2 60 88 (CZ Try.f88 3) [0,3,4] [3] (shT3.put s).1 (shT3.put s).2=some (.normal,shT3.put s')/\pT3 s'=true/\mT3 s'<mT3 s/\(fT3 s').run=some r):=by
 intro t r hp hr;unfold pT3 at hp;split at hp
 ·rename_i f es m r' k u ts;simp only[Aa,Ab] at hp;obtain⟨⟨⟨⟨⟨⟨h0,rfl⟩,rfl⟩,h1⟩,h2⟩,h3⟩,h4⟩:=hp;have hr':=(Ah hr).symm;refine⟨by rw[hr'];simp,?_⟩;have q:=qT3 f es ts.length ts.length k u ts;rw[show (shT3.put ([.l f es,.n ts.length,.n ts.length,.i k],[.l u ts]))=shT3.put (lT3 f es ts.length ts.length k u ts) from rfl,q];by_cases hk:k<(es.length:Int)
  ·obtain⟨j,hj⟩:∃ j,((es.length:Int)-k).toNat=j+1:=⟨((es.length:Int)-k).toNat-1,by omega⟩;have hj2:((es.length:Int)-(k+1)).toNat=j:=by omega
   have hs:=smE_at h0 h1 hk;have p7:pT7 (lT7 f es ts.length ts.length k 0 u ts ((es.getD k.toNat .any).cellAt 0).Dn 0 0 ((es.getD k.toNat .any).cellAt 2).Dn ((es.getD k.toNat .any).cellAt 3).Dn true [])=true:=by
    simp only[pT7,Aa,Ab,AC,C_];omega
   refine .inr ⟨lT3 f es (ts.length+1) (ts.length+1) (k+1) (u&&false) (ts++[trE es k]),?_,?_,by simp only[mT3];omega,?_⟩
   ·rw[Ac hk,D1 h1 hk,p7,ssE_len,AR,Dc (n:=k+1) (by omega) (by omega),Ac (show ts.length=ts.length from rfl),Ac (show (ts.length+1)*48<=140737488355328 by omega)];rfl
   ·simp only[pT3,Aa,Ab,Ar,Ay,AC];exact⟨⟨⟨⟨⟨⟨h0,trivial⟩,trivial⟩,by omega⟩,by omega⟩,h3⟩,by omega⟩
   ·rw[hr',hj];simp only[fT3,hj2,DT.run,trN]
  ·have hz:((es.length:Int)-k).toNat=0:=by omega
   rw[Aj hk];exact .inl (by rw[hr',hz,show ts.length=es.length by omega];rfl)
 ·cases hp
noncomputable def MX3:CO:=MX2.C8 88 3 [0,3,4] [false] shT3 pT3 fT3
theorem okMX3:Ck Try.prog MX3.env:=
 okMX2.C8 (n:=60) Try.func88 (show Try.f88.body=some (DL Try.f88) by kernel_rfl) (show (loops (DL Try.f88)).filter (fun b=>Ed b==3)=[CZ Try.f88 3] by kernel_rfl) [0,3,4] [3] [false] shT3 mT3 sT3
def trL (es:List PV):List PV:=(trN es ((es.length:Int)-0).toNat 0 (true,[])).2
theorem qTr (f:Bool) (es:List PV):Dw Try.prog MX3 60 88 [.CQ f 147 es] =
 bif pT3 (lT3 f es 0 0 0 true []) then J0 (trL es) es.length (some (.CQ false 159 (((trL es).drop 0).take es.length))) else none:=by kernel_rfl
theorem trL_len (es:List PV):(trL es).length=es.length:=by
 unfold trL;rw[trN_len];simp
theorem qTrN (f:Bool) {es:List PV} (h:smE es=true) (hl:es.length<=1000):Dw Try.prog MX3 60 88 [.CQ f 147 es]=some (.CQ false 159 (trL es)):=by
 have hp:pT3 (lT3 f es 0 0 0 true [])=true:=by
  simp only[pT3,Aa,Ab,AC,C_];exact⟨⟨⟨⟨h,by omega⟩,by omega⟩,hl⟩,rfl⟩
 rw[qTr,hp,Am,DQ (trL_len es),AM,Bi (by rw[trL_len];exact Ak _)]
def cTrc:List PV->Option (DT PV)
 | [.CQ _ 147 es]=>some (.br (smE es&&decide (es.length<=1000)) (.leaf (.CQ false 159 (trL es))) .no)
 | _=>none
theorem eTrc:Hx.CV Try.prog 88:=(CK okMX3 (n:=60) (qTrN false (es:=[]) rfl (by simp))).1
theorem oTrc (args:List PV) (d:DT PV) (r:PV) (h:cTrc args=some d) (hr:d.run=some r):Da Try.prog 88 args r:=by
 unfold cTrc at h;split at h
 ·rename_i f es;cases h;obtain⟨h1,rfl⟩:=DI hr;rw[Aa,Ab] at h1;exact (CK okMX3 (n:=60) (qTrN f h1.1 h1.2)).2
 ·cases h
abbrev e0 (e:PV):Int:=(e.cellAt 0).Dn
abbrev e1 (e:PV):Int:=(e.cellAt 1).Dn
abbrev e2 (e:PV):Int:=(e.cellAt 2).Dn
abbrev e3 (e:PV):Int:=(e.cellAt 3).Dn
abbrev ptR (x y:Int):Row:=r1 28 2 (FC x y)
def shA7:S1:=⟨120,[(0,.CQ 159),(3,.ptr 0 1 0 0),(4,C4),(5,.bool),(6,C4),(7,C4)],[.one 28 2 (.agg [C4,C4])]⟩
abbrev lA7 (f:Bool) (es:List PV) (z:Int) (zb:Bool) (k i x y:Int):LS:=([.l f es,.i z,.b zb,.i k,.i i],[.i x,.i y])
noncomputable abbrev xA7 (f:Bool) (es:List PV) (z:Int) (zb:Bool) (k x y:Int):PX × List PV × List Row:=(.exit 2,tm 120 [(0,.CQ f 159 es),(3,.ptr 0 1 0 0),(4,iv z),(5,bv zb),(6,iv k)],[ptR x y])
noncomputable abbrev rA7 (f:Bool) (es:List PV) (k x y:Int):PX × List PV × List Row:=(.ret,tm 120 [(0,.CQ f 159 es),(3,.ptr 0 1 0 0),(4,iv 0),(5,bv false),(6,iv k)],[ptR x y])
theorem qA7 (f:Bool) (es:List PV) (z:Int) (zb:Bool) (k i x y:Int):CR Try.prog M7 60 87 (CZ Try.f87 7) [0,3,4,5,6,7] [0,3,4,5,6] (shA7.put (lA7 f es z zb k i x y)).1 (shA7.put (lA7 f es z zb k i x y)).2 =
 bif H8 es k then bif decide (i<((DB es k).length:Int)) then bif H8 es k then bif H8 (DB es k) i then
  bif !bndJ (e0 ((DB es k).getD i.toNat .any)) (e1 ((DB es k).getD i.toNat .any)) (e2 ((DB es k).getD i.toNat .any)) then some (rA7 f es k x y) else some (.normal,shA7.put (lA7 f es z zb k (W (i+1)) x y)) else none else none
 else some (xA7 f es z zb k x y) else none:=by kernel_rfl
def Is:S1:=⟨120,[(0,.CQ 159),(3,.ptr 0 1 0 0),(4,C4),(5,.bool),(8,.bool),(9,.ptr 1 1 0 0),(10,C4),(11,C4)],[.one 28 2 (.agg [C4,C4]),.one 161 7 (.agg [C4,C4,C4,C4,C4,C4,C4])]⟩
structure BR where
 s:Bool
 a:Int
 b:Int
 c:Int
 d:Int
 e:Int
 f:Int
 g:Int
abbrev BR.row (B:BR):Row:=r1 161 7 (.agg [iv B.a,iv B.b,iv B.c,iv B.d,iv B.e,iv B.f,iv B.g])
abbrev lA17 (f:Bool) (es:List PV) (z:Int) (zb:Bool) (k i x y:Int) (B:BR):LS:=([.l f es,.i z,.b zb,.b B.s,.i k,.i i],[.i x,.i y,.i B.a,.i B.b,.i B.c,.i B.d,.i B.e,.i B.f,.i B.g])
noncomputable abbrev xA17 (f:Bool) (es:List PV) (z:Int) (zb:Bool) (k x y:Int) (B:BR):PX × List PV × List Row:=(.exit 6,tm 120 [(0,.CQ f 159 es),(3,.ptr 0 1 0 0),(4,iv z),(5,bv zb),(8,bv B.s),(9,.ptr 1 1 0 0),(10,iv k)],[ptR x y,B.row])
noncomputable abbrev rA17 (f:Bool) (es:List PV) (k x y:Int) (B:BR):PX × List PV × List Row:=(.ret,tm 120 [(0,.CQ f 159 es),(3,.ptr 0 1 0 0),(4,iv 0),(5,bv false),(8,bv B.s),(9,.ptr 1 1 0 0),(10,iv k)],[ptR x y,B.row])
abbrev onE (a b:PV) (x y:Int):Bool:=onJ (e0 a) (e1 a) (e2 a) (e0 b) (e1 b) (e2 b) x y
abbrev rspE (a b:PV) (x y:Int):Int:=rspJ (e0 a) (e1 a) (e2 a) (e0 b) (e1 b) (e2 b) x y
abbrev rsB (a b:PV) (d:Int):BR:=⟨true,e0 a,e1 a,e2 a,e0 b,e1 b,e2 b,d⟩
abbrev byE (B:BR) (a b:PV):Bool:=byJ B.a B.b B.c B.d B.e B.f (e0 a) (e1 a) (e2 a) (e0 b) (e1 b) (e2 b)
noncomputable def nA17 (f:Bool) (es:List PV) (z:Int) (zb:Bool) (k i x y:Int) (B:BR):Option (PX × List PV × List Row):=some (.normal,Is.put (lA17 f es z zb k (W (i+1)) x y B))
noncomputable def gA17 (f:Bool) (es:List PV) (z:Int) (zb:Bool) (k i x y:Int) (B:BR) (r:Int) (a b:PV) (d:Int):Option (PX × List PV × List Row):=
 bif r != 0 then bif !B.s then nA17 f es z zb k i x y (rsB a b d) else bif byE B a b then nA17 f es z zb k i x y (rsB a b d) else nA17 f es z zb k i x y B else nA17 f es z zb k i x y B
abbrev atP (es:List PV) (k i:Int):PV:=(DB es k).getD i.toNat .any
def bnN (ps:List PV):Nat->Int->Bool
 | 0,_=>true
 | m+1,i=>bif bndJ (e0 (ps.getD i.toNat .any)) (e1 (ps.getD i.toNat .any)) (e2 (ps.getD i.toNat .any)) then bnN ps m (i+1) else false
theorem run_brb {α:Type} {c:Bool} {x y r:α} (h:(DT.br c (.leaf x) (.leaf y)).run=some r):r=bif c then x else y:=by
 cases c <;> exact (Ah h).symm
def pA7:LS->Bool
 | ([.l _ es,.i _,.b _,.i k,.i i],[.i _,.i _])=>H8 es k&&decide (0<=i)&&decide (i<=((DB es k).length:Int))&&decide ((DB es k).length<=1000)
 | _=>false
noncomputable def fA7:LS->DT (PX × List PV × List Row)
 | ([.l f es,.i z,.b zb,.i k,.i i],[.i x,.i y])=>.br (bnN (DB es k) (((DB es k).length:Int)-i).toNat i) (.leaf (xA7 f es z zb k x y)) (.leaf (rA7 f es k x y))
 | _=>.no
def mA7:LS->Nat
 | ([.l _ es,.i _,.b _,.i k,.i i],_)=>(((DB es k).length:Int)-i).toNat
 | _=>0
theorem sA7:∀ s r,pA7 s=true->(fA7 s).run=some r->r.1 ≠ .normal/\(CR Try.prog M7 60 87 (CZ Try.f87 7) [0,3,4,5,6,7] [0,3,4,5,6] (shA7.put s).1 (shA7.put s).2=some r \/
   ∃ s',CR Try.prog M7 60 87 (CZ Try.f87 7) [0,3,4,5,6,7] [0,3,4,5,6] (shA7.put s).1 (shA7.put s).2=some (.normal,shA7.put s')/\pA7 s'=true/\mA7 s'<mA7 s/\(fA7 s').run=some r):=by
 intro t r hp hr;unfold pA7 at hp;split at hp
 ·rename_i f es z zb k i x y;simp only[Aa,Ab] at hp;obtain⟨⟨⟨h0,h1⟩,h2⟩,h3⟩:=hp;have hr':=run_brb hr;refine⟨by rw[hr'];cases bnN _ _ _ <;> simp,?_⟩;rw[show (shA7.put ([.l f es,.i z,.b zb,.i k,.i i],[.i x,.i y]))=shA7.put (lA7 f es z zb k i x y) from rfl,qA7 f es z zb k i x y,D1 h0.1 h0.2];simp only[Am];by_cases hk:i<((DB es k).length:Int)
  ·obtain⟨j,hj⟩:∃ j,(((DB es k).length:Int)-i).toNat=j+1:=⟨(((DB es k).length:Int)-i).toNat-1,by omega⟩;have hj2:(((DB es k).length:Int)-(i+1)).toNat=j:=by omega
   rw[Ac hk,D1 h1 hk,Dc (n:=i+1) (by omega) (by omega)];simp only[Am];rw[hj] at hr';simp only[bnN] at hr';cases hb:bndJ (e0 ((DB es k).getD i.toNat .any)) (e1 ((DB es k).getD i.toNat .any)) (e2 ((DB es k).getD i.toNat .any)) with
   | true =>
    rw[hb,Am] at hr';refine .inr ⟨lA7 f es z zb k (i+1) x y,rfl,?_,by simp only[mA7];omega,?_⟩
    ·simp only[pA7,Aa,Ab];omega
    ·rw[hr'];simp only[fA7,hj2];cases bnN (DB es k) j (i+1) <;> rfl
   | false =>
    rw[hb,At,At] at hr';exact .inl (by rw[hr'];rfl)
  ·have hz:(((DB es k).length:Int)-i).toNat=0:=by omega
   rw[Aj hk];exact .inl (by rw[hr',hz];rfl)
 ·cases hp
noncomputable def MY1:CO:=M7.C8 87 7 [0,3,4,5,6,7] [true] shA7 pA7 fA7
theorem okMY1:Ck Try.prog MY1.env:=
 Ia.C8 (n:=60) Try.func87 (show Try.f87.body=some (DL Try.f87) by kernel_rfl) (show (loops (DL Try.f87)).filter (fun b=>Ed b==7)=[CZ Try.f87 7] by kernel_rfl) [0,3,4,5,6,7] [0,3,4,5,6] [true] shA7 mA7 sA7
def shAA:S1:=⟨120,[(0,.CQ 159),(3,.ptr 0 1 0 0),(4,C4),(5,.bool),(6,C4)],[.one 28 2 (.agg [C4,C4])]⟩
abbrev lAA (f:Bool) (es:List PV) (z:Int) (zb:Bool) (k x y:Int):LS:=([.l f es,.i z,.b zb,.i k],[.i x,.i y])
noncomputable abbrev xAA (f:Bool) (es:List PV) (z:Int) (zb:Bool) (x y:Int):PX × List PV × List Row:=(.exit 0,tm 120 [(0,.CQ f 159 es),(3,.ptr 0 1 0 0),(4,iv z),(5,bv zb)],[ptR x y])
noncomputable abbrev rAA (f:Bool) (es:List PV) (x y:Int):PX × List PV × List Row:=(.ret,tm 120 [(0,.CQ f 159 es),(3,.ptr 0 1 0 0),(4,iv 0),(5,bv false)],[ptR x y])
theorem qAA (f:Bool) (es:List PV) (z:Int) (zb:Bool) (k x y:Int):CR Try.prog MY1 60 87 (CZ Try.f87 4) [0,3,4,5,6] [0,3,4,5] (shAA.put (lAA f es z zb k x y)).1 (shAA.put (lAA f es z zb k x y)).2 =
 bif decide (k<(es.length:Int)) then bif pA7 (lA7 f es z zb k 0 x y) then bif bnN (DB es k) (((DB es k).length:Int)-0).toNat 0 then some (.normal,shAA.put (lAA f es z zb (W (k+1)) x y)) else some (rAA f es x y) else none
 else some (xAA f es z zb x y):=by kernel_rfl
def bnA (es:List PV):Nat->Int->Bool
 | 0,_=>true
 | m+1,k=>bif bnN (DB es k) (((DB es k).length:Int)-0).toNat 0 then bnA es m (k+1) else false
def pAA:LS->Bool
 | ([.l _ es,.i _,.b _,.i k],[.i _,.i _])=>smE es&&decide (0<=k)&&decide (k<=(es.length:Int))&&decide (es.length<=1000)
 | _=>false
noncomputable def fAA:LS->DT (PX × List PV × List Row)
 | ([.l f es,.i z,.b zb,.i k],[.i x,.i y])=>.br (bnA es ((es.length:Int)-k).toNat k) (.leaf (xAA f es z zb x y)) (.leaf (rAA f es x y))
 | _=>.no
def mAA:LS->Nat
 | ([.l _ es,.i _,.b _,.i k],_)=>((es.length:Int)-k).toNat
 | _=>0
theorem sAA:∀ s r,pAA s=true->(fAA s).run=some r->r.1 ≠ .normal/\(CR Try.prog MY1 60 87 (CZ Try.f87 4) [0,3,4,5,6] [0,3,4,5] (shAA.put s).1 (shAA.put s).2=some r \/
   ∃ s',CR Try.prog MY1 60 87 (CZ Try.f87 4) [0,3,4,5,6] [0,3,4,5] (shAA.put s).1 (shAA.put s).2=some (.normal,shAA.put s')/\pAA s'=true/\mAA s'<mAA s/\(fAA s').run=some r):=by
 intro t r hp hr;unfold pAA at hp;split at hp
 ·rename_i f es z zb k x y;simp only[Aa,Ab] at hp;obtain⟨⟨⟨h0,h1⟩,h2⟩,h3⟩:=hp;have hr':=run_brb hr;refine⟨by rw[hr'];cases bnA _ _ _ <;> simp,?_⟩;rw[show (shAA.put ([.l f es,.i z,.b zb,.i k],[.i x,.i y]))=shAA.put (lAA f es z zb k x y) from rfl,qAA f es z zb k x y];by_cases hk:k<(es.length:Int)
  ·obtain⟨j,hj⟩:∃ j,((es.length:Int)-k).toNat=j+1:=⟨((es.length:Int)-k).toNat-1,by omega⟩;have hj2:((es.length:Int)-(k+1)).toNat=j:=by omega
   have hs:=smE_at h0 h1 hk;have p7:pA7 (lA7 f es z zb k 0 x y)=true:=by
    simp only[pA7,Aa,Ab];omega
   rw[Ac hk,p7,Dc (n:=k+1) (by omega) (by omega)];simp only[Am];rw[hj] at hr';simp only[bnA] at hr';cases hb:bnN (DB es k) (((DB es k).length:Int)-0).toNat 0 with
   | true =>
    rw[hb,Am] at hr';refine .inr ⟨lAA f es z zb (k+1) x y,rfl,?_,by simp only[mAA];omega,?_⟩
    ·simp only[pAA,Aa,Ab];exact⟨⟨⟨h0,by omega⟩,by omega⟩,h3⟩
    ·rw[hr'];simp only[fAA,hj2];cases bnA es j (k+1) <;> rfl
   | false =>
    rw[hb,At,At] at hr';exact .inl (by rw[hr'];rfl)
  ·have hz:((es.length:Int)-k).toNat=0:=by omega
   rw[Aj hk];exact .inl (by rw[hr',hz];rfl)
 ·cases hp
noncomputable def MY2:CO:=MY1.C8 87 4 [0,3,4,5,6] [true] shAA pAA fAA
theorem okMY2:Ck Try.prog MY2.env:=
 okMY1.C8 (n:=60) Try.func87 (show Try.f87.body=some (DL Try.f87) by kernel_rfl) (show (loops (DL Try.f87)).filter (fun b=>Ed b==4)=[CZ Try.f87 4] by kernel_rfl) [0,3,4,5,6] [0,3,4,5] [true] shAA mAA sAA
def gB (B:BR) (r:Int) (a b:PV) (d:Int):BR:=bif r != 0 then bif !B.s then rsB a b d else bif byE B a b then rsB a b d else B else B
theorem gA17_eq (f:Bool) (es:List PV) (z:Int) (zb:Bool) (k i x y:Int) (B:BR) (r:Int) (a b:PV) (d:Int):gA17 f es z zb k i x y B r a b d=nA17 f es z zb k i x y (gB B r a b d):=by
 unfold gA17 gB;cases r != 0 <;> cases !B.s <;> cases byE B a b <;> rfl
def brS (es:List PV) (k i x y:Int) (B:BR):BR:=
 bif decide (rspE (atP es k i) (atP es k (i+1)) x y<0) then gB B (rspE (atP es k i) (atP es k (i+1)) x y) (atP es k (i+1)) (atP es k i) (e2 (es.getD k.toNat .any)) else gB B (rspE (atP es k i) (atP es k (i+1)) x y) (atP es k i) (atP es k (i+1)) (e3 (es.getD k.toNat .any))
def brN (es:List PV) (k x y:Int):Nat->Int->BR->Bool × BR
 | 0,_,B=>(true,B)
 | m+1,i,B=>bif onE (atP es k i) (atP es k (i+1)) x y then (false,B) else brN es k x y m (i+1) (brS es k i x y B)
def pA17:LS->Bool
 | ([.l _ es,.i _,.b _,.b _,.i k,.i i],[.i _,.i _,.i _,.i _,.i _,.i _,.i _,.i _,.i _])=>H8 es k&&decide (0<=i)&&decide (i<=((DB es k).length:Int))&&decide ((DB es k).length<=1000)
 | _=>false
noncomputable def fA17:LS->DT (PX × List PV × List Row)
 | ([.l f es,.i z,.b zb,.b s,.i k,.i i],[.i x,.i y,.i a,.i b,.i c,.i d,.i e,.i f',.i g]) =>
  .br (brN es k x y (((DB es k).length:Int)-1-i).toNat i ⟨s,a,b,c,d,e,f',g⟩).1 (.leaf (xA17 f es z zb k x y (brN es k x y (((DB es k).length:Int)-1-i).toNat i ⟨s,a,b,c,d,e,f',g⟩).2)) (.leaf (rA17 f es k x y (brN es k x y (((DB es k).length:Int)-1-i).toNat i ⟨s,a,b,c,d,e,f',g⟩).2))
 | _=>.no
def mA17:LS->Nat
 | ([.l _ es,.i _,.b _,.b _,.i k,.i i],_)=>(((DB es k).length:Int)-1-i).toNat
 | _=>0
theorem qA17b (f:Bool) (es:List PV) (z:Int) (zb:Bool) (k i x y:Int) (s:Bool) (a b c d e f' g:Int):CR Try.prog MY2 60 87 (CZ Try.f87 17) [0,3,4,5,8,9,10,11] [0,3,4,5,8,9,10] (Is.put (lA17 f es z zb k i x y ⟨s,a,b,c,d,e,f',g⟩)).1 (Is.put (lA17 f es z zb k i x y ⟨s,a,b,c,d,e,f',g⟩)).2 =
 bif H8 es k then bif decide (W (i+1)<((DB es k).length:Int)) then bif H8 es k then bif H8 (DB es k) i then bif H8 es k then bif H8 (DB es k) (W (i+1)) then
  bif onE (atP es k i) (atP es k (W (i+1))) x y then some (rA17 f es k x y ⟨s,a,b,c,d,e,f',g⟩) else
  bif H8 es k then bif decide (rspE (atP es k i) (atP es k (W (i+1))) x y<0) then bif H8 es k then
   gA17 f es z zb k i x y ⟨s,a,b,c,d,e,f',g⟩ (rspE (atP es k i) (atP es k (W (i+1))) x y) (atP es k (W (i+1))) (atP es k i) (e2 (es.getD k.toNat .any)) else none
  else gA17 f es z zb k i x y ⟨s,a,b,c,d,e,f',g⟩ (rspE (atP es k i) (atP es k (W (i+1))) x y) (atP es k i) (atP es k (W (i+1))) (e3 (es.getD k.toNat .any)) else none
 else none else none else none else none else some (xA17 f es z zb k x y ⟨s,a,b,c,d,e,f',g⟩) else none:=by kernel_rfl
theorem sA17:∀ s r,pA17 s=true->(fA17 s).run=some r->r.1 ≠ .normal/\(CR Try.prog MY2 60 87 (CZ Try.f87 17) [0,3,4,5,8,9,10,11] [0,3,4,5,8,9,10] (Is.put s).1 (Is.put s).2=some r \/
   ∃ s',CR Try.prog MY2 60 87 (CZ Try.f87 17) [0,3,4,5,8,9,10,11] [0,3,4,5,8,9,10] (Is.put s).1 (Is.put s).2=some (.normal,Is.put s')/\pA17 s'=true/\mA17 s'<mA17 s/\(fA17 s').run=some r):=by
 intro t r hp hr;unfold pA17 at hp;split at hp
 ·rename_i f es z zb s k i x y a b c d e f' g;simp only[Aa,Ab] at hp;obtain⟨⟨⟨h0,h1⟩,h2⟩,h3⟩:=hp;have hr':=run_brb hr;refine⟨by rw[hr'];cases (brN _ _ _ _ _ _ _).1 <;> simp,?_⟩;have q:CR Try.prog MY2 60 87 (CZ Try.f87 17) [0,3,4,5,8,9,10,11] [0,3,4,5,8,9,10] (Is.put (lA17 f es z zb k i x y ⟨s,a,b,c,d,e,f',g⟩)).1 (Is.put (lA17 f es z zb k i x y ⟨s,a,b,c,d,e,f',g⟩)).2=_:=qA17b f es z zb k i x y s a b c d e f' g;rw[show (Is.put ([.l f es,.i z,.b zb,.b s,.i k,.i i],[.i x,.i y,.i a,.i b,.i c,.i d,.i e,.i f',.i g]))=Is.put (lA17 f es z zb k i x y ⟨s,a,b,c,d,e,f',g⟩) from rfl,q,D1 h0.1 h0.2];simp only[Am,gA17_eq];rw[Dc (n:=i+1) (by omega) (by omega)];by_cases hk:i+1<((DB es k).length:Int)
  ·obtain⟨j,hj⟩:∃ j,(((DB es k).length:Int)-1-i).toNat=j+1:=⟨(((DB es k).length:Int)-1-i).toNat-1,by omega⟩;have hj2:(((DB es k).length:Int)-1-(i+1)).toNat=j:=by omega
   rw[Ac hk,D1 h1 (by omega),D1 (i:=i+1) (by omega) hk];simp only[Am];rw[hj] at hr';simp only[brN] at hr';cases hb:onE (atP es k i) (atP es k (i+1)) x y with
   | true =>
    rw[hb] at hr';simp only[Am,At] at hr';exact .inl (by rw[hr'];rfl)
   | false =>
    rw[hb] at hr';simp only[At] at hr';refine .inr ⟨lA17 f es z zb k (i+1) x y (brS es k i x y ⟨s,a,b,c,d,e,f',g⟩),?_,?_,by simp only[mA17];omega,?_⟩
    ·unfold brS nA17;rw[Dc (n:=i+1) (by omega) (by omega)];simp only[At];cases decide (rspE (atP es k i) (atP es k (i+1)) x y<0) <;> rfl
    ·simp only[pA17,Aa,Ab];omega
    ·rw[hr'];simp only[fA17,hj2];generalize brN es k x y j (i+1) (brS es k i x y ⟨s,a,b,c,d,e,f',g⟩)=w;cases w.1 <;> rfl
  ·have hz:(((DB es k).length:Int)-1-i).toNat=0:=by omega
   rw[Aj hk];exact .inl (by rw[hr',hz];rfl)
 ·cases hp
noncomputable def MY3:CO:=MY2.C8 87 17 [0,3,4,5,8,9,10,11] [true,true] Is pA17 fA17
theorem okMY3:Ck Try.prog MY3.env:=
 okMY2.C8 (n:=60) Try.func87 (show Try.f87.body=some (DL Try.f87) by kernel_rfl) (show (loops (DL Try.f87)).filter (fun b=>Ed b==17)=[CZ Try.f87 17] by kernel_rfl) [0,3,4,5,8,9,10,11] [0,3,4,5,8,9,10] [true,true] Is mA17 sA17
def JR:S1:=⟨120,[(0,.CQ 159),(3,.ptr 0 1 0 0),(4,C4),(5,.bool),(8,.bool),(9,.ptr 1 1 0 0),(10,C4)],[.one 28 2 (.agg [C4,C4]),.one 161 7 (.agg [C4,C4,C4,C4,C4,C4,C4])]⟩
abbrev lA14 (f:Bool) (es:List PV) (z:Int) (zb:Bool) (k x y:Int) (B:BR):LS:=([.l f es,.i z,.b zb,.b B.s,.i k],[.i x,.i y,.i B.a,.i B.b,.i B.c,.i B.d,.i B.e,.i B.f,.i B.g])
noncomputable abbrev xA14 (z:Int) (zb:Bool) (x y:Int) (B:BR):PX × List PV × List Row:=(.exit 4,tm 120 [(4,iv z),(5,bv zb),(9,.ptr 1 1 0 0)],[ptR x y,B.row])
noncomputable abbrev rA14 (x y:Int) (B:BR):PX × List PV × List Row:=(.ret,tm 120 [(4,iv 0),(5,bv false),(9,.ptr 1 1 0 0)],[ptR x y,B.row])
abbrev brM (es:List PV) (k x y:Int) (B:BR):Bool × BR:=brN es k x y (((DB es k).length:Int)-1-0).toNat 0 B
theorem qA14 (f:Bool) (es:List PV) (z:Int) (zb:Bool) (k x y:Int) (s:Bool) (a b c d e f' g:Int):CR Try.prog MY3 60 87 (CZ Try.f87 14) [0,3,4,5,8,9,10] [4,5,9] (JR.put (lA14 f es z zb k x y ⟨s,a,b,c,d,e,f',g⟩)).1 (JR.put (lA14 f es z zb k x y ⟨s,a,b,c,d,e,f',g⟩)).2 =
 bif decide (k<(es.length:Int)) then bif pA17 (lA17 f es z zb k 0 x y ⟨s,a,b,c,d,e,f',g⟩) then
  bif (brM es k x y ⟨s,a,b,c,d,e,f',g⟩).1 then some (.normal,JR.put (lA14 f es z zb (W (k+1)) x y (brM es k x y ⟨s,a,b,c,d,e,f',g⟩).2)) else some (rA14 x y (brM es k x y ⟨s,a,b,c,d,e,f',g⟩).2) else none
 else some (xA14 z zb x y ⟨s,a,b,c,d,e,f',g⟩):=by kernel_rfl
def brA (es:List PV) (x y:Int):Nat->Int->BR->Bool × BR
 | 0,_,B=>(true,B)
 | m+1,k,B=>bif (brM es k x y B).1 then brA es x y m (k+1) (brM es k x y B).2 else (false,(brM es k x y B).2)
def pA14:LS->Bool
 | ([.l _ es,.i _,.b _,.b _,.i k],[.i _,.i _,.i _,.i _,.i _,.i _,.i _,.i _,.i _])=>smE es&&decide (0<=k)&&decide (k<=(es.length:Int))&&decide (es.length<=1000)
 | _=>false
noncomputable def fA14:LS->DT (PX × List PV × List Row)
 | ([.l _ es,.i z,.b zb,.b s,.i k],[.i x,.i y,.i a,.i b,.i c,.i d,.i e,.i f',.i g]) =>
  .br (brA es x y ((es.length:Int)-k).toNat k ⟨s,a,b,c,d,e,f',g⟩).1 (.leaf (xA14 z zb x y (brA es x y ((es.length:Int)-k).toNat k ⟨s,a,b,c,d,e,f',g⟩).2)) (.leaf (rA14 x y (brA es x y ((es.length:Int)-k).toNat k ⟨s,a,b,c,d,e,f',g⟩).2))
 | _=>.no
def mA14:LS->Nat
 | ([.l _ es,.i _,.b _,.b _,.i k],_)=>((es.length:Int)-k).toNat
 | _=>0
theorem sA14:∀ s r,pA14 s=true->(fA14 s).run=some r->r.1 ≠ .normal/\(CR Try.prog MY3 60 87 (CZ Try.f87 14) [0,3,4,5,8,9,10] [4,5,9] (JR.put s).1 (JR.put s).2=some r \/
   ∃ s',CR Try.prog MY3 60 87 (CZ Try.f87 14) [0,3,4,5,8,9,10] [4,5,9] (JR.put s).1 (JR.put s).2=some (.normal,JR.put s')/\pA14 s'=true/\mA14 s'<mA14 s/\(fA14 s').run=some r):=by
 intro t r hp hr;unfold pA14 at hp;split at hp
 ·rename_i f es z zb s k x y a b c d e f' g;simp only[Aa,Ab] at hp;obtain⟨⟨⟨h0,h1⟩,h2⟩,h3⟩:=hp;have hr':=run_brb hr;refine⟨by rw[hr'];cases (brA _ _ _ _ _ _).1 <;> simp,?_⟩;rw[show (JR.put ([.l f es,.i z,.b zb,.b s,.i k],[.i x,.i y,.i a,.i b,.i c,.i d,.i e,.i f',.i g]))=JR.put (lA14 f es z zb k x y ⟨s,a,b,c,d,e,f',g⟩) from rfl,qA14 f es z zb k x y s a b c d e f' g];by_cases hk:k<(es.length:Int)
  ·obtain⟨j,hj⟩:∃ j,((es.length:Int)-k).toNat=j+1:=⟨((es.length:Int)-k).toNat-1,by omega⟩;have hj2:((es.length:Int)-(k+1)).toNat=j:=by omega
   have hs:=smE_at h0 h1 hk;have p7:pA17 (lA17 f es z zb k 0 x y ⟨s,a,b,c,d,e,f',g⟩)=true:=by
    simp only[pA17,Aa,Ab];omega
   rw[Ac hk,p7,Dc (n:=k+1) (by omega) (by omega)];simp only[Am];rw[hj] at hr';simp only[brA] at hr';generalize brM es k x y ⟨s,a,b,c,d,e,f',g⟩=w at hr';cases hb:w.1 with
   | true =>
    rw[hb,Am] at hr';refine .inr ⟨lA14 f es z zb (k+1) x y w.2,rfl,?_,by simp only[mA14];omega,?_⟩
    ·simp only[pA14,Aa,Ab];exact⟨⟨⟨h0,by omega⟩,by omega⟩,h3⟩
    ·rw[hr'];simp only[fA14,hj2];show (DT.br (brA es x y j (k+1) w.2).1 _ _).run=_
     generalize brA es x y j (k+1) w.2=v;cases v.1 <;> rfl
   | false =>
    rw[hb,At] at hr';simp only[At] at hr';exact .inl (by rw[hr'];rfl)
  ·have hz:((es.length:Int)-k).toNat=0:=by omega
   rw[Aj hk];exact .inl (by rw[hr',hz];rfl)
 ·cases hp
noncomputable def MY4:CO:=MY3.C8 87 14 [0,3,4,5,8,9,10] [true,true] JR pA14 fA14
theorem okMY4:Ck Try.prog MY4.env:=
 okMY3.C8 (n:=60) Try.func87 (show Try.f87.body=some (DL Try.f87) by kernel_rfl) (show (loops (DL Try.f87)).filter (fun b=>Ed b==14)=[CZ Try.f87 14] by kernel_rfl) [0,3,4,5,8,9,10] [4,5,9] [true,true] JR mA14 sA14
abbrev br0:BR:=⟨false,0,0,0,0,0,0,0⟩
theorem qAtT (f:Bool) (es:List PV) (x y:Int):Dw Try.prog MY4 60 87 [.CQ f 159 es,FC x y] =
 bif !bndJ x y 1 then some (.D8 [iv 0,bv false]) else bif pAA (lAA f es 0 false 0 x y) then bif bnA es ((es.length:Int)-0).toNat 0 then
  bif pA14 (lA14 f es 0 false 0 x y br0) then bif (brA es x y ((es.length:Int)-0).toNat 0 br0).1 then some (.D8 [iv (brA es x y ((es.length:Int)-0).toNat 0 br0).2.g,bv true]) else some (.D8 [iv 0,bv false]) else none
 else some (.D8 [iv 0,bv false]) else none:=by kernel_rfl
def atB (es:List PV) (x y:Int):Bool:=bif !bndJ x y 1 then false else bif bnA es ((es.length:Int)-0).toNat 0 then (brA es x y ((es.length:Int)-0).toNat 0 br0).1 else false
def atI (es:List PV) (x y:Int):Int:=bif atB es x y then (brA es x y ((es.length:Int)-0).toNat 0 br0).2.g else 0
theorem qAtTN (f:Bool) {es:List PV} (x y:Int) (h:smE es=true) (hl:es.length<=1000):Dw Try.prog MY4 60 87 [.CQ f 159 es,FC x y]=some (.D8 [iv (atI es x y),bv (atB es x y)]):=by
 have h1:pAA (lAA f es 0 false 0 x y)=true:=by
  simp only[pAA,Aa,Ab];exact⟨⟨⟨h,by omega⟩,by omega⟩,hl⟩
 have h2:pA14 (lA14 f es 0 false 0 x y br0)=true:=by
  simp only[pA14,Aa,Ab];exact⟨⟨⟨h,by omega⟩,by omega⟩,hl⟩
 rw[qAtT,h1,h2];unfold atI atB;cases bndJ x y 1 <;> cases bnA es ((es.length:Int)-0).toNat 0 <;> cases (brA es x y ((es.length:Int)-0).toNat 0 br0).1 <;> rfl
def cAtT:List PV->Option (DT PV)
 | [.CQ _ 159 es,.agg [.val (.int .i64 x),.val (.int .i64 y)]]=>some (.br (smE es&&decide (es.length<=1000)) (.leaf (.D8 [iv (atI es x y),bv (atB es x y)])) .no)
 | _=>none
theorem eAtT:Hx.CV Try.prog 87:=(CK okMY4 (n:=60) (qAtTN false (es:=[]) 0 0 rfl (by simp))).1
theorem oAtT (args:List PV) (d:DT PV) (r:PV) (h:cAtT args=some d) (hr:d.run=some r):Da Try.prog 87 args r:=by
 unfold cAtT at h;split at h
 ·rename_i f es x y;cases h;obtain⟨h1,rfl⟩:=DI hr;rw[Aa,Ab] at h1;exact (CK okMY4 (n:=60) (qAtTN f x y h1.1 h1.2)).2
 ·cases h
theorem trN_all {es:List PV} (h:smE es=true):∀ (m:Nat) (k:Int) (s:Bool × List PV),0<=k->k+m<=(es.length:Int)->(∀ e ∈ s.2,((e.cellAt 1).getL).length<=1000)->∀ e ∈ (trN es m k s).2,((e.cellAt 1).getL).length<=1000
 | 0,_,_,_,_,h2=>h2
 | m+1,k,s,h0,h1,h2=>trN_all h m (k+1) _ (by omega) (by omega) (fun e he=>by
   rcases A5.1 he with he | he
   ·exact h2 e he
   ·rw[AF] at he;subst he;show (((ssE es k).drop 0).take (DB es k).length).length<=1000
    have:=smE_at h h0 (by omega);rw[Az];omega)
theorem trL_sm {es:List PV} (h:smE es=true):smE (trL es)=true:=by
 unfold smE;rw[Ap];intro e he;exact Ac (trN_all h ((es.length:Int)-0).toNat 0 (true,[]) (by omega) (by omega) (by intro e he;cases he) e he)
noncomputable def MZ1:CO:=(M7.DF 88 cTrc).DF 87 cAtT
theorem okMZ1:Ck Try.prog MZ1.env:=(Ia.DF eTrc oTrc).DF eAtT oAtT
theorem qAt (f:Bool) (es:List PV) (x y:Int):Dw Try.prog MZ1 60 79 [.CQ f 147 es,FC x y] =
 bif smE es&&decide (es.length<=1000) then bif smE (trL es)&&decide ((trL es).length<=1000) then some (.D8 [iv (atI (trL es) x y),bv (atB (trL es) x y)]) else none else none:=by kernel_rfl
theorem qAtN (f:Bool) {es:List PV} (x y:Int) (h:smE es=true) (hl:es.length<=1000):Dw Try.prog MZ1 60 79 [.CQ f 147 es,FC x y]=some (.D8 [iv (atI (trL es) x y),bv (atB (trL es) x y)]):=by
 rw[qAt,h,trL_sm h,trL_len,Ac hl];rfl
def cAt:List PV->Option (DT PV)
 | [.CQ _ 147 es,.agg [.val (.int .i64 x),.val (.int .i64 y)]]=>some (.br (smE es&&decide (es.length<=1000)) (.leaf (.D8 [iv (atI (trL es) x y),bv (atB (trL es) x y)])) .no)
 | _=>none
theorem eAt:Hx.CV Try.prog 79:=(CK okMZ1 (n:=60) (qAtN false (es:=[]) 0 0 rfl (by simp))).1
theorem oAt (args:List PV) (d:DT PV) (r:PV) (h:cAt args=some d) (hr:d.run=some r):Da Try.prog 79 args r:=by
 unfold cAt at h;split at h
 ·rename_i f es x y;cases h;obtain⟨h1,rfl⟩:=DI hr;rw[Aa,Ab] at h1;exact (CK okMZ1 (n:=60) (qAtN f x y h1.1 h1.2)).2
 ·cases h
def shFd:S1:=⟨27,[(1,C4),(2,.ptr 0 1 0 0),(4,C4),(5,C4)],[.Gl 73 4 (.agg [.CQ 147,.CQ 106,.CQ 49,.nil])]⟩
abbrev lFd (id z k:Int) (g:Bool) (E:List PV) (f:Bool) (F:List PV) (h:Bool) (D:List PV):LS:=([.i id,.i z,.i k],[.l g E,.l f F,.l h D])
noncomputable abbrev xFd (z:Int) (g:Bool) (E:List PV) (f:Bool) (F:List PV) (h:Bool) (D:List PV):PX × List PV × List Row:=(.exit 0,tm 27 [(4,iv z)],(shFd.put (lFd 0 0 0 g E f F h D)).2)
noncomputable abbrev rFd (z:Int) (g:Bool) (E:List PV) (f:Bool) (F:List PV) (h:Bool) (D:List PV):PX × List PV × List Row:=(.ret,tm 27 [(4,iv z)],(shFd.put (lFd 0 0 0 g E f F h D)).2)
theorem qFd (id z k:Int) (g:Bool) (E:List PV) (f:Bool) (F:List PV) (h:Bool) (D:List PV):CR Try.prog M7 60 80 (CZ Try.f80 2) [1,2,4,5] [4] (shFd.put (lFd id z k g E f F h D)).1 (shFd.put (lFd id z k g E f F h D)).2 =
 bif decide (k<(F.length:Int)) then bif H8 F k then bif ((F.getD k.toNat .any).cellAt 0).Dn==id then bif H8 F k then some (rFd ((F.getD k.toNat .any).cellAt 4).Dn g E f F h D) else none
  else some (.normal,shFd.put (lFd id z (W (k+1)) g E f F h D)) else none
 else some (xFd z g E f F h D):=by kernel_rfl
def fdN (F:List PV) (id:Int):Nat->Int->Option Int
 | 0,_=>none
 | m+1,k=>bif ((F.getD k.toNat .any).cellAt 0).Dn==id then some ((F.getD k.toNat .any).cellAt 4).Dn else fdN F id m (k+1)
def pFd:LS->Bool
 | ([.i _,.i _,.i k],[.l _ _,.l _ F,.l _ _])=>decide (0<=k)&&decide (k<=(F.length:Int))&&decide (F.length<=1000)
 | _=>false
noncomputable def fFd:LS->DT (PX × List PV × List Row)
 | ([.i id,.i z,.i k],[.l g E,.l f F,.l h D])=>.br (fdN F id ((F.length:Int)-k).toNat k).isSome (.leaf (rFd ((fdN F id ((F.length:Int)-k).toNat k).getD 0) g E f F h D)) (.leaf (xFd z g E f F h D))
 | _=>.no
def mFd:LS->Nat
 | ([.i _,.i _,.i k],[.l _ _,.l _ F,.l _ _])=>((F.length:Int)-k).toNat
 | _=>0
theorem sFd:∀ s r,pFd s=true->(fFd s).run=some r->r.1 ≠ .normal/\(CR Try.prog M7 60 80 (CZ Try.f80 2) [1,2,4,5] [4] (shFd.put s).1 (shFd.put s).2=some r \/
   ∃ s',CR Try.prog M7 60 80 (CZ Try.f80 2) [1,2,4,5] [4] (shFd.put s).1 (shFd.put s).2=some (.normal,shFd.put s')/\pFd s'=true/\mFd s'<mFd s/\(fFd s').run=some r):=by
 intro t r hp hr;unfold pFd at hp;split at hp
 ·rename_i id z k g E f F h D;simp only[Aa,Ab] at hp;obtain⟨⟨h1,h2⟩,h3⟩:=hp;have hr':=run_brb hr;refine⟨by rw[hr'];cases (fdN _ _ _ _).isSome <;> simp,?_⟩;rw[show (shFd.put ([.i id,.i z,.i k],[.l g E,.l f F,.l h D]))=shFd.put (lFd id z k g E f F h D) from rfl,qFd];by_cases hk:k<(F.length:Int)
  ·obtain⟨j,hj⟩:∃ j,((F.length:Int)-k).toNat=j+1:=⟨((F.length:Int)-k).toNat-1,by omega⟩;have hj2:((F.length:Int)-(k+1)).toNat=j:=by omega
   rw[Ac hk,D1 h1 hk,Dc (n:=k+1) (by omega) (by omega)];simp only[Am];rw[hj] at hr';simp only[fdN] at hr';cases hb:((F.getD k.toNat .any).cellAt 0).Dn==id with
   | true =>
    rw[hb] at hr';simp only[Am,CF,Bw] at hr';exact .inl (by rw[hr'];rfl)
   | false =>
    rw[hb] at hr';simp only[At] at hr';refine .inr ⟨lFd id z (k+1) g E f F h D,rfl,?_,by simp only[mFd];omega,?_⟩
    ·simp only[pFd,Aa,Ab];omega
    ·rw[hr'];simp only[fFd,hj2];generalize fdN F id j (k+1)=w;cases w <;> rfl
  ·have hz:((F.length:Int)-k).toNat=0:=by omega
   rw[Aj hk];exact .inl (by rw[hr',hz];rfl)
 ·cases hp
noncomputable def MW1:CO:=M7.C8 80 2 [1,2,4,5] [true] shFd pFd fFd
theorem okMW1:Ck Try.prog MW1.env:=
 Ia.C8 (n:=60) Try.func80 (show Try.f80.body=some (DL Try.f80) by kernel_rfl) (show (loops (DL Try.f80)).filter (fun b=>Ed b==2)=[CZ Try.f80 2] by kernel_rfl) [1,2,4,5] [4] [true] shFd mFd sFd
abbrev mapV (g:Bool) (E:List PV) (f:Bool) (F:List PV) (h:Bool) (D:List PV):PV:=.agg [.CQ g 147 E,.CQ f 106 F,.CQ h 49 D,.val (.slice none 0 0)]
theorem qFdr (g:Bool) (E:List PV) (f:Bool) (F:List PV) (h:Bool) (D:List PV) (id:Int):Dw Try.prog MW1 60 80 [mapV g E f F h D,iv id] =
 bif pFd (lFd id 0 0 g E f F h D) then bif (fdN F id ((F.length:Int)-0).toNat 0).isSome then some (iv ((fdN F id ((F.length:Int)-0).toNat 0).getD 0)) else some (iv 0) else none:=by kernel_rfl
def fdV (F:List PV) (id:Int):Int:=(fdN F id ((F.length:Int)-0).toNat 0).getD 0
theorem qFdrN (g:Bool) (E:List PV) (f:Bool) {F:List PV} (h:Bool) (D:List PV) (id:Int) (hl:F.length<=1000):Dw Try.prog MW1 60 80 [mapV g E f F h D,iv id]=some (iv (fdV F id)):=by
 have h1:pFd (lFd id 0 0 g E f F h D)=true:=by
  simp only[pFd,Aa,Ab];omega
 rw[qFdr,h1];unfold fdV;cases fdN F id ((F.length:Int)-0).toNat 0 <;> rfl
def cFdr:List PV->Option (DT PV)
 | [.agg [.CQ _ 147 _,.CQ _ 106 F,.CQ _ 49 _,.val (.slice none 0 0)],.val (.int .i64 id)]=>some (.br (decide (F.length<=1000)) (.leaf (iv (fdV F id))) .no)
 | _=>none
theorem eFdr:Hx.CV Try.prog 80:=(CK okMW1 (n:=60) (qFdrN false [] false (F:=[]) false [] 0 (by simp))).1
theorem oFdr (args:List PV) (d:DT PV) (r:PV) (h:cFdr args=some d) (hr:d.run=some r):Da Try.prog 80 args r:=by
 unfold cFdr at h;split at h
 ·rename_i g E f F h' D id;cases h;obtain⟨h1,rfl⟩:=DI hr;exact (CK okMW1 (n:=60) (qFdrN g E f h' D id (AS h1))).2
 ·cases h
theorem qPart (f:Bool) (ls:List PV) (k:Int):Dw Try.prog M7 60 54 [.CQ f 38 ls,iv k] =
 bif decide (k ≥ (ls.length:Int)) then some (.val (.slice none 0 0)) else bif H8 ls k then some (.CQ false 3 ((ls.getD k.toNat .any).cellAt 0).getL) else none:=by kernel_rfl
theorem nth_out {ls:List PV} {k:Nat} (h:ls.length<=k):nth ls k=[]:=by
 unfold nth;rw[AA,AD h];rfl
def cPart:List PV->Option (DT PV)
 | [.CQ _ 38 ls,.val (.int .i64 k)]=>some (.br (decide (0<=k)) (.leaf (.CQ false 3 (nth ls k.toNat))) .no)
 | _=>none
theorem ePart:Hx.CV Try.prog 54:=(CK Ia (n:=60) ((qPart false [] 0).trans (by rfl))).1
theorem oPart (args:List PV) (d:DT PV) (r:PV) (h:cPart args=some d) (hr:d.run=some r):Da Try.prog 54 args r:=by
 unfold cPart at h;split at h
 ·rename_i f ls k;cases h;obtain⟨h1,rfl⟩:=DI hr;have h0:=AS h1;by_cases hk:k ≥ (ls.length:Int)
  ·rw[nth_out (by omega)];exact pcall_nil (CK Ia (n:=60) ((qPart f ls k).trans (by rw[Ac hk];rfl))).2
  ·exact (CK Ia (n:=60) ((qPart f ls k).trans (by rw[Aj hk,D1 h0 (by omega)];rfl))).2
 ·cases h
noncomputable def MW2:CO:=(M7.Hq 77 19 4).LX 77 19 [12,13,14,15,16,17,18,19,20,21,22,23,24,25,26,27,28,29,30,31,32,33,34,35,36,37,38,39,40,41,42,43,44,45,46,47,48,49,50,51,52,53,54,55,56,57,58,59,60,61,62,63,64,65,66,67,68,69,70,71,72,73,74,75,76,77,78,79,80,81,82,83,84,85,86,87,88,89,90,91,92,93,94,95,96,97,98,99,100,101,102,103,104,105,106,107,108,109,110,111,112,113,114,115,116,117,118]
theorem okMW2:Ck Try.prog MW2.env:=(Ia.Hq 77 19 4).LX 77 19 [12,13,14,15,16,17,18,19,20,21,22,23,24,25,26,27,28,29,30,31,32,33,34,35,36,37,38,39,40,41,42,43,44,45,46,47,48,49,50,51,52,53,54,55,56,57,58,59,60,61,62,63,64,65,66,67,68,69,70,71,72,73,74,75,76,77,78,79,80,81,82,83,84,85,86,87,88,89,90,91,92,93,94,95,96,97,98,99,100,101,102,103,104,105,106,107,108,109,110,111,112,113,114,115,116,117,118]
abbrev wyR (nl:Bool) (es:List PV):Row:={ es,s:=8,t:=49,bv:=true,nl }
def shWa:S1:=⟨123,[(0,.sl 0),(4,.ptr 1 1 0 0),(6,.ptr 2 1 0 0),(7,.ptr 3 1 0 0),(11,.ptr 5 1 0 0),(12,C4),(13,C4)],[.many 49 8,.one 103 2 (.agg [.CQ 3,C4]),.one 28 2 aP,.one 28 2 aP,.many 28 2,.Gl 49 8 (.agg [C4,.sl 4,C4,.str,.str,.bool,C4,C4])]⟩
abbrev lWa (n l:Nat) (m k:Int) (nl:Bool) (es:List PV) (f:Bool) (L:List PV) (a ax ay bx b':Int) (u:Bool) (ps:List PV) (id:Int) (p q:Nat) (lv:Int) (s3 s4:ByteArray) (st:Bool) (c6 c7:Int):LS:=
 ([.n n,.n l,.i m,.i k],[.l nl es,.l f L,.i a,.i ax,.i ay,.i bx,.i b',.l u ps,.i id,.n p,.n q,.i lv,.s s3,.s s4,.b st,.i c6,.i c7])
noncomputable abbrev xWa (n l:Nat) (nl:Bool) (es:List PV) (f:Bool) (L:List PV) (a ax ay bx b':Int) (u:Bool) (ps:List PV) (id:Int) (p q:Nat) (lv:Int) (s3 s4:ByteArray) (st:Bool) (c6 c7:Int):PX × List PV × List Row:=
 (.exit 0,tm 123 [(0,.sl 0 n 0 l),(4,.ptr 1 1 0 0),(7,.ptr 3 1 0 0),(11,.ptr 5 1 0 0)],(shWa.put (lWa n l 0 0 nl es f L a ax ay bx b' u ps id p q lv s3 s4 st c6 c7)).2)
def wyP (ax ay bx b' m k d:Int):PV:=FC (bif ax==bx then W (wgA ax (W (bx-ax)) m k+W (d-8)) else wgA ax (W (bx-ax)) m k) (bif ay==b' then W (wgA ay (W (b'-ay)) m k+W (d-8)) else wgA ay (W (b'-ay)) m k)
abbrev roomQ (ps:List PV) (p q:Nat):Bool:=true&&decide (ps.length=p)&&decide (p=q)&&decide ((p+1)*16<=140737488355328)
noncomputable def nWa (n l:Nat) (m k:Int) (nl:Bool) (es:List PV) (f:Bool) (L:List PV) (a ax ay bx b':Int) (u:Bool) (ps:List PV) (id:Int) (p q:Nat) (lv:Int) (s3 s4:ByteArray) (st:Bool) (c6 c7:Int) (X Y:Int):Option (PX × List PV × List Row):=
 bif roomQ ps p q then some (.normal,shWa.put (lWa n l m (W (k+1)) nl es (fI f L a) L (aI L a) ax ay bx b' (u&&false) (ps++[FC X Y]) id (p+1) (p+1) lv s3 s4 st c6 c7)) else none
theorem qWa (n l:Nat) (m k:Int) (nl:Bool) (es:List PV) (f:Bool) (L:List PV) (a ax ay bx b':Int) (u:Bool) (ps:List PV) (id:Int) (p q:Nat) (lv:Int) (s3 s4:ByteArray) (st:Bool) (c6 c7:Int):
 CR Try.prog MW2 60 77 (CZ Try.f77 4) [0,4,6,7,11,12,13] [0,4,7,11] (shWa.put (lWa n l m k nl es f L a ax ay bx b' u ps id p q lv s3 s4 st c6 c7)).1 (shWa.put (lWa n l m k nl es f L a ax ay bx b' u ps id p q lv s3 s4 st c6 c7)).2 =
 bif decide (k<=m) then bif true && !decide (W (m+1)=0) then bif true && !decide (W (m+1)=0) then bif EE a 17 then
  bif ay==b' then
   bif ax==bx then nWa n l m k nl es f L a ax ay bx b' u ps id p q lv s3 s4 st c6 c7 (W (wgA ax (W (bx-ax)) m k+W (dI L a 17-8))) (W (wgA ay (W (b'-ay)) m k+W (dI L a 17-8))) else nWa n l m k nl es f L a ax ay bx b' u ps id p q lv s3 s4 st c6 c7 (wgA ax (W (bx-ax)) m k) (W (wgA ay (W (b'-ay)) m k+W (dI L a 17-8)))
  else
   bif ax==bx then nWa n l m k nl es f L a ax ay bx b' u ps id p q lv s3 s4 st c6 c7 (W (wgA ax (W (bx-ax)) m k+W (dI L a 17-8))) (wgA ay (W (b'-ay)) m k) else nWa n l m k nl es f L a ax ay bx b' u ps id p q lv s3 s4 st c6 c7 (wgA ax (W (bx-ax)) m k) (wgA ay (W (b'-ay)) m k)
 else none else none else none else some (xWa n l nl es f L a ax ay bx b' u ps id p q lv s3 s4 st c6 c7):=by kernel_rfl
def wyL (ax ay bx b' m:Int) (L:List PV):Nat->Int->Int->List PV
 | 0,_,_=>[]
 | j+1,k,a=>wyP ax ay bx b' m k (dI L a 17)::wyL ax ay bx b' m L j (k+1) (aI L a)
theorem wyL_len {ax ay bx b' m:Int} {L:List PV}:∀ {j:Nat} {k a:Int},(wyL ax ay bx b' m L j k a).length=j
 | 0,_,_=>rfl
 | j+1,k,a=>by rw[wyL,Ay,wyL_len]
def pWa:LS->Bool
 | ([.n _,.n _,.i m,.i k],[.l _ _,.l _ _,.i a,.i _,.i _,.i _,.i _,.l u ps,.i _,.n p,.n q,.i _,.s _,.s _,.b _,.i _,.i _])=>decide (p=ps.length)&&decide (q=ps.length)&&decide (0<=m)&&decide (m<=2)&&decide (1<=k)&&decide (k<=m+1)&&decide ((ps.length:Int)<=10+k)&&decide (0<=a)&&decide (a<=1000000000+k) && !u
 | _=>false
noncomputable def fWa:LS->DT (PX × List PV × List Row)
 | ([.n n,.n l,.i m,.i k],[.l nl es,.l f L,.i a,.i ax,.i ay,.i bx,.i b',.l _ ps,.i id,.n _,.n _,.i lv,.s s3,.s s4,.b st,.i c6,.i c7]) =>
  .leaf (xWa n l nl es (f1 f L a (m+1-k).toNat) L (a1 L a (m+1-k).toNat) ax ay bx b' false (ps++wyL ax ay bx b' m L (m+1-k).toNat k a) id (ps.length+(m+1-k).toNat) (ps.length+(m+1-k).toNat) lv s3 s4 st c6 c7)
 | _=>.no
def mWa:LS->Nat
 | ([.n _,.n _,.i m,.i k],_)=>(m+1-k).toNat
 | _=>0
theorem sWa:∀ s r,pWa s=true->(fWa s).run=some r->r.1 ≠ .normal/\(CR Try.prog MW2 60 77 (CZ Try.f77 4) [0,4,6,7,11,12,13] [0,4,7,11] (shWa.put s).1 (shWa.put s).2=some r \/
   ∃ s',CR Try.prog MW2 60 77 (CZ Try.f77 4) [0,4,6,7,11,12,13] [0,4,7,11] (shWa.put s).1 (shWa.put s).2=some (.normal,shWa.put s')/\pWa s'=true/\mWa s'<mWa s/\(fWa s').run=some r):=by
 intro t r hp hr;unfold pWa at hp;split at hp
 ·rename_i n l m k nl es f L a ax ay bx b' u ps id p q lv s3 s4 st c6 c7;simp only[Aa,Ab,Al] at hp;obtain⟨⟨⟨⟨⟨⟨⟨⟨⟨rfl,rfl⟩,h2⟩,h3⟩,h4⟩,h5⟩,h6⟩,h7⟩,h8⟩,rfl⟩:=hp;have hr':=(Ah hr).symm;refine⟨by rw[hr'];simp,?_⟩;rw[show (shWa.put ([.n n,.n l,.i m,.i k],[.l nl es,.l f L,.i a,.i ax,.i ay,.i bx,.i b',.l false ps,.i id,.n ps.length,.n ps.length,.i lv,.s s3,.s s4,.b st,.i c6,.i c7]))=shWa.put (lWa n l m k nl es f L a ax ay bx b' false ps id ps.length ps.length lv s3 s4 st c6 c7) from rfl,qWa];by_cases hi:k<=m
  ·obtain⟨j,hj⟩:∃ j,(m+1-k).toNat=j+1:=⟨(m+1-k).toNat-1,by omega⟩;have hj2:(m+1-(k+1)).toNat=j:=by omega
   have hroom:roomQ ps ps.length ps.length=true:=by show (true&&_&&_&&_)=true;simp;omega
   have hok:EE a 17=true:=by unfold EE;simp;omega
   have ha:=FF L a;rw[Ac hi,hok,show (!decide (W (m+1)=0))=true by rw[Dc (n:=m+1) (by omega) (by omega)];simp;omega];simp only[Bn,Am];unfold nWa;rw[hroom,Dc (n:=k+1) (by omega) (by omega)];simp only[Am];rw[hj] at hr';simp only[wyL] at hr';refine .inr ⟨lWa n l m (k+1) nl es (fI f L a) L (aI L a) ax ay bx b' (false&&false) (ps++[wyP ax ay bx b' m k (dI L a 17)]) id (ps.length+1) (ps.length+1) lv s3 s4 st c6 c7,?_,?_,by simp only[mWa];omega,?_⟩
   ·unfold wyP;cases ax==bx <;> cases ay==b' <;> rfl
   ·simp only[pWa,Aa,Ab,Ar,Ay,AC,Al,BV];exact⟨⟨⟨⟨⟨⟨⟨⟨⟨trivial,trivial⟩,h2⟩,h3⟩,by omega⟩,by omega⟩,by omega⟩,by omega⟩,by omega⟩,trivial⟩
   ·rw[hr'];simp only[fWa,hj2,DT.run,Ar,Ay,AC,BG,List.cons_append,BM,f1_next,Nd];rw[show ps.length+(0+1)+j=ps.length+(j+1) by omega]
  ·have hz:(m+1-k).toNat=0:=by omega
   rw[Aj hi];exact .inl (by rw[hr',hz];simp only[wyL,BW,Bq,f1,a1];rfl)
 ·cases hp
noncomputable def MW3:CO:=MW2.C8 77 4 [0,4,6,7,11,12,13] [false,true,true,true,false,true] shWa pWa fWa
theorem okMW3:Ck Try.prog MW3.env:=
 okMW2.C8 (n:=60) Try.func77 (show Try.f77.body=some (DL Try.f77) by kernel_rfl) (show (loops (DL Try.f77)).filter (fun b=>Ed b==4)=[CZ Try.f77 4] by kernel_rfl) [0,4,6,7,11,12,13] [0,4,7,11] [false,true,true,true,false,true] shWa mWa sWa
abbrev clsL:List PV:=[.val (.string ⟨#[112,97,116,104]⟩),.val (.string ⟨#[114,111,97,100]⟩)]
abbrev namL:List PV:=[.val (.string ⟨#[]⟩),.val (.string ⟨#[]⟩),.val (.string ⟨#[82,105,110,103]⟩),.val (.string ⟨#[79,108,100,32,87,97,121]⟩)]
def wyM (L:List PV) (a:Int):Nat:=(dI L a 3+1-1).toNat
abbrev Mm (L:List PV) (a:Int):Int:=a1 L (aI L a) (wyM L a)
abbrev wyF (f:Bool) (L:List PV) (a:Int):Bool:=f1 (fI f L a) L (aI L a) (wyM L a)
abbrev wyPs (ax ay bx b':Int) (L:List PV) (a:Int):List PV:=[FC ax ay]++wyL ax ay bx b' (dI L a 3) L (wyM L a) 1 (aI L a)
abbrev wyVr (ps:List PV) (k:Nat) (i lv:Int) (L:List PV) (c:Int):PV:=
 .agg [iv (W (41+i)),.CQ false 28 ((ps.drop 0).take k),iv lv,.val (.string ((clsL.getD (0+(dI L (a1 L c 0) 2).toNat) .any).cellAt 0).It),.val (.string ((namL.getD (0+(dI L (a1 L c 1) 4).toNat) .any).cellAt 0).It),
  bv (dI L (a1 L c 2) 4==0),iv (W (1+dI L (a1 L c 3) 60)),iv (W (1+W (dI L (a1 L c 4) 3*dI L (a1 L c 5) 2)))]
abbrev inDr (L:List PV) (c n:Int):Bool:=decide (0<=dI L c n)&&decide (dI L c n<n)
theorem qWyO (n l:Nat) (nl:Bool) (es:List PV) (ax ay bx b' lv:Int) (f:Bool) (L:List PV) (a:Int):JV Try.prog MW3 60 77 [.sl 0 n 0 l,FC ax ay,FC bx b',iv lv,.ptr 1 1 0 0] [wyR nl es,HC f L a] =
 bif EE a 3 then bif pWa (lWa n l (dI L a 3) 1 nl es (fI f L a) L (aI L a) ax ay bx b' false [FC ax ay] (W (41+(l:Int))) 1 1 lv .empty .empty false 0 0) then
 bif roomQ (wyPs ax ay bx b' L a) (1+wyM L a) (1+wyM L a) then bif EE (a1 L (Mm L a) 0) 2 then bif inDr L (a1 L (Mm L a) 0) 2 then bif EE (a1 L (Mm L a) 1) 4 then bif inDr L (a1 L (Mm L a) 1) 4 then
 bif EE (a1 L (Mm L a) 2) 4 then bif EE (a1 L (Mm L a) 3) 60 then bif EE (a1 L (Mm L a) 4) 3 then bif EE (a1 L (Mm L a) 5) 2 then
 bif ((((wyPs ax ay bx b' L a++[FC bx b']).length==(1+wyM L a)+1)&&true)&&true)&&true then
 bif true&&decide (es.length=n)&&decide (n=l)&&decide ((n+1)*96<=140737488355328) then
  some (.sl 0 (n+1) 0 (n+1),[wyR (nl&&false) (es++[wyVr (wyPs ax ay bx b' L a++[FC bx b']) ((1+wyM L a)+1) (l:Int) lv L (Mm L a)]),HC (f1 (wyF f L a) L (Mm L a) 6) L (a1 L (Mm L a) 6)])
 else none else none else none else none else none else none else none else none else none else none else none else none else none:=by kernel_rfl
theorem wyM_le (L:List PV) (a:Int):wyM L a<=2:=by
 have:=HY L a (n:=3) (by omega);unfold wyM;omega
theorem wyPs_len (ax ay bx b':Int) (L:List PV) (a:Int):(wyPs ax ay bx b' L a).length=1+wyM L a:=by
 rw[Ar,wyL_len];rfl
def wyE (ax ay bx b' lv:Int) (i:Nat) (L:List PV) (a:Int):PV:=
 .agg [iv (41+(i:Int)),.CQ false 28 (wyPs ax ay bx b' L a++[FC bx b']),iv lv,.val (.string ((clsL.getD (0+(dI L (a1 L (Mm L a) 0) 2).toNat) .any).cellAt 0).It),.val (.string ((namL.getD (0+(dI L (a1 L (Mm L a) 1) 4).toNat) .any).cellAt 0).It),
  bv (dI L (a1 L (Mm L a) 2) 4==0),iv (W (1+dI L (a1 L (Mm L a) 3) 60)),iv (W (1+W (dI L (a1 L (Mm L a) 4) 3*dI L (a1 L (Mm L a) 5) 2)))]
def wyS (ax ay bx b' lv:Int) (L:List PV) (s:Ew):Ew:=
 (s.1++[wyE ax ay bx b' lv s.1.length L s.2.2.1],f1 (wyF s.2.1 L s.2.2.1) L (Mm L s.2.2.1) 6,a1 L (Mm L s.2.2.1) 6,false)
theorem wyS_a (ax ay bx b' lv:Int) (L:List PV) (s:Ew):s.2.2.1<=(wyS ax ay bx b' lv L s).2.2.1/\(wyS ax ay bx b' lv L s).2.2.1<=s.2.2.1+9:=by
 have h1:=FF L s.2.2.1;have h2:=GV L (aI L s.2.2.1) (wyM L s.2.2.1);have h3:=GV L (Mm L s.2.2.1) 6;have h4:=wyM_le L s.2.2.1;show _<=a1 L (Mm L s.2.2.1) 6/\a1 L (Mm L s.2.2.1) 6<=_
 change _<=Mm L s.2.2.1/\Mm L s.2.2.1<=_ at h2
 omega
def okWy (n l:Nat) (es:List PV) (a:Int):Bool:=decide (n=es.length)&&decide (l=es.length)&&decide (es.length<=1000)&&decide (0<=a)&&decide (a<=1000000)
theorem qWyN {n l:Nat} {nl:Bool} {es:List PV} (ax ay bx b' lv:Int) {f:Bool} {L:List PV} {a:Int} (h:okWy n l es a=true):JV Try.prog MW3 60 77 [.sl 0 n 0 l,FC ax ay,FC bx b',iv lv,.ptr 1 1 0 0] [wyR nl es,HC f L a] =
  some (.sl 0 (es.length+1) 0 (es.length+1),[wyR false (wyS ax ay bx b' lv L (es,f,a,nl)).1,HC (wyS ax ay bx b' lv L (es,f,a,nl)).2.1 L (wyS ax ay bx b' lv L (es,f,a,nl)).2.2.1]):=by
 unfold okWy at h;simp only[Aa,Ab] at h;obtain⟨⟨⟨⟨rfl,rfl⟩,h1⟩,h2⟩,h3⟩:=h;have i1:=FF L a;have i2:=GV L (aI L a) (wyM L a);have i3:=wyM_le L a;have d1:=Iq L a (n:=3) (by omega);have d2:=HY L a (n:=3) (by omega);change _<=Mm L a/\Mm L a<=_ at i2
 have ok:∀ (k:Nat) (n:Int),k<=6->0<n->n<=100->EE (a1 L (Mm L a) k) n=true:=fun k n hk hn hn2=>by
  have:=GV L (Mm L a) k;unfold EE;simp;omega
 have ind:∀ (k:Nat) (n:Int),0<n->inDr L (a1 L (Mm L a) k) n=true:=fun k n hn=>by
  rw[Aa];exact⟨Ac (Iq _ _ hn),Ac (HY _ _ hn)⟩
 have p1:pWa (lWa es.length es.length (dI L a 3) 1 nl es (fI f L a) L (aI L a) ax ay bx b' false [FC ax ay] (W (41+(es.length:Int))) 1 1 lv .empty .empty false 0 0)=true:=by
  simp only[pWa,Aa,Ab,Ay,AC,Al];exact⟨⟨⟨⟨⟨⟨⟨⟨⟨trivial,trivial⟩,by omega⟩,by omega⟩,by omega⟩,by omega⟩,by omega⟩,by omega⟩,by omega⟩,trivial⟩
 have p2:roomQ (wyPs ax ay bx b' L a) (1+wyM L a) (1+wyM L a)=true:=by
  show (true&&_&&_&&_)=true
  rw[wyPs_len];simp;omega
 have p3:(((((wyPs ax ay bx b' L a++[FC bx b']).length==(1+wyM L a)+1)&&true)&&true)&&true)=true:=by
  rw[Ar,wyPs_len];simp
 rw[qWyO,show EE a 3=true by unfold EE;simp;omega,p1,p2,ok 0 2 (by omega) (by omega) (by omega),ind 0 2 (by omega),ok 1 4 (by omega) (by omega) (by omega),ind 1 4 (by omega),ok 2 4 (by omega) (by omega) (by omega),ok 3 60 (by omega) (by omega) (by omega),ok 4 3 (by omega) (by omega) (by omega),ok 5 2 (by omega) (by omega) (by omega),p3,
  show (true&&decide (es.length=es.length)&&decide (es.length=es.length)&&decide ((es.length+1)*96<=140737488355328))=true by simp;omega]
 simp only[Am];have e1:(((wyPs ax ay bx b' L a++[FC bx b']).drop 0).take ((1+wyM L a)+1))=wyPs ax ay bx b' L a++[FC bx b']:=by
  rw[AM,Bi (by rw[Ar,wyPs_len];simp)]
 have e2:wyVr (wyPs ax ay bx b' L a++[FC bx b']) ((1+wyM L a)+1) (es.length:Int) lv L (Mm L a)=wyE ax ay bx b' lv es.length L a:=by
  unfold wyVr wyE;rw[e1,Dc (n:=41+(es.length:Int)) (by omega) (by omega)]
 rw[e2,BV];rfl
def cWay':List PV->List Row->Option (DT (PV × List Row))
 | [.sl 0 n 0 l,.agg [.val (.int .i64 ax),.val (.int .i64 ay)],.agg [.val (.int .i64 bx),.val (.int .i64 b')],.val (.int .i64 lv),.ptr 1 1 0 0],[⟨es,8,49,true,true,nl,none,false⟩,⟨[.agg [.CQ f 3 L,.val (.int .i64 a)]],2,103,true,true,false,none,false⟩] =>
  some (.br (okWy n l es a) (.leaf (.sl 0 (es.length+1) 0 (es.length+1),[wyR false (wyS ax ay bx b' lv L (es,f,a,nl)).1,HC (wyS ax ay bx b' lv L (es,f,a,nl)).2.1 L (wyS ax ay bx b' lv L (es,f,a,nl)).2.2.1])) .no)
 | _,_=>none
theorem eWay':Hx.CV Try.prog 77:=(Dm okMW3 (qWyN (n:=0) (l:=0) (nl:=false) (es:=[]) 0 0 0 0 0 (f:=false) (L:=[]) (a:=0) (by rfl))).1
theorem oWay' (args:List PV) (H:List Row) (d:DT (PV × List Row)) (q:PV) (H':List Row) (h:cWay' args H=some d) (hd:d.run=some (q,H')):ET Try.prog 0 77 args H q H':=by
 unfold cWay' at h;split at h
 ·rename_i n l ax ay bx b' lv es nl f L a;cases h;obtain⟨hc,he⟩:=FK hd;cases he;exact (Dm okMW3 (qWyN ax ay bx b' lv hc)).2
 ·cases h
def cStp':List PV->Option PV | [.val (.int .i64 i),.val (.int .i64 j)]=>some (FC (W (55+W (80*i))) (W (65+W (70*j)))) | _=>none
theorem oStp' (args:List PV) (r:PV) (h:cStp' args=some r):Hx.CV Try.prog 78/\Da Try.prog 78 args r:=by
 unfold cStp' at h;split at h
 ·rename_i i j;cases h;exact CK Ia (n:=60) (by kernel_rfl)
 ·cases h
noncomputable def MV1:CO:=(((((M7.ER 77 cWay').EC 78 cStp').G3 56 4 [(4,49,8)])))
theorem okMV1:Ck Try.prog MV1.env:=(((((Ia.ER eWay' oWay').EC oStp').G3 56 4 [(4,49,8)])))
abbrev Hu (i:Int):Int:=W (55+W (80*i))
abbrev Hv (j:Int):Int:=W (65+W (70*j))
abbrev drS (L:List PV) (s:Ew):Ew:=(s.1,fI s.2.1 L s.2.2.1,aI L s.2.2.1,s.2.2.2)
def opS (L:List PV) (x0 y0 x1 y1:Int) (s:Ew):Ew:=bif dI L s.2.2.1 2==0 then wyS x0 y0 x1 y1 0 L (drS L s) else drS L s
theorem opS_bd (L:List PV) (x0 y0 x1 y1:Int) (s:Ew):s.1.length<=(opS L x0 y0 x1 y1 s).1.length/\(opS L x0 y0 x1 y1 s).1.length<=s.1.length+1/\s.2.2.1<=(opS L x0 y0 x1 y1 s).2.2.1/\(opS L x0 y0 x1 y1 s).2.2.1<=s.2.2.1+10:=by
 have h1:=FF L s.2.2.1;have h2:=wyS_a x0 y0 x1 y1 0 L (drS L s);have h3:(wyS x0 y0 x1 y1 0 L (drS L s)).1.length=s.1.length+1:=by
  show (s.1++[_]).length=_;simp
 change aI L s.2.2.1<=_/\_<=aI L s.2.2.1+9 at h2
 unfold opS;cases dI L s.2.2.1 2==0
 ·exact⟨Ak _,Nat.le_succ _,h1.1,by show aI L s.2.2.1<=_;omega⟩
 ·simp only[Am];omega
def Lk:S1:=⟨71,[(3,.ptr 0 1 0 0),(4,.sl 1),(5,C4),(6,C4)],[.one 103 2 (.agg [.CQ 3,C4]),.many 49 8]⟩
abbrev lV7 (L:List PV) (n l:Nat) (j i:Int) (s:Ew):LS:=([.n n,.n l,.i j,.i i],[.l s.2.1 L,.i s.2.2.1,.l s.2.2.2 s.1])
abbrev rwV (L:List PV) (s:Ew):List Row:=[HC s.2.1 L s.2.2.1,wyR s.2.2.2 s.1]
noncomputable abbrev xV7 (L:List PV) (n l:Nat) (j:Int) (s:Ew):PX × List PV × List Row:=(.exit 2,tm 71 [(3,.ptr 0 1 0 0),(4,.sl 1 n 0 l),(5,iv j)],rwV L s)
theorem qV7 (L:List PV) (n l:Nat) (j i:Int) (es:List PV) (f:Bool) (a:Int) (nl:Bool):CR Try.prog MV1 60 56 (CZ Try.f56 7) [3,4,5,6] [3,4,5] (Lk.put (lV7 L n l j i (es,f,a,nl))).1 (Lk.put (lV7 L n l j i (es,f,a,nl))).2 =
 bif decide (i<3) then bif EE a 2 then bif dI L a 2==0 then bif es.length==n then bif okWy n l es (aI L a) then
   some (.normal,Lk.put (lV7 L (es.length+1) (es.length+1) j (W (i+1)) (wyS (Hu i) (Hv j) (Hu (W (i+1))) (Hv j) 0 L (drS L (es,f,a,nl))))) else none else none
  else some (.normal,Lk.put (lV7 L n l j (W (i+1)) (drS L (es,f,a,nl)))) else none
 else some (xV7 L n l j (es,f,a,nl)):=by kernel_rfl
def hwN (L:List PV) (j:Int):Nat->Int->Ew->Ew
 | 0,_,s=>s
 | m+1,i,s=>hwN L j m (i+1) (opS L (Hu i) (Hv j) (Hu (i+1)) (Hv j) s)
theorem hwN_bd (L:List PV) (j:Int):∀ (m:Nat) (i:Int) (s:Ew),s.1.length<=(hwN L j m i s).1.length/\(hwN L j m i s).1.length<=s.1.length+m/\s.2.2.1<=(hwN L j m i s).2.2.1/\(hwN L j m i s).2.2.1<=s.2.2.1+10*m
 | 0,_,s=>by simp[hwN]
 | m+1,i,s=>by
  obtain⟨a1,a2,a3,a4⟩:=opS_bd L (Hu i) (Hv j) (Hu (i+1)) (Hv j) s;obtain⟨b1,b2,b3,b4⟩:=hwN_bd L j m (i+1) (opS L (Hu i) (Hv j) (Hu (i+1)) (Hv j) s);simp only[hwN];refine⟨by omega,by omega,by omega,?_⟩;have:((m+1:Nat):Int)=(m:Int)+1:=by simp
  omega
def pV7:LS->Bool
 | ([.n n,.n l,.i j,.i i],[.l _ _,.i a,.l _ es])=>decide (n=es.length)&&decide (l=es.length)&&decide (0<=i)&&decide (i<=3)&&decide (0<=j)&&decide (j<=2)&&decide ((es.length:Int)<=3*j+i)&&decide (0<=a)&&decide (a<=30*j+10*i)
 | _=>false
noncomputable def fV7:LS->DT (PX × List PV × List Row)
 | ([.n _,.n _,.i j,.i i],[.l f L,.i a,.l nl es])=>.leaf (xV7 L (hwN L j (3-i).toNat i (es,f,a,nl)).1.length (hwN L j (3-i).toNat i (es,f,a,nl)).1.length j (hwN L j (3-i).toNat i (es,f,a,nl)))
 | _=>.no
def mV7:LS->Nat
 | ([.n _,.n _,.i _,.i i],_)=>(3-i).toNat
 | _=>0
theorem okWy_of {es:List PV} {a:Int} (h:es.length<=1000) (h0:0<=a) (h1:a<=1000000):okWy es.length es.length es a=true:=by
 unfold okWy;simp only[Aa,Ab];exact⟨⟨⟨⟨trivial,trivial⟩,h⟩,h0⟩,h1⟩
theorem nxV7 {L:List PV} {j i:Int} {es:List PV} {f:Bool} {a:Int} {nl:Bool} (h:i<3) (h0:0<=i) (he:es.length<=100) (ha:0<=a) (ha2:a<=10000):CR Try.prog MV1 60 56 (CZ Try.f56 7) [3,4,5,6] [3,4,5] (Lk.put (lV7 L es.length es.length j i (es,f,a,nl))).1 (Lk.put (lV7 L es.length es.length j i (es,f,a,nl))).2 =
  some (.normal,Lk.put (lV7 L (opS L (Hu i) (Hv j) (Hu (i+1)) (Hv j) (es,f,a,nl)).1.length (opS L (Hu i) (Hv j) (Hu (i+1)) (Hv j) (es,f,a,nl)).1.length j (i+1) (opS L (Hu i) (Hv j) (Hu (i+1)) (Hv j) (es,f,a,nl)))):=by
 have hb:=FF L a;rw[qV7,Ac h,show EE a 2=true by unfold EE;simp;omega,okWy_of (by omega) (by omega) (by omega),AR,Dc (n:=i+1) (by omega) (by omega)];simp only[Am];unfold opS;cases hd:dI L a 2==0
 ·simp only[At]
 ·simp only[Am];have hl:(wyS (Hu i) (Hv j) (Hu (i+1)) (Hv j) 0 L (drS L (es,f,a,nl))).1.length=es.length+1:=by
   show (es++[_]).length=_;simp
  rw[hl]
theorem sV7:∀ s r,pV7 s=true->(fV7 s).run=some r->r.1 ≠ .normal/\(CR Try.prog MV1 60 56 (CZ Try.f56 7) [3,4,5,6] [3,4,5] (Lk.put s).1 (Lk.put s).2=some r \/
   ∃ s',CR Try.prog MV1 60 56 (CZ Try.f56 7) [3,4,5,6] [3,4,5] (Lk.put s).1 (Lk.put s).2=some (.normal,Lk.put s')/\pV7 s'=true/\mV7 s'<mV7 s/\(fV7 s').run=some r):=by
 intro t r hp hr;unfold pV7 at hp;split at hp
 ·rename_i n l j i f L a nl es;simp only[Aa,Ab] at hp;obtain⟨⟨⟨⟨⟨⟨⟨⟨rfl,rfl⟩,h1⟩,h2⟩,h3⟩,h4⟩,h5⟩,h6⟩,h7⟩:=hp;have hr':=(Ah hr).symm;refine⟨by rw[hr'];simp,?_⟩;rw[show Lk.put ([.n es.length,.n es.length,.i j,.i i],[.l f L,.i a,.l nl es])=Lk.put (lV7 L es.length es.length j i (es,f,a,nl)) from rfl];by_cases hi:i<3
  ·obtain⟨k,hk⟩:∃ k,(3-i).toNat=k+1:=⟨(3-i).toNat-1,by omega⟩;have hk2:(3-(i+1)).toNat=k:=by omega
   obtain⟨b1,b2,b3,b4⟩:=opS_bd L (Hu i) (Hv j) (Hu (i+1)) (Hv j) (es,f,a,nl);simp only at b1 b2 b3 b4;refine .inr ⟨_,nxV7 hi h1 (by omega) h6 (by omega),?_,by simp only[mV7];omega,?_⟩
   ·simp only[pV7,Aa,Ab];exact⟨⟨⟨⟨⟨⟨⟨⟨trivial,trivial⟩,by omega⟩,by omega⟩,h3⟩,h4⟩,by omega⟩,by omega⟩,by omega⟩
   ·rw[hr',hk];simp only[fV7,hk2,DT.run,hwN]
  ·have hz:(3-i).toNat=0:=by omega
   rw[qV7,Aj hi];exact .inl (by rw[hr',hz];rfl)
 ·cases hp
noncomputable def MV2:CO:=MV1.C8 56 7 [3,4,5,6] [true,false] Lk pV7 fV7
theorem okMV2:Ck Try.prog MV2.env:=
 okMV1.C8 (n:=60) Try.func56 (show Try.f56.body=some (DL Try.f56) by kernel_rfl) (show (loops (DL Try.f56)).filter (fun b=>Ed b==7)=[CZ Try.f56 7] by kernel_rfl) [3,4,5,6] [3,4,5] [true,false] Lk mV7 sV7
def shV4:S1:=⟨71,[(3,.ptr 0 1 0 0),(4,.sl 1),(5,C4)],[.one 103 2 (.agg [.CQ 3,C4]),.many 49 8]⟩
abbrev lV4 (L:List PV) (n l:Nat) (j:Int) (s:Ew):LS:=([.n n,.n l,.i j],[.l s.2.1 L,.i s.2.2.1,.l s.2.2.2 s.1])
noncomputable abbrev xV4 (L:List PV) (n l:Nat) (s:Ew):PX × List PV × List Row:=(.exit 0,tm 71 [(3,.ptr 0 1 0 0),(4,.sl 1 n 0 l)],rwV L s)
abbrev hw3 (L:List PV) (j:Int) (s:Ew):Ew:=hwN L j (3-0:Int).toNat 0 s
theorem qV4 (L:List PV) (n l:Nat) (j:Int) (es:List PV) (f:Bool) (a:Int) (nl:Bool):CR Try.prog MV2 60 56 (CZ Try.f56 4) [3,4,5] [3,4] (shV4.put (lV4 L n l j (es,f,a,nl))).1 (shV4.put (lV4 L n l j (es,f,a,nl))).2 =
 bif decide (j<2) then bif pV7 (lV7 L n l j 0 (es,f,a,nl)) then some (.normal,shV4.put (lV4 L (hw3 L j (es,f,a,nl)).1.length (hw3 L j (es,f,a,nl)).1.length (W (j+1)) (hw3 L j (es,f,a,nl)))) else none
 else some (xV4 L n l (es,f,a,nl)):=by kernel_rfl
def haN (L:List PV):Nat->Int->Ew->Ew
 | 0,_,s=>s
 | m+1,j,s=>haN L m (j+1) (hw3 L j s)
theorem haN_bd (L:List PV):∀ (m:Nat) (j:Int) (s:Ew),s.1.length<=(haN L m j s).1.length/\(haN L m j s).1.length<=s.1.length+3*m/\s.2.2.1<=(haN L m j s).2.2.1/\(haN L m j s).2.2.1<=s.2.2.1+30*m
 | 0,_,s=>by simp[haN]
 | m+1,j,s=>by
  obtain⟨a1,a2,a3,a4⟩:=hwN_bd L j (3-0:Int).toNat 0 s;obtain⟨b1,b2,b3,b4⟩:=haN_bd L m (j+1) (hw3 L j s);have e3:((3-0:Int)).toNat=3:=rfl;rw[e3] at a1 a2 a3 a4;simp only[haN];change _<=(hw3 L j s).1.length at a1
  change (hw3 L j s).1.length<=_ at a2
  change _<=(hw3 L j s).2.2.1 at a3
  change (hw3 L j s).2.2.1<=_ at a4
  refine⟨by omega,by omega,by omega,?_⟩;have:((m+1:Nat):Int)=(m:Int)+1:=by simp
  omega
def pV4:LS->Bool
 | ([.n n,.n l,.i j],[.l _ _,.i a,.l _ es])=>decide (n=es.length)&&decide (l=es.length)&&decide (0<=j)&&decide (j<=2)&&decide ((es.length:Int)<=3*j)&&decide (0<=a)&&decide (a<=30*j)
 | _=>false
noncomputable def fV4:LS->DT (PX × List PV × List Row)
 | ([.n _,.n _,.i j],[.l f L,.i a,.l nl es])=>.leaf (xV4 L (haN L (2-j).toNat j (es,f,a,nl)).1.length (haN L (2-j).toNat j (es,f,a,nl)).1.length (haN L (2-j).toNat j (es,f,a,nl)))
 | _=>.no
def mV4:LS->Nat
 | ([.n _,.n _,.i j],_)=>(2-j).toNat
 | _=>0
theorem sV4:∀ s r,pV4 s=true->(fV4 s).run=some r->r.1 ≠ .normal/\(CR Try.prog MV2 60 56 (CZ Try.f56 4) [3,4,5] [3,4] (shV4.put s).1 (shV4.put s).2=some r \/
   ∃ s',CR Try.prog MV2 60 56 (CZ Try.f56 4) [3,4,5] [3,4] (shV4.put s).1 (shV4.put s).2=some (.normal,shV4.put s')/\pV4 s'=true/\mV4 s'<mV4 s/\(fV4 s').run=some r):=by
 intro t r hp hr;unfold pV4 at hp;split at hp
 ·rename_i n l j f L a nl es;simp only[Aa,Ab] at hp;obtain⟨⟨⟨⟨⟨⟨rfl,rfl⟩,h1⟩,h2⟩,h3⟩,h4⟩,h5⟩:=hp;have hr':=(Ah hr).symm;refine⟨by rw[hr'];simp,?_⟩;rw[show shV4.put ([.n es.length,.n es.length,.i j],[.l f L,.i a,.l nl es])=shV4.put (lV4 L es.length es.length j (es,f,a,nl)) from rfl,qV4];by_cases hi:j<2
  ·obtain⟨k,hk⟩:∃ k,(2-j).toNat=k+1:=⟨(2-j).toNat-1,by omega⟩;have hk2:(2-(j+1)).toNat=k:=by omega
   obtain⟨b1,b2,b3,b4⟩:=hwN_bd L j (3-0:Int).toNat 0 (es,f,a,nl);have e3:((3-0:Int)).toNat=3:=rfl;rw[e3] at b1 b2 b3 b4;simp only at b1 b2 b3 b4;change _<=(hw3 L j (es,f,a,nl)).1.length at b1
   change (hw3 L j (es,f,a,nl)).1.length<=_ at b2
   change _<=(hw3 L j (es,f,a,nl)).2.2.1 at b3
   change (hw3 L j (es,f,a,nl)).2.2.1<=_ at b4
   have p7:pV7 (lV7 L es.length es.length j 0 (es,f,a,nl))=true:=by
    simp only[pV7,Aa,Ab,CL];omega
   rw[Ac hi,p7,Dc (n:=j+1) (by omega) (by omega)];refine .inr ⟨_,rfl,?_,by simp only[mV4];omega,?_⟩
   ·simp only[pV4,Aa,Ab];exact⟨⟨⟨⟨⟨⟨trivial,trivial⟩,by omega⟩,by omega⟩,by omega⟩,by omega⟩,by omega⟩
   ·rw[hr',hk];simp only[fV4,hk2,DT.run,haN]
  ·have hz:(2-j).toNat=0:=by omega
   rw[Aj hi];exact .inl (by rw[hr',hz];rfl)
 ·cases hp
noncomputable def MV3:CO:=MV2.C8 56 4 [3,4,5] [true,false] shV4 pV4 fV4
theorem okMV3:Ck Try.prog MV3.env:=
 okMV2.C8 (n:=60) Try.func56 (show Try.f56.body=some (DL Try.f56) by kernel_rfl) (show (loops (DL Try.f56)).filter (fun b=>Ed b==4)=[CZ Try.f56 4] by kernel_rfl) [3,4,5] [3,4] [true,false] shV4 mV4 sV4
def Hc:S1:=⟨71,[(3,.ptr 0 1 0 0),(4,.sl 1),(7,C4)],[.one 103 2 (.agg [.CQ 3,C4]),.many 49 8]⟩
abbrev lV12 (L:List PV) (n l:Nat) (i:Int) (s:Ew):LS:=([.n n,.n l,.i i],[.l s.2.1 L,.i s.2.2.1,.l s.2.2.2 s.1])
noncomputable abbrev xV12 (L:List PV) (n l:Nat) (s:Ew):PX × List PV × List Row:=(.exit 4,tm 71 [(3,.ptr 0 1 0 0),(4,.sl 1 n 0 l)],rwV L s)
theorem qV12 (L:List PV) (n l:Nat) (i:Int) (es:List PV) (f:Bool) (a:Int) (nl:Bool):CR Try.prog MV3 60 56 (CZ Try.f56 12) [3,4,7] [3,4] (Hc.put (lV12 L n l i (es,f,a,nl))).1 (Hc.put (lV12 L n l i (es,f,a,nl))).2 =
 bif decide (i<4) then bif decide ((l:Int)<5) then bif EE a 2 then bif dI L a 2==0 then bif es.length==n then bif okWy n l es (aI L a) then
   some (.normal,Hc.put (lV12 L (es.length+1) (es.length+1) (W (i+1)) (wyS (Hu i) (Hv 0) (Hu i) (Hv 1) 0 L (drS L (es,f,a,nl))))) else none else none
  else some (.normal,Hc.put (lV12 L n l (W (i+1)) (drS L (es,f,a,nl)))) else none
 else some (xV12 L n l (es,f,a,nl)) else some (xV12 L n l (es,f,a,nl)):=by kernel_rfl
def vwN (L:List PV):Nat->Int->Ew->Ew
 | 0,_,s=>s
 | m+1,i,s=>bif decide ((s.1.length:Int)<5) then vwN L m (i+1) (opS L (Hu i) (Hv 0) (Hu i) (Hv 1) s) else s
theorem vwN_bd (L:List PV):∀ (m:Nat) (i:Int) (s:Ew),s.1.length<=(vwN L m i s).1.length/\(vwN L m i s).1.length<=s.1.length+m/\s.2.2.1<=(vwN L m i s).2.2.1/\(vwN L m i s).2.2.1<=s.2.2.1+10*m
 | 0,_,s=>by simp[vwN]
 | m+1,i,s=>by
  obtain⟨a1,a2,a3,a4⟩:=opS_bd L (Hu i) (Hv 0) (Hu i) (Hv 1) s;obtain⟨b1,b2,b3,b4⟩:=vwN_bd L m (i+1) (opS L (Hu i) (Hv 0) (Hu i) (Hv 1) s);have:((m+1:Nat):Int)=(m:Int)+1:=by simp
  simp only[vwN];cases decide ((s.1.length:Int)<5)
  ·simp only[At];exact⟨Ak _,by omega,BS _,by omega⟩
  ·simp only[Am];exact⟨by omega,by omega,by omega,by omega⟩
def pV12:LS->Bool
 | ([.n n,.n l,.i i],[.l _ _,.i a,.l _ es])=>decide (n=es.length)&&decide (l=es.length)&&decide (0<=i)&&decide (i<=4)&&decide ((es.length:Int)<=6+i)&&decide (0<=a)&&decide (a<=60+10*i)
 | _=>false
noncomputable def fV12:LS->DT (PX × List PV × List Row)
 | ([.n _,.n _,.i i],[.l f L,.i a,.l nl es])=>.leaf (xV12 L (vwN L (4-i).toNat i (es,f,a,nl)).1.length (vwN L (4-i).toNat i (es,f,a,nl)).1.length (vwN L (4-i).toNat i (es,f,a,nl)))
 | _=>.no
def mV12:LS->Nat
 | ([.n _,.n _,.i i],_)=>(4-i).toNat
 | _=>0
theorem nxV12 {L:List PV} {i:Int} {es:List PV} {f:Bool} {a:Int} {nl:Bool} (h:i<4) (h0:0<=i) (he:(es.length:Int)<5) (ha:0<=a) (ha2:a<=10000):CR Try.prog MV3 60 56 (CZ Try.f56 12) [3,4,7] [3,4] (Hc.put (lV12 L es.length es.length i (es,f,a,nl))).1 (Hc.put (lV12 L es.length es.length i (es,f,a,nl))).2 =
  some (.normal,Hc.put (lV12 L (opS L (Hu i) (Hv 0) (Hu i) (Hv 1) (es,f,a,nl)).1.length (opS L (Hu i) (Hv 0) (Hu i) (Hv 1) (es,f,a,nl)).1.length (i+1) (opS L (Hu i) (Hv 0) (Hu i) (Hv 1) (es,f,a,nl)))):=by
 have hb:=FF L a;rw[qV12,Ac h,Ac he,show EE a 2=true by unfold EE;simp;omega,okWy_of (by omega) (by omega) (by omega),AR,Dc (n:=i+1) (by omega) (by omega)];simp only[Am];unfold opS;cases hd:dI L a 2==0
 ·simp only[At]
 ·simp only[Am];have hl:(wyS (Hu i) (Hv 0) (Hu i) (Hv 1) 0 L (drS L (es,f,a,nl))).1.length=es.length+1:=by
   show (es++[_]).length=_;simp
  rw[hl]
theorem sV12:∀ s r,pV12 s=true->(fV12 s).run=some r->r.1 ≠ .normal/\(CR Try.prog MV3 60 56 (CZ Try.f56 12) [3,4,7] [3,4] (Hc.put s).1 (Hc.put s).2=some r \/
   ∃ s',CR Try.prog MV3 60 56 (CZ Try.f56 12) [3,4,7] [3,4] (Hc.put s).1 (Hc.put s).2=some (.normal,Hc.put s')/\pV12 s'=true/\mV12 s'<mV12 s/\(fV12 s').run=some r):=by
 intro t r hp hr;unfold pV12 at hp;split at hp
 ·rename_i n l i f L a nl es;simp only[Aa,Ab] at hp;obtain⟨⟨⟨⟨⟨⟨rfl,rfl⟩,h1⟩,h2⟩,h5⟩,h6⟩,h7⟩:=hp;have hr':=(Ah hr).symm;refine⟨by rw[hr'];simp,?_⟩;rw[show Hc.put ([.n es.length,.n es.length,.i i],[.l f L,.i a,.l nl es])=Hc.put (lV12 L es.length es.length i (es,f,a,nl)) from rfl];by_cases hi:i<4
  ·obtain⟨k,hk⟩:∃ k,(4-i).toNat=k+1:=⟨(4-i).toNat-1,by omega⟩;have hk2:(4-(i+1)).toNat=k:=by omega
   by_cases hl:(es.length:Int)<5
   ·obtain⟨b1,b2,b3,b4⟩:=opS_bd L (Hu i) (Hv 0) (Hu i) (Hv 1) (es,f,a,nl);simp only at b1 b2 b3 b4;refine .inr ⟨_,nxV12 hi h1 hl h6 (by omega),?_,by simp only[mV12];omega,?_⟩
    ·simp only[pV12,Aa,Ab];exact⟨⟨⟨⟨⟨⟨trivial,trivial⟩,by omega⟩,by omega⟩,by omega⟩,by omega⟩,by omega⟩
    ·rw[hr',hk];simp only[fV12,hk2,DT.run,vwN];rw[Ac hl];rfl
   ·rw[qV12,Ac hi,Aj hl];refine .inl ?_;rw[hr',hk];simp only[vwN];rw[Aj hl];rfl
  ·have hz:(4-i).toNat=0:=by omega
   rw[qV12,Aj hi];exact .inl (by rw[hr',hz];rfl)
 ·cases hp
noncomputable def MV4:CO:=MV3.C8 56 12 [3,4,7] [true,false] Hc pV12 fV12
theorem okMV4:Ck Try.prog MV4.env:=
 okMV3.C8 (n:=60) Try.func56 (show Try.f56.body=some (DL Try.f56) by kernel_rfl) (show (loops (DL Try.f56)).filter (fun b=>Ed b==12)=[CZ Try.f56 12] by kernel_rfl) [3,4,7] [3,4] [true,false] Hc mV12 sV12
noncomputable def wyK (s:Ew) (n:Nat):Option PV:=J0 s.1 n (some (.CQ false 49 ((s.1.drop 0).take n)))
noncomputable def w2 (L:List PV) (s:Ew) (n:Nat):Option PV:=
 bif EE s.2.2.1 4 then bif dI L s.2.2.1 4==0 then bif s.1.length==n then bif okWy n n s.1 (aI L s.2.2.1) then
  wyK (wyS (Hu 1) (Hv 1) (Hu 3) (Hv 0) (-1) L (drS L s)) (s.1.length+1) else none else none else wyK (drS L s) n else none
noncomputable def w1 (L:List PV) (s:Ew) (n:Nat):Option PV:=
 bif EE s.2.2.1 3 then bif dI L s.2.2.1 3==0 then bif EE (aI L s.2.2.1) 2 then bif s.1.length==n then bif okWy n n s.1 (aI L (aI L s.2.2.1)) then
  w2 L (wyS (Hu 0) (Hv 0) (Hu (W (2+dI L (aI L s.2.2.1) 2))) (Hv 1) 1 L (drS L (drS L s))) (s.1.length+1) else none else none else none else w2 L (drS L s) n else none
abbrev ww4 (L:List PV) (f:Bool):Ew:=haN L (2-0:Int).toNat 0 ([],f,0,true)
abbrev ww12 (L:List PV) (f:Bool):Ew:=vwN L (4-0:Int).toNat 0 (ww4 L f)
theorem qWays (f:Bool) (L:List PV):Dw Try.prog MV4 60 56 [.CQ f 3 L] =
 bif pV4 (lV4 L 0 0 0 ([],f,0,true)) then bif pV12 (lV12 L (ww4 L f).1.length (ww4 L f).1.length 0 (ww4 L f)) then w1 L (ww12 L f) (ww12 L f).1.length else none else none:=by kernel_rfl
def wv1 (L:List PV) (s:Ew):Ew:=bif dI L s.2.2.1 3==0 then wyS (Hu 0) (Hv 0) (Hu (W (2+dI L (aI L s.2.2.1) 2))) (Hv 1) 1 L (drS L (drS L s)) else drS L s
def wv2 (L:List PV) (s:Ew):Ew:=bif dI L s.2.2.1 4==0 then wyS (Hu 1) (Hv 1) (Hu 3) (Hv 0) (-1) L (drS L s) else drS L s
def wayL (f:Bool) (L:List PV):List PV:=(wv2 L (wv1 L (ww12 L f))).1
theorem wyS_len (ax ay bx b' lv:Int) (L:List PV) (s:Ew):(wyS ax ay bx b' lv L s).1.length=s.1.length+1:=by
 show (s.1++[_]).length=_;simp
theorem wv1_bd (L:List PV) (s:Ew):s.1.length<=(wv1 L s).1.length/\(wv1 L s).1.length<=s.1.length+1/\s.2.2.1<=(wv1 L s).2.2.1/\(wv1 L s).2.2.1<=s.2.2.1+11:=by
 have h1:=FF L s.2.2.1;have h2:=FF L (aI L s.2.2.1);have h3:=wyS_a (Hu 0) (Hv 0) (Hu (W (2+dI L (aI L s.2.2.1) 2))) (Hv 1) 1 L (drS L (drS L s));have h4:=wyS_len (Hu 0) (Hv 0) (Hu (W (2+dI L (aI L s.2.2.1) 2))) (Hv 1) 1 L (drS L (drS L s));change aI L (aI L s.2.2.1)<=_/\_<=aI L (aI L s.2.2.1)+9 at h3
 change _=s.1.length+1 at h4
 unfold wv1;cases dI L s.2.2.1 3==0
 ·exact⟨Ak _,Nat.le_succ _,h1.1,by show aI L s.2.2.1<=_;omega⟩
 ·simp only[Am];omega
theorem ww_bd (L:List PV) (f:Bool):(ww4 L f).1.length<=6/\0<=(ww4 L f).2.2.1/\(ww4 L f).2.2.1<=60/\(ww12 L f).1.length<=10/\0<=(ww12 L f).2.2.1/\(ww12 L f).2.2.1<=100:=by
 obtain⟨a1,a2,a3,a4⟩:=haN_bd L (2-0:Int).toNat 0 ([],f,0,true);obtain⟨b1,b2,b3,b4⟩:=vwN_bd L (4-0:Int).toNat 0 (ww4 L f);have e2:((2-0:Int)).toNat=2:=rfl;have e4:((4-0:Int)).toNat=4:=rfl;rw[e2] at a2 a4;rw[e4] at b2 b4;simp only[AC] at a2 a3 a4;change (ww4 L f).1.length<=_ at a2
 change _<=(ww4 L f).2.2.1 at a3
 change (ww4 L f).2.2.1<=_ at a4
 change (ww12 L f).1.length<=_ at b2
 change _<=(ww12 L f).2.2.1 at b3
 change (ww12 L f).2.2.1<=_ at b4
 omega
theorem wyK_of {s:Ew} {n:Nat} (h:s.1.length=n):wyK s n=some (.CQ false 49 s.1):=by
 unfold wyK;rw[DQ h,AM,Bi (by omega)]
theorem w2_eq {L:List PV} {s:Ew} (h:s.1.length<=100) (h0:0<=s.2.2.1) (h1:s.2.2.1<=1000):w2 L s s.1.length=some (.CQ false 49 (wv2 L s).1):=by
 have ha:=FF L s.2.2.1;unfold w2 wv2;rw[show EE s.2.2.1 4=true by unfold EE;simp;omega,AR,okWy_of (by omega) (by omega) (by omega)];cases dI L s.2.2.1 4==0
 ·exact wyK_of (s:=drS L s) rfl
 ·exact wyK_of (wyS_len _ _ _ _ _ _ _)
theorem w1_eq {L:List PV} {s:Ew} (h:s.1.length<=90) (h0:0<=s.2.2.1) (h1:s.2.2.1<=900):w1 L s s.1.length=some (.CQ false 49 (wv2 L (wv1 L s)).1):=by
 have ha:=FF L s.2.2.1;have hb:=FF L (aI L s.2.2.1);have hc:=wv1_bd L s;rw[<- w2_eq (L:=L) (s:=wv1 L s) (by omega) (by omega) (by omega)];unfold w1 wv1;rw[show EE s.2.2.1 3=true by unfold EE;simp;omega,show EE (aI L s.2.2.1) 2=true by unfold EE;simp;omega,AR,okWy_of (by omega) (by omega) (by omega)];cases dI L s.2.2.1 3==0
 ·rfl
 ·simp only[Am];rw[wyS_len]
theorem qWaysN (f:Bool) (L:List PV):Dw Try.prog MV4 60 56 [.CQ f 3 L]=some (.CQ false 49 (wayL f L)):=by
 obtain⟨a1,a2,a3,a4,a5,a6⟩:=ww_bd L f;have p4:pV4 (lV4 L 0 0 0 ([],f,0,true))=true:=by
  simp only[pV4,Aa,Ab,AC,CL];omega
 have p12:pV12 (lV12 L (ww4 L f).1.length (ww4 L f).1.length 0 (ww4 L f))=true:=by
  simp only[pV12,Aa,Ab,CL];omega
 rw[qWays,p4,p12];exact w1_eq (by omega) a5 (by omega)
def cWays:List PV->Option (DT PV)
 | [.CQ f 3 L]=>some (.br true (.leaf (.CQ false 49 (wayL f L))) .no)
 | _=>none
theorem eWays:Hx.CV Try.prog 56:=(CK okMV4 (n:=60) (qWaysN false [])).1
theorem oWays (args:List PV) (d:DT PV) (r:PV) (h:cWays args=some d) (hr:d.run=some r):Da Try.prog 56 args r:=by
 unfold cWays at h;split at h
 ·rename_i f L;cases h;obtain⟨_,rfl⟩:=DI hr;exact (CK okMV4 (n:=60) (qWaysN f L)).2
 ·cases h
noncomputable def MP2:CO:=((M7.DF 79 cAt).DF 80 cFdr).G3 57 5 [(6,138,7)]
theorem okMP2:Ck Try.prog MP2.env:=((Ia.DF eAt oAt).DF eFdr oFdr).G3 57 5 [(6,138,7)]
abbrev pclL:List PV:=[.val (.string ⟨#[116,114,101,101]⟩),.val (.string ⟨#[116,114,101,101]⟩),.val (.string ⟨#[115,104,111,112]⟩)]
abbrev pnaL:List PV:=[.val (.string ⟨#[]⟩),.val (.string ⟨#[]⟩),.val (.string ⟨#[71,97,116,101]⟩),.val (.string ⟨#[79,97,107]⟩),.val (.string ⟨#[84,104,101,32,87,101,108,108]⟩)]
def JH:S1:=⟨88,[(2,.ptr 0 1 0 0),(5,.ptr 1 1 0 0),(6,.sl 2),(7,C4),(8,C4)],[.Gl 73 4 (.agg [.CQ 147,.CQ 106,.CQ 49,.nil]),.one 103 2 (.agg [.CQ 3,C4]),.many 138 7]⟩
abbrev lPc (g:Bool) (E:List PV) (fb:Bool) (F:List PV) (h:Bool) (D:List PV) (L:List PV) (n l:Nat) (many k:Int) (s:Ew):LS:=([.n n,.n l,.i many,.i k],[.l g E,.l fb F,.l h D,.l s.2.1 L,.i s.2.2.1,.l s.2.2.2 s.1])
noncomputable abbrev xPc (g:Bool) (E:List PV) (fb:Bool) (F:List PV) (h:Bool) (D:List PV) (L:List PV) (n l:Nat) (s:Ew):PX × List PV × List Row:=
 (.exit 0,tm 88 [(6,.sl 2 n 0 l)],(JH.put (lPc g E fb F h D L n l 0 0 s)).2)
abbrev plX (L:List PV) (a sd:Int):Int:=W (W (90+W (100*dI L (a1 L a 2) 3))+sd)
abbrev plY (L:List PV) (a:Int):Int:=W (W (W (90+W (100*dI L (a1 L a 3) 2))+dI L (a1 L a 4) 51)-25)
abbrev plV (L:List PV) (a:Int) (l:Nat) (x y d:Int):PV:=.agg [iv (W (61+(l:Int))),iv x,iv y,.val (.string ((pclL.getD (0+(dI L (a1 L a 6) 3).toNat) .any).cellAt 0).It),.val (.string ((pnaL.getD (0+(dI L (a1 L a 7) 5).toNat) .any).cellAt 0).It),iv (W (1+dI L (a1 L a 5) 60)),iv d]
noncomputable def plT (g:Bool) (E:List PV) (fb:Bool) (F:List PV) (h:Bool) (D:List PV) (L:List PV) (n l:Nat) (many k:Int) (s:Ew) (x y:Int):Option (PX × List PV × List Row):=
 bif EE (a1 L s.2.2.1 2) 3 then bif EE (a1 L s.2.2.1 3) 2 then bif EE (a1 L s.2.2.1 4) 51 then bif EE (a1 L s.2.2.1 5) 60 then bif EE (a1 L s.2.2.1 6) 3 then bif inDr L (a1 L s.2.2.1 6) 3 then bif EE (a1 L s.2.2.1 7) 5 then bif inDr L (a1 L s.2.2.1 7) 5 then
 bif smE E&&decide (E.length<=1000) then bif decide (F.length<=1000) then bif atB (trL E) x y then bif decide (fdV F (atI (trL E) x y) > 0) then
  bif true&&decide (s.1.length=n)&&decide (n=l)&&decide ((n+1)*72<=140737488355328) then
   some (.normal,JH.put (lPc g E fb F h D L (n+1) (n+1) many (W (k+1)) (s.1++[plV L s.2.2.1 l x y (fdV F (atI (trL E) x y))],f1 s.2.1 L s.2.2.1 8,a1 L s.2.2.1 8,s.2.2.2&&false))) else none
  else some (.normal,JH.put (lPc g E fb F h D L n l many (W (k+1)) (s.1,f1 s.2.1 L s.2.2.1 8,a1 L s.2.2.1 8,s.2.2.2))) else some (.normal,JH.put (lPc g E fb F h D L n l many (W (k+1)) (s.1,f1 s.2.1 L s.2.2.1 8,a1 L s.2.2.1 8,s.2.2.2)))
 else none else none else none else none else none else none else none else none else none else none
theorem qPc (g:Bool) (E:List PV) (fb:Bool) (F:List PV) (h:Bool) (D:List PV) (L:List PV) (n l:Nat) (many k:Int) (ps:List PV) (f:Bool) (a:Int) (nl:Bool):
 CR Try.prog MP2 60 57 (CZ Try.f57 5) [2,5,6,7,8] [6] (JH.put (lPc g E fb F h D L n l many k (ps,f,a,nl))).1 (JH.put (lPc g E fb F h D L n l many k (ps,f,a,nl))).2 =
 bif decide (k<many) then bif EE (a1 L a 0) 10 then bif EE (a1 L a 1) 2 then
  bif dI L (a1 L a 1) 2==1 then plT g E fb F h D L n l many k (ps,f,a,nl) (plX L a (W (0-W (16+dI L (a1 L a 0) 10)))) (plY L a) else plT g E fb F h D L n l many k (ps,f,a,nl) (plX L a (W (16+dI L (a1 L a 0) 10))) (plY L a)
 else none else none else some (xPc g E fb F h D L n l (ps,f,a,nl)):=by kernel_rfl
def plW (L:List PV) (a:Int):Int:=bif dI L (a1 L a 1) 2==1 then plX L a (W (0-W (16+dI L (a1 L a 0) 10))) else plX L a (W (16+dI L (a1 L a 0) 10))
def plS (E F L:List PV) (s:Ew):Ew:=
 bif atB (trL E) (plW L s.2.2.1) (plY L s.2.2.1)&&decide (fdV F (atI (trL E) (plW L s.2.2.1) (plY L s.2.2.1)) > 0) then
  (s.1++[plV L s.2.2.1 s.1.length (plW L s.2.2.1) (plY L s.2.2.1) (fdV F (atI (trL E) (plW L s.2.2.1) (plY L s.2.2.1)))],f1 s.2.1 L s.2.2.1 8,a1 L s.2.2.1 8,s.2.2.2&&false)
 else (s.1,f1 s.2.1 L s.2.2.1 8,a1 L s.2.2.1 8,s.2.2.2)
theorem plS_bd (E F L:List PV) (s:Ew):(plS E F L s).1.length<=s.1.length+1/\s.2.2.1<=(plS E F L s).2.2.1/\(plS E F L s).2.2.1<=s.2.2.1+8:=by
 have h:=GV L s.2.2.1 8;unfold plS;cases atB (trL E) (plW L s.2.2.1) (plY L s.2.2.1)&&decide (fdV F (atI (trL E) (plW L s.2.2.1) (plY L s.2.2.1)) > 0)
 ·exact⟨Nat.le_succ _,h.1,by show a1 L s.2.2.1 8<=_;omega⟩
 ·exact⟨by show (s.1++[_]).length<=_;simp,h.1,by show a1 L s.2.2.1 8<=_;omega⟩
theorem plT_of {g:Bool} {E:List PV} {fb:Bool} {F:List PV} {h:Bool} {D L:List PV} {many k:Int} {ps:List PV} {f:Bool} {a:Int} {nl:Bool} (x:Int) (h0:0<=a) (h1:a<=10000) (hE:smE E=true) (hE2:E.length<=1000) (hF:F.length<=1000) (hk:0<=k) (hk2:k<=100) (hp:ps.length<=100) (hx:plW L a=x):
  plT g E fb F h D L ps.length ps.length many k (ps,f,a,nl) x (plY L a)=some (.normal,JH.put (lPc g E fb F h D L (plS E F L (ps,f,a,nl)).1.length (plS E F L (ps,f,a,nl)).1.length many (k+1) (plS E F L (ps,f,a,nl)))):=by
 have ok:∀ (k:Nat) (n:Int),k<=8->0<n->n<=100->EE (a1 L a k) n=true:=fun k n hk hn hn2=>by
  have:=GV L a k;unfold EE;simp;omega
 have ind:∀ (k:Nat) (n:Int),0<n->inDr L (a1 L a k) n=true:=fun k n hn=>by
  rw[Aa];exact⟨Ac (Iq _ _ hn),Ac (HY _ _ hn)⟩
 unfold plT;rw[ok 2 3 (by omega) (by omega) (by omega),ok 3 2 (by omega) (by omega) (by omega),ok 4 51 (by omega) (by omega) (by omega),ok 5 60 (by omega) (by omega) (by omega),ok 6 3 (by omega) (by omega) (by omega),ind 6 3 (by omega),ok 7 5 (by omega) (by omega) (by omega),ind 7 5 (by omega),hE,Ac hE2,Ac hF,Dc (n:=k+1) (by omega) (by omega),
  show (true&&decide (ps.length=ps.length)&&decide (ps.length=ps.length)&&decide ((ps.length+1)*72<=140737488355328))=true by simp;omega]
 simp only[Am,Bn];subst hx;unfold plS;simp only;generalize hA:atB (trL E) (plW L a) (plY L a)=A;generalize hB:decide (fdV F (atI (trL E) (plW L a) (plY L a)) > 0)=B;cases A <;> cases B <;> simp only[Am,At,BD,BV,Bn,Ar,Ay,AC]
theorem nxPc {g:Bool} {E:List PV} {fb:Bool} {F:List PV} {h:Bool} {D L:List PV} {many k:Int} {ps:List PV} {f:Bool} {a:Int} {nl:Bool} (hm:k<many) (h0:0<=a) (h1:a<=10000) (hE:smE E=true) (hE2:E.length<=1000) (hF:F.length<=1000) (hk:0<=k) (hk2:k<=100) (hp:ps.length<=100):
  CR Try.prog MP2 60 57 (CZ Try.f57 5) [2,5,6,7,8] [6] (JH.put (lPc g E fb F h D L ps.length ps.length many k (ps,f,a,nl))).1 (JH.put (lPc g E fb F h D L ps.length ps.length many k (ps,f,a,nl))).2 =
  some (.normal,JH.put (lPc g E fb F h D L (plS E F L (ps,f,a,nl)).1.length (plS E F L (ps,f,a,nl)).1.length many (k+1) (plS E F L (ps,f,a,nl)))):=by
 have ok:∀ (k:Nat) (n:Int),k<=8->0<n->n<=100->EE (a1 L a k) n=true:=fun k n hk hn hn2=>by
  have:=GV L a k;unfold EE;simp;omega
 rw[qPc,Ac hm,ok 0 10 (by omega) (by omega) (by omega),ok 1 2 (by omega) (by omega) (by omega)];simp only[Am];cases hd:dI L (a1 L a 1) 2==1 with
 | true=>exact plT_of _ h0 h1 hE hE2 hF hk hk2 hp (by unfold plW;rw[hd];rfl)
 | false=>exact plT_of _ h0 h1 hE hE2 hF hk hk2 hp (by unfold plW;rw[hd];rfl)
def plN (E F L:List PV):Nat->Ew->Ew
 | 0,s=>s
 | m+1,s=>plN E F L m (plS E F L s)
def pPc:LS->Bool
 | ([.n n,.n l,.i many,.i k],[.l _ E,.l _ F,.l _ _,.l _ _,.i a,.l _ ps])=>smE E&&decide (n=ps.length)&&decide (l=ps.length)&&decide (E.length<=1000)&&decide (F.length<=1000)&&decide (0<=k)&&decide (k<=many)&&decide (many<=6)&&decide ((ps.length:Int)<=k)&&decide (0<=a)&&decide (a<=10+8*k)
 | _=>false
noncomputable def fPc:LS->DT (PX × List PV × List Row)
 | ([.n _,.n _,.i many,.i k],[.l g E,.l fb F,.l h D,.l f L,.i a,.l nl ps])=>.leaf (xPc g E fb F h D L (plN E F L (many-k).toNat (ps,f,a,nl)).1.length (plN E F L (many-k).toNat (ps,f,a,nl)).1.length (plN E F L (many-k).toNat (ps,f,a,nl)))
 | _=>.no
def mPc:LS->Nat
 | ([.n _,.n _,.i many,.i k],_)=>(many-k).toNat
 | _=>0
theorem sPc:∀ s r,pPc s=true->(fPc s).run=some r->r.1 ≠ .normal/\(CR Try.prog MP2 60 57 (CZ Try.f57 5) [2,5,6,7,8] [6] (JH.put s).1 (JH.put s).2=some r \/
   ∃ s',CR Try.prog MP2 60 57 (CZ Try.f57 5) [2,5,6,7,8] [6] (JH.put s).1 (JH.put s).2=some (.normal,JH.put s')/\pPc s'=true/\mPc s'<mPc s/\(fPc s').run=some r):=by
 intro t r hp hr;unfold pPc at hp;split at hp
 ·rename_i n l many k g E fb F h D f L a nl ps;simp only[Aa,Ab] at hp;obtain⟨⟨⟨⟨⟨⟨⟨⟨⟨⟨h0,rfl⟩,rfl⟩,h1⟩,h2⟩,h3⟩,h4⟩,h5⟩,h6⟩,h7⟩,h8⟩:=hp;have hr':=(Ah hr).symm;refine⟨by rw[hr'];simp,?_⟩;rw[show JH.put ([.n ps.length,.n ps.length,.i many,.i k],[.l g E,.l fb F,.l h D,.l f L,.i a,.l nl ps])=JH.put (lPc g E fb F h D L ps.length ps.length many k (ps,f,a,nl)) from rfl];by_cases hi:k<many
  ·obtain⟨j,hj⟩:∃ j,(many-k).toNat=j+1:=⟨(many-k).toNat-1,by omega⟩;have hj2:(many-(k+1)).toNat=j:=by omega
   obtain⟨b1,b2,b3⟩:=plS_bd E F L (ps,f,a,nl);simp only at b1 b2 b3;refine .inr ⟨_,nxPc hi h7 (by omega) h0 h1 h2 h3 (by omega) (by omega),?_,by simp only[mPc];omega,?_⟩
   ·simp only[pPc,Aa,Ab];exact⟨⟨⟨⟨⟨⟨⟨⟨⟨⟨h0,trivial⟩,trivial⟩,h1⟩,h2⟩,by omega⟩,by omega⟩,h5⟩,by omega⟩,by omega⟩,by omega⟩
   ·rw[hr',hj];simp only[fPc,hj2,DT.run,plN]
  ·have hz:(many-k).toNat=0:=by omega
   rw[qPc,Aj hi];exact .inl (by rw[hr',hz];rfl)
 ·cases hp
noncomputable def MP3:CO:=MP2.C8 57 5 [2,5,6,7,8] [true,true,false] JH pPc fPc
theorem okMP3:Ck Try.prog MP3.env:=
 okMP2.C8 (n:=60) Try.func57 (show Try.f57.body=some (DL Try.f57) by kernel_rfl) (show (loops (DL Try.f57)).filter (fun b=>Ed b==5)=[CZ Try.f57 5] by kernel_rfl) [2,5,6,7,8] [6] [true,true,false] JH mPc sPc
abbrev plA (E F L:List PV) (f:Bool):Ew:=plN E F L (dI L 0 7-0).toNat ([],fI f L 0,aI L 0,true)
theorem qPlc (g:Bool) (E:List PV) (fb:Bool) (F:List PV) (h:Bool) (D:List PV) (f:Bool) (L:List PV):Dw Try.prog MP3 60 57 [mapV g E fb F h D,.CQ f 3 L] =
 bif pPc (lPc g E fb F h D L 0 0 (dI L 0 7) 0 ([],fI f L 0,aI L 0,true)) then J0 (plA E F L f).1 (plA E F L f).1.length (some (.CQ false 138 (((plA E F L f).1.drop 0).take (plA E F L f).1.length))) else none:=by kernel_rfl
theorem qPlcN (g:Bool) {E:List PV} (fb:Bool) {F:List PV} (h:Bool) (D:List PV) (f:Bool) (L:List PV) (hE:smE E=true) (hE2:E.length<=1000) (hF:F.length<=1000):Dw Try.prog MP3 60 57 [mapV g E fb F h D,.CQ f 3 L]=some (.CQ false 138 (plA E F L f).1):=by
 have d1:=Iq L 0 (n:=7) (by omega);have d2:=HY L 0 (n:=7) (by omega);have ha:=FF L 0;have hp:pPc (lPc g E fb F h D L 0 0 (dI L 0 7) 0 ([],fI f L 0,aI L 0,true))=true:=by
  simp only[pPc,Aa,Ab,AC];exact⟨⟨⟨⟨⟨⟨⟨⟨⟨⟨hE,trivial⟩,trivial⟩,hE2⟩,hF⟩,by omega⟩,by omega⟩,by omega⟩,by omega⟩,by omega⟩,by omega⟩
 rw[qPlc,hp,Am,DQ rfl,AM,Be]
def cPlc:List PV->Option (DT PV)
 | [.agg [.CQ _ 147 E,.CQ _ 106 F,.CQ _ 49 _,.val (.slice none 0 0)],.CQ f 3 L]=>some (.br (smE E&&decide (E.length<=1000)&&decide (F.length<=1000)) (.leaf (.CQ false 138 (plA E F L f).1)) .no)
 | _=>none
theorem ePlc:Hx.CV Try.prog 57:=(CK okMP3 (n:=60) (qPlcN false (E:=[]) false (F:=[]) false [] false [] rfl (by simp) (by simp))).1
theorem oPlc (args:List PV) (d:DT PV) (r:PV) (h:cPlc args=some d) (hr:d.run=some r):Da Try.prog 57 args r:=by
 unfold cPlc at h;split at h
 ·rename_i g E fb F h' D f L;cases h;obtain⟨h1,rfl⟩:=DI hr;simp only[Aa,Ab] at h1;exact (CK okMP3 (n:=60) (qPlcN g fb h' D f L h1.1.1 h1.1.2 h1.2)).2
 ·cases h
noncomputable def MG1:CO:=((((M7.addC 53 cMd).FN 53).DF 54 cPart).DF 56 cWays).DF 57 cPlc
theorem okMG1:Ck Try.prog MG1.env:=((((Ia.addC eMd oMd).FN 53).DF ePart oPart).DF eWays oWays).DF ePlc oPlc
abbrev fclL:List PV:=[.val (.string ⟨#[102,105,101,108,100]⟩),.val (.string ⟨#[119,111,111,100]⟩),.val (.string ⟨#[108,97,107,101]⟩)]
abbrev fnaL:List PV:=[.val (.string ⟨#[]⟩),.val (.string ⟨#[]⟩),.val (.string ⟨#[]⟩),.val (.string ⟨#[77,111,111,114]⟩),.val (.string ⟨#[72,111,108,109]⟩),.val (.string ⟨#[78,111,114,116,104,32,77,111,111,114]⟩)]
abbrev fE (fs:List PV) (k:Int):PV:=fs.getD (0+k.toNat) .any
abbrev fcE (c0:Int) (s1 s2:ByteArray) (c3 c4:Int):PV:=.agg [iv c0,.val (.string s1),.val (.string s2),iv c3,iv c4]
abbrev fcS1 (fs:List PV) (k:Int) (s:ByteArray):List PV:=fs.set (0+k.toNat) (fcE ((fE fs k).cellAt 0).Dn s ((fE fs k).cellAt 2).It ((fE fs k).cellAt 3).Dn ((fE fs k).cellAt 4).Dn)
abbrev fcS2 (fs:List PV) (k:Int) (s:ByteArray):List PV:=fs.set (0+k.toNat) (fcE ((fE fs k).cellAt 0).Dn ((fE fs k).cellAt 1).It s ((fE fs k).cellAt 3).Dn ((fE fs k).cellAt 4).Dn)
abbrev fcS3 (fs:List PV) (k:Int) (x:Int):List PV:=fs.set (0+k.toNat) (fcE ((fE fs k).cellAt 0).Dn ((fE fs k).cellAt 1).It ((fE fs k).cellAt 2).It x ((fE fs k).cellAt 4).Dn)
abbrev fcS4 (fs:List PV) (k:Int) (x:Int):List PV:=fs.set (0+k.toNat) (fcE ((fE fs k).cellAt 0).Dn ((fE fs k).cellAt 1).It ((fE fs k).cellAt 2).It ((fE fs k).cellAt 3).Dn x)
abbrev fcX1 (L:List PV) (a:Int):ByteArray:=((fclL.getD (0+(dI L (a1 L a 0) 3).toNat) .any).cellAt 0).It
abbrev fcX2 (L:List PV) (a:Int):ByteArray:=((fnaL.getD (0+(dI L (a1 L a 1) 6).toNat) .any).cellAt 0).It
abbrev fcX3 (L:List PV) (a:Int):Int:=W (1+dI L (a1 L a 2) 60)
abbrev fcX4 (L:List PV) (a:Int):Int:=W (1+Int.tmod (W (dI L (a1 L a 3) 4*dI L (a1 L a 4) 2)) 3)
def stK (fs:List PV) (p:Nat) {α:Type} (x:Option α):Option α:=J0 fs p (J0 fs p (bif ((((fs.length==p)&&true)&&true)&&true) then x else none))
theorem stK_of {fs:List PV} {p:Nat} {α:Type} {x:Option α} (h:fs.length=p):stK fs p x=x:=by
 unfold stK;rw[DQ h,DQ h,h,AR];rfl
def shMk:S1:=⟨75,[(0,.CQ 38),(2,.ptr 0 1 0 0),(3,.ptr 1 1 0 0),(4,.ptr 4 1 0 0),(5,C4)],[.Gl 73 4 (.agg [.nil,.nil,.nil,.nil]),.Gl 73 4 (.agg [.sl 2,.sl 3,.nil,.nil]),.many 147 4,.many 106 5,.one 103 2 (.agg [.CQ 3,C4])]⟩
abbrev lMk (u:Bool) (ls:List PV) (k:Int) (n l p q:Nat) (nl:Bool) (es:List PV) (v:Bool) (fs:List PV) (g:Bool) (L:List PV) (a:Int):LS:=([.l u ls,.i k],[.n n,.n l,.n p,.n q,.l nl es,.l v fs,.l g L,.i a])
noncomputable abbrev xMk (u:Bool) (ls:List PV) (n l p q:Nat) (nl:Bool) (es:List PV) (v:Bool) (fs:List PV) (g:Bool) (L:List PV) (a:Int):PX × List PV × List Row:=
 (.exit 0,tm 75 [(0,.CQ u 38 ls),(2,.ptr 0 1 0 0),(3,.ptr 1 1 0 0)],(shMk.put (lMk u ls 0 n l p q nl es v fs g L a)).2)
theorem qMk (u:Bool) (ls:List PV) (k:Int) (n l p q:Nat) (nl:Bool) (es:List PV) (v:Bool) (fs:List PV) (g:Bool) (L:List PV) (a:Int):
 CR Try.prog MG1 60 31 (CZ Try.f31 5) [0,2,3,4,5] [0,2,3] (shMk.put (lMk u ls k n l p q nl es v fs g L a)).1 (shMk.put (lMk u ls k n l p q nl es v fs g L a)).2 =
 bif decide (k<(q:Int)) then ixR fs p q k (bif EE (a1 L a 0) 3 then bif inDr L (a1 L a 0) 3 then stK fs p (
  bif EE (a1 L a 1) 6 then bif inDr L (a1 L a 1) 6 then stK (fcS1 fs k (fcX1 L a)) p (
  bif EE (a1 L a 2) 60 then stK (fcS2 (fcS1 fs k (fcX1 L a)) k (fcX2 L a)) p (
  bif EE (a1 L a 3) 4 then bif EE (a1 L a 4) 2 then stK (fcS3 (fcS2 (fcS1 fs k (fcX1 L a)) k (fcX2 L a)) k (fcX3 L a)) p (
   some (.normal,shMk.put (lMk u ls (W (k+1)) n l p q nl es v (fcS4 (fcS3 (fcS2 (fcS1 fs k (fcX1 L a)) k (fcX2 L a)) k (fcX3 L a)) k (fcX4 L a)) (f1 g L a 5) L (a1 L a 5)))) else none else none) else none) else none else none) else none else none)
 else some (xMk u ls n l p q nl es v fs g L a):=by kernel_rfl
abbrev FS:=List PV × Bool × Int
def fcT (fs:List PV) (k:Int) (L:List PV) (a:Int):List PV:=fcS4 (fcS3 (fcS2 (fcS1 fs k (fcX1 L a)) k (fcX2 L a)) k (fcX3 L a)) k (fcX4 L a)
theorem fcT_len (fs:List PV) (k:Int) (L:List PV) (a:Int):(fcT fs k L a).length=fs.length:=by
 unfold fcT;simp only[Bv]
def mkN (L:List PV):Nat->Int->FS->FS
 | 0,_,s=>s
 | m+1,k,s=>mkN L m (k+1) (fcT s.1 k L s.2.2,f1 s.2.1 L s.2.2 5,a1 L s.2.2 5)
theorem mkN_len (L:List PV):∀ (m:Nat) (k:Int) (s:FS),(mkN L m k s).1.length=s.1.length
 | 0,_,_=>rfl
 | m+1,k,s=>by
  simp only[mkN];rw[mkN_len L m];exact fcT_len _ _ _ _
def pMk:LS->Bool
 | ([.l _ _,.i k],[.n _,.n _,.n p,.n q,.l _ _,.l _ fs,.l _ _,.i a])=>decide (p=fs.length)&&decide (q=fs.length)&&decide (0<=k)&&decide (k<=(fs.length:Int))&&decide (fs.length<=1000)&&decide (0<=a)&&decide (a<=5*k)
 | _=>false
noncomputable def fMk:LS->DT (PX × List PV × List Row)
 | ([.l u ls,.i k],[.n n,.n l,.n p,.n q,.l nl es,.l v fs,.l g L,.i a]) =>
  .leaf (xMk u ls n l p q nl es v (mkN L ((fs.length:Int)-k).toNat k (fs,g,a)).1 (mkN L ((fs.length:Int)-k).toNat k (fs,g,a)).2.1 L (mkN L ((fs.length:Int)-k).toNat k (fs,g,a)).2.2)
 | _=>.no
def mMk:LS->Nat
 | ([.l _ _,.i k],[.n _,.n _,.n _,.n q,.l _ _,.l _ _,.l _ _,.i _])=>((q:Int)-k).toNat
 | _=>0
theorem sMk:∀ s r,pMk s=true->(fMk s).run=some r->r.1 ≠ .normal/\(CR Try.prog MG1 60 31 (CZ Try.f31 5) [0,2,3,4,5] [0,2,3] (shMk.put s).1 (shMk.put s).2=some r \/
   ∃ s',CR Try.prog MG1 60 31 (CZ Try.f31 5) [0,2,3,4,5] [0,2,3] (shMk.put s).1 (shMk.put s).2=some (.normal,shMk.put s')/\pMk s'=true/\mMk s'<mMk s/\(fMk s').run=some r):=by
 intro t r hp hr;unfold pMk at hp;split at hp
 ·rename_i u ls k n l p q nl es v fs g L a;simp only[Aa,Ab] at hp;obtain⟨⟨⟨⟨⟨⟨rfl,rfl⟩,h1⟩,h2⟩,h3⟩,h4⟩,h5⟩:=hp;have hr':=(Ah hr).symm;refine⟨by rw[hr'];simp,?_⟩;rw[show shMk.put ([.l u ls,.i k],[.n n,.n l,.n fs.length,.n fs.length,.l nl es,.l v fs,.l g L,.i a])=shMk.put (lMk u ls k n l fs.length fs.length nl es v fs g L a) from rfl,qMk];by_cases hi:k<(fs.length:Int)
  ·obtain⟨j,hj⟩:∃ j,((fs.length:Int)-k).toNat=j+1:=⟨((fs.length:Int)-k).toNat-1,by omega⟩;have hj2:((fs.length:Int)-(k+1)).toNat=j:=by omega
   have ok:∀ (i:Nat) (n:Int),i<=8->0<n->n<=100->EE (a1 L a i) n=true:=fun i n hk hn hn2=>by
    have:=GV L a i;unfold EE;simp;omega
   have ind:∀ (i:Nat) (n:Int),0<n->inDr L (a1 L a i) n=true:=fun i n hn=>by
    rw[Aa];exact⟨Ac (Iq _ _ hn),Ac (HY _ _ hn)⟩
   have ha:=GV L a 5;rw[Ac hi,Am,G5 rfl h1 hi,ok 0 3 (by omega) (by omega) (by omega),ind 0 3 (by omega),Am,Am,stK_of rfl,ok 1 6 (by omega) (by omega) (by omega),ind 1 6 (by omega),Am,Am,
    stK_of (by simp only[Bv]),ok 2 60 (by omega) (by omega) (by omega),Am,stK_of (by simp only[Bv]),ok 3 4 (by omega) (by omega) (by omega),ok 4 2 (by omega) (by omega) (by omega),Am,Am,stK_of (by simp only[Bv]),Dc (n:=k+1) (by omega) (by omega)]
   refine .inr ⟨lMk u ls (k+1) n l fs.length fs.length nl es v (fcT fs k L a) (f1 g L a 5) L (a1 L a 5),rfl,?_,by simp only[mMk];omega,?_⟩
   ·simp only[pMk,Aa,Ab,fcT_len];exact⟨⟨⟨⟨⟨⟨trivial,trivial⟩,by omega⟩,by omega⟩,h3⟩,by omega⟩,by omega⟩
   ·rw[hr',hj];simp only[fMk,fcT_len,hj2,DT.run,mkN]
  ·have hz:((fs.length:Int)-k).toNat=0:=by omega
   rw[Aj hi];exact .inl (by rw[hr',hz];rfl)
 ·cases hp
noncomputable def MG2:CO:=MG1.C8 31 5 [0,2,3,4,5] [true,true,false,false,true] shMk pMk fMk
theorem okMG2:Ck Try.prog MG2.env:=
 okMG1.C8 (n:=60) Try.func31 (show Try.f31.body=some (DL Try.f31) by kernel_rfl) (show (loops (DL Try.f31)).filter (fun b=>Ed b==5)=[CZ Try.f31 5] by kernel_rfl) [0,2,3,4,5] [0,2,3] [true,true,false,false,true] shMk mMk sMk
noncomputable def MG3:CO:=(MG2.Hq 31 12 2).LX 31 12 [4,5,6,7,8,9,10,11,12,13,14,15,16,17,18,19,20,21,22,23,24,25,26,27,28,29,30,31,32,33,34,35,36,37,38,39,40,41,42,43,44,45,46,47,48,49,50,51,52,53,54,55,56,57,58,59,60,61,62,63,64]
theorem okMG3:Ck Try.prog MG3.env:=(okMG2.Hq 31 12 2).LX 31 12 [4,5,6,7,8,9,10,11,12,13,14,15,16,17,18,19,20,21,22,23,24,25,26,27,28,29,30,31,32,33,34,35,36,37,38,39,40,41,42,43,44,45,46,47,48,49,50,51,52,53,54,55,56,57,58,59,60,61,62,63,64]
abbrev min3 (ls:List PV):Int:=if (3:Int)<(ls.length:Int) then 3 else (ls.length:Int)
abbrev JS (ls:List PV):List PV:=(ls.take ((some (min3 ls)).getD (ls.length:Int)).toNat).drop ((none:Option Int).getD 0).toNat
abbrev mkF (ls:List PV):List PV:=(mkN (nth ls 3) (((FP (JS ls)).2.length:Int)-0).toNat 0 ((FP (JS ls)).2,false,0)).1
abbrev mkE' (ls:List PV):List PV:=((F8 (JS ls)).drop 0).take (F8 (JS ls)).length
abbrev mkF' (ls:List PV):List PV:=((mkF ls).drop 0).take (FP (JS ls)).2.length
theorem qMap (f:Bool) (ls:List PV):Dw Try.prog MG3 60 31 [.CQ f 38 ls] =
 bif true&&decide (0<=min3 ls)&&decide (min3 ls<=(ls.length:Int)) then bif decide ((JS ls).length<=3) then
 bif pMk (lMk f ls 0 (F8 (JS ls)).length (F8 (JS ls)).length (FP (JS ls)).2.length (FP (JS ls)).2.length (mdNL (JS ls)) (F8 (JS ls)) (FP (JS ls)).1 (FP (JS ls)).2 false (nth ls 3) 0) then
 bif ((((F8 (JS ls)).length==(F8 (JS ls)).length)&&(((mkF ls).length==(FP (JS ls)).2.length)&&true))&&true)&&true then
 bif smE (mkE' ls)&&decide ((mkE' ls).length<=1000)&&decide ((mkF' ls).length<=1000) then
  some (.agg [.CQ false 147 (mkE' ls),.CQ false 106 (mkF' ls),.CQ false 49 (wayL false (nth ls 4)),.CQ false 138 (plA (mkE' ls) (mkF' ls) (nth ls 5) false).1]) else none else none else none else none else none:=by kernel_rfl
theorem smE_of {es:List PV} (h:Li es):smE es=true:=by
 unfold smE;rw[Ap];intro e he;obtain⟨id,f,ps,lf,rt,rfl,hp⟩:=h e he;exact Ac (show ps.length<=1000 by omega)
def mapL (ls:List PV):PV:=.agg [.CQ false 147 (mkE' ls),.CQ false 106 (mkF' ls),.CQ false 49 (wayL false (nth ls 4)),.CQ false 138 (plA (mkE' ls) (mkF' ls) (nth ls 5) false).1]
theorem qMapN (f:Bool) (ls:List PV):Dw Try.prog MG3 60 31 [.CQ f 38 ls]=some (mapL ls):=by
 obtain⟨hl,he⟩:=mdR_bd (nth (JS ls) 0) (nth (JS ls) 1) (nth (JS ls) 2);change (F8 (JS ls)).length<=21 at hl
 change Li (F8 (JS ls)) at he
 have hF:(FP (JS ls)).2.length<=42:=by
  have h1:=mdF_len (F8 (JS ls));have h2:=mdJ_len (F8 (JS ls));change (FP (JS ls)).2.length=_ at h1
  omega
 have hF':(mkF ls).length=(FP (JS ls)).2.length:=mkN_len _ _ _ _;have hm:0<=min3 ls/\min3 ls<=(ls.length:Int)/\min3 ls<=3:=by
  show 0<=(if (3:Int)<(ls.length:Int) then 3 else (ls.length:Int))/\(if (3:Int)<(ls.length:Int) then 3 else (ls.length:Int))<=(ls.length:Int)/\(if (3:Int)<(ls.length:Int) then 3 else (ls.length:Int))<=3
  split <;> omega
 have h3:(JS ls).length<=3:=by
  show ((ls.take (min3 ls).toNat).drop 0).length<=3
  rw[AM,Az];omega
 have p5:pMk (lMk f ls 0 (F8 (JS ls)).length (F8 (JS ls)).length (FP (JS ls)).2.length (FP (JS ls)).2.length (mdNL (JS ls)) (F8 (JS ls)) (FP (JS ls)).1 (FP (JS ls)).2 false (nth ls 3) 0)=true:=by
  simp only[pMk,Aa,Ab];exact⟨⟨⟨⟨⟨⟨trivial,trivial⟩,by omega⟩,by omega⟩,by omega⟩,by omega⟩,by omega⟩
 have hE:mkE' ls=F8 (JS ls):=by
  show ((F8 (JS ls)).drop 0).take _=_
  rw[AM,Be]
 have p6:smE (mkE' ls)=true:=by rw[hE];exact smE_of he
 have p7:(mkE' ls).length<=1000:=by rw[hE];omega
 have p8:(mkF' ls).length<=1000:=by
  show (((mkF ls).drop 0).take _).length<=1000
  rw[Az];omega
 rw[qMap,Ac hm.1,Ac hm.2.1,Ac h3,p5,p6,Ac p7,Ac p8,hF',AR,AR];rfl
def cMap:List PV->Option (DT PV)
 | [.CQ _ 38 ls]=>some (.br true (.leaf (mapL ls)) .no)
 | _=>none
theorem eMap:Hx.CV Try.prog 31:=(CK okMG3 (n:=60) (qMapN false [])).1
theorem oMap (args:List PV) (d:DT PV) (r:PV) (h:cMap args=some d) (hr:d.run=some r):Da Try.prog 31 args r:=by
 unfold cMap at h;split at h
 ·rename_i f ls;cases h;obtain⟨_,rfl⟩:=DI hr;exact (CK okMG3 (n:=60) (qMapN f ls)).2
 ·cases h
def Sm (x:Int):Prop:=0<=x/\x<=400
theorem KE {i:Int} (h0:0<=i) (h1:i<=4):Sm (Hu i):=by
 show 0<=W (55+W (80*i))/\W (55+W (80*i))<=400
 rw[Dc (n:=80*i) (by omega) (by omega),Dc (by omega) (by omega)];omega
theorem KF {i:Int} (h0:0<=i) (h1:i<=4):Sm (Hv i):=by
 show 0<=W (65+W (70*i))/\W (65+W (70*i))<=400
 rw[Dc (n:=70*i) (by omega) (by omega),Dc (by omega) (by omega)];omega
def Mg (es:List PV):Prop:=∀ k e,es[k]? = some e->∃ ax ay bx b' lv L a,e=wyE ax ay bx b' lv k L a/\Sm ax/\Sm ay/\Sm bx/\Sm b'
theorem wyS_A {ax ay bx b' lv:Int} {L:List PV} {s:Ew} (h:Mg s.1) (h1:Sm ax) (h2:Sm ay) (h3:Sm bx) (h4:Sm b'):Mg (wyS ax ay bx b' lv L s).1:=by
 intro k e he;have he:(s.1++[wyE ax ay bx b' lv s.1.length L s.2.2.1])[k]? = some e:=he;rw[AL] at he;split at he
 ·exact h k e he
 ·rename_i hk;have hk2:k=s.1.length:=by
   have:=(Ad.1 he).1;simp at this;omega
  subst hk2;rw[C7] at he;cases he;exact⟨_,_,_,_,_,_,_,rfl,h1,h2,h3,h4⟩
theorem opS_A {L:List PV} {x0 y0 x1 y1:Int} {s:Ew} (h:Mg s.1) (h1:Sm x0) (h2:Sm y0) (h3:Sm x1) (h4:Sm y1):Mg (opS L x0 y0 x1 y1 s).1:=by
 unfold opS;cases dI L s.2.2.1 2==0
 ·exact h
 ·exact wyS_A (s:=drS L s) h h1 h2 h3 h4
theorem hwN_A {L:List PV} {j:Int} (j0:0<=j) (j1:j<=4):∀ {m:Nat} {i:Int} {s:Ew},0<=i->i+m<=4->Mg s.1->Mg (hwN L j m i s).1
 | 0,_,_,_,_,h=>h
 | m+1,i,s,h0,h1,h=>by
  have:((m+1:Nat):Int)=(m:Int)+1:=by simp
  exact hwN_A j0 j1 (m:=m) (by omega) (by omega) (opS_A h (KE h0 (by omega)) (KF j0 j1) (KE (by omega) (by omega)) (KF j0 j1))
theorem haN_A {L:List PV}:∀ {m:Nat} {j:Int} {s:Ew},0<=j->j+m<=4->Mg s.1->Mg (haN L m j s).1
 | 0,_,_,_,_,h=>h
 | m+1,j,s,h0,h1,h=>by
  have:((m+1:Nat):Int)=(m:Int)+1:=by simp
  exact haN_A (m:=m) (by omega) (by omega) (hwN_A h0 (by omega) (BS 0) (by decide) h)
theorem vwN_A {L:List PV}:∀ {m:Nat} {i:Int} {s:Ew},0<=i->i+m<=4->Mg s.1->Mg (vwN L m i s).1
 | 0,_,_,_,_,h=>h
 | m+1,i,s,h0,h1,h=>by
  have:((m+1:Nat):Int)=(m:Int)+1:=by simp
  simp only[vwN];cases decide ((s.1.length:Int)<5)
  ·exact h
  ·exact vwN_A (m:=m) (by omega) (by omega) (opS_A h (KE h0 (by omega)) (KF (by omega) (by omega)) (KE h0 (by omega)) (KF (by omega) (by omega)))
theorem wv1_A {L:List PV} {s:Ew} (h:Mg s.1):Mg (wv1 L s).1:=by
 have d1:=Iq L (aI L s.2.2.1) (n:=2) (by omega);have d2:=HY L (aI L s.2.2.1) (n:=2) (by omega);unfold wv1;cases dI L s.2.2.1 3==0
 ·exact h
 ·refine wyS_A (s:=drS L (drS L s)) h (KE (by omega) (by omega)) (KF (by omega) (by omega)) ?_ (KF (by omega) (by omega));rw[Dc (n:=2+dI L (aI L s.2.2.1) 2) (by omega) (by omega)];exact KE (by omega) (by omega)
theorem wv2_A {L:List PV} {s:Ew} (h:Mg s.1):Mg (wv2 L s).1:=by
 unfold wv2;cases dI L s.2.2.1 4==0
 ·exact h
 ·exact wyS_A (s:=drS L s) h (KE (by omega) (by omega)) (KF (by omega) (by omega)) (KE (by omega) (by omega)) (KF (by omega) (by omega))
theorem wayL_A (f:Bool) (L:List PV):Mg (wayL f L):=wv2_A (wv1_A (vwN_A (BS 0) (by decide) (haN_A (BS 0) (by decide) (fun k e h=>by simp at h))))
theorem wayL_len (f:Bool) (L:List PV):(wayL f L).length<=12:=by
 obtain⟨_,_,_,a4,_,_⟩:=ww_bd L f;obtain⟨_,b2,_,_⟩:=wv1_bd L (ww12 L f);have h2:(wv2 L (wv1 L (ww12 L f))).1.length<=(wv1 L (ww12 L f)).1.length+1:=by
  unfold wv2;cases dI L (wv1 L (ww12 L f)).2.2.1 4==0
  ·exact Nat.le_succ _
  ·rw[Am,wyS_len];exact Ak _
 show (wv2 L (wv1 L (ww12 L f))).1.length<=12
 omega
theorem wyE_line (ax ay bx b' lv:Int) (k:Nat) (L:List PV) (a:Int):wL (wyE ax ay bx b' lv k L a)=wyPs ax ay bx b' L a++[FC bx b']:=rfl
theorem wyE_ln (ax ay bx b' lv:Int) (k:Nat) (L:List PV) (a:Int):2<=(wL (wyE ax ay bx b' lv k L a)).length/\(wL (wyE ax ay bx b' lv k L a)).length<=4:=by
 have:=wyM_le L a;rw[wyE_line,Ar,wyPs_len];simp only[Ay,AC];omega
theorem wayL_mem {f:Bool} {L:List PV} {e:PV} (h:e ∈ wayL f L):∃ ax ay bx b' lv k N a,e=wyE ax ay bx b' lv k N a/\Sm ax/\Sm ay/\Sm bx/\Sm b':=by
 obtain⟨k,hk,rfl⟩:=List.getElem_of_mem h;obtain⟨ax,ay,bx,b',lv,N,a,h2⟩:=wayL_A f L k _ (Ae hk);exact⟨ax,ay,bx,b',lv,k,N,a,h2⟩
theorem H6 {f:Bool} {L:List PV} {e:PV} (h:e ∈ wayL f L):2<=(wL e).length/\(wL e).length<=4:=by
 obtain⟨ax,ay,bx,b',lv,k,N,a,rfl,_⟩:=wayL_mem h;exact wyE_ln ax ay bx b' lv k N a
theorem wayL_ok (f:Bool) (L:List PV):KB (wayL f L):=⟨by have:=wayL_len f L;omega,fun e h=>by have:=H6 h;omega⟩
theorem wayL_norm (f:Bool) (L:List PV):Em EK (wayL f L):=fun e h=>by
 obtain⟨ax,ay,bx,b',lv,k,N,a,rfl,_⟩:=wayL_mem h;rfl
noncomputable def L0:CO:=R89.DF 31 cMap
theorem okL0:Ck Try.prog L0.env:=okR89.DF eMap oMap
theorem qAtS (x y:Int):Dw Try.prog L0 60 29 [iv x,iv y]=some (Dy x y 0):=by kernel_rfl
def cAtS:List PV->Option PV | [.val (.int .i64 x),.val (.int .i64 y)]=>some (Dy x y 0) | _=>none
theorem oAtS (args:List PV) (r:PV) (h:cAtS args=some r):Hx.CV Try.prog 29/\Da Try.prog 29 args r:=by
 unfold cAtS at h;split at h
 ·rename_i x y;cases h;exact CK okL0 (n:=60) (qAtS x y)
 ·cases h
noncomputable def L1:CO:=L0.EC 29 cAtS
theorem okL1:Ck Try.prog L1.env:=okL0.EC oAtS
abbrev exW (i x y z a l:Int) (s:Bool):PV:=wayv i false [FC x y,FC z a] l .empty .empty s 0 0
abbrev Ll:List PV:=[exW 1 0 0 30 0 0 false,exW 2 30 0 30 40 0 false,exW 3 0 0 30 40 0 true,exW 4 30 40 60 40 0 false,exW 5 0 0 60 40 1 false]
theorem qEx:runP2 Try.prog L1 60 28 []=some (.CQ false 49 Ll):=by kernel_rfl
def cEx:List PV->Option PV | []=>some (.CQ false 49 Ll) | _=>none
theorem oEx (args:List PV) (r:PV) (h:cEx args=some r):Hx.CV Try.prog 28/\Da Try.prog 28 args r:=by
 unfold cEx at h;split at h
 ·cases h;exact runP2_sound okL1 (n:=60) qEx
 ·cases h
noncomputable def L2:CO:=L1.EC 28 cEx
theorem okL2:Ck Try.prog L2.env:=okL1.EC oEx
noncomputable abbrev exO (fl:Bool) (x y z:Int):Option Ky:=D7 Ll fl (0,0,0) (x,y,z)
theorem qPx (x y z c:Int) (fl g:Bool) (ids:List PV):Dw Try.prog L2 60 30 [Dy x y z,bv fl,iv c,.CQ g 3 ids] =
 bif dB (KB Ll)&&ED EK Ll then
 bif decide (c<0) then bif !(exO fl x y z).isSome then bif oC (exO fl x y z)==0 then some (bv ((((oI (exO fl x y z)).map iv).length:Int)==0)) else some (bv false) else some (bv false)
 else bif (exO fl x y z).isSome then bif oC (exO fl x y z)==c then bif decide (((oI (exO fl x y z)).map iv).length<=1000000) then some (bv (decide (Dh ((oI (exO fl x y z)).map iv)=Dh ids))) else none else some (bv false) else some (bv false)
 else none:=by kernel_rfl
theorem ex_ok:KB Ll:=⟨by decide,fun e he=>by
 simp only[AK,BN,B6] at he;rcases he with rfl | rfl | rfl | rfl | rfl <;> decide⟩
theorem ex_norm:Em EK Ll:=fun e he=>by
 simp only[AK,BN,B6] at he;rcases he with rfl | rfl | rfl | rfl | rfl <;> rfl
theorem ex_at:Eo Ll (0,0,0):=⟨_,AJ ..,by decide,.inl rfl⟩
theorem ex_at2:Eo Ll (30,0,0):=⟨_,AJ ..,by decide,.inr rfl⟩
theorem exF:Fq Ll false (0,0,0)=[((0,0,0),0,[]),((30,0,0),30,[1]),((30,40,0),50,[3]),((60,40,0),80,[3,4])]:=(HZ ex_at).trans (by kernel_rfl)
theorem exT:Fq Ll true (0,0,0)=[((0,0,0),0,[]),((30,0,0),30,[1]),((30,40,0),70,[1,2]),((60,40,0),100,[1,2,4])]:=(HZ ex_at).trans (by kernel_rfl)
theorem exG:Fq Ll false (30,0,0)=[((30,0,0),0,[]),((0,0,0),30,[1]),((30,40,0),40,[2]),((60,40,0),70,[2,4])]:=(HZ ex_at2).trans (by kernel_rfl)
theorem ex_no {x y z:Int} (h:∀ k,((x,y,z),k) ∉ Fq Ll false (0,0,0)):exO false x y z=none:=by
 cases hk:exO false x y z with
 | none=>rfl
 | some k=>exact absurd ((F4 ex_ok).2 hk) (h k)
theorem ex_cond:(dB (KB Ll)&&ED EK Ll)=true:=by rw[D3.2 ex_ok,DM.2 ex_norm];rfl
theorem px_some {x y z c:Int} {fl g:Bool} {l:List Int} (h:exO fl x y z=some (c,l)) (hc:0<=c) (hl:l.length<=1000000):Dw Try.prog L2 60 30 [Dy x y z,bv fl,iv c,.CQ g 3 (l.map iv)]=some (bv true):=by
 rw[qPx,ex_cond,h,Aj (show ¬ c<0 by omega)];simp only[CF,oC,oI,AR,Am,At,A1,Ac hl,decide_true]
theorem px_none {x y z:Int} {g:Bool} (h:exO false x y z=none):Dw Try.prog L2 60 30 [Dy x y z,bv false,iv (-1),.CQ g 3 []]=some (bv true):=by
 rw[qPx,ex_cond,h];rfl
inductive PxOk:List PV->Prop
 | a {g:Bool}:PxOk [Dy 60 40 0,bv false,iv 80,.CQ g 3 [iv 3,iv 4]]
 | b {g:Bool}:PxOk [Dy 60 40 0,bv true,iv 100,.CQ g 3 [iv 1,iv 2,iv 4]]
 | c {g:Bool}:PxOk [Dy 0 0 0,bv false,iv 0,.CQ g 3 []]
 | d {g:Bool}:PxOk [Dy 1 1 0,bv false,iv (-1),.CQ g 3 []]
 | e {g:Bool}:PxOk [Dy 60 40 1,bv false,iv (-1),.CQ g 3 []]
theorem px_run {args:List PV} (h:PxOk args):Dw Try.prog L2 60 30 args=some (bv true):=by
 cases h with
 | a=>exact px_some (l:=[3,4]) ((F4 ex_ok).1 (by rw[exF];simp)) (by decide) (by decide)
 | b=>exact px_some (l:=[1,2,4]) ((F4 ex_ok).1 (by rw[exT];simp)) (by decide) (by decide)
 | c=>exact px_some (l:=[]) ((F4 ex_ok).1 (by rw[exF];simp)) (by decide) (by decide)
 | d=>exact px_none (ex_no fun k=>by rw[exF];simp)
 | e=>exact px_none (ex_no fun k=>by rw[exF];simp)
theorem ePx:Hx.CV Try.prog 30:=(CK okL2 (n:=60) (px_run (.a (g:=false)))).1
theorem Mh {P:Program} {k:FuncId} {t:TypeId} {ags:List PV} {r:PV} (h:Da P k (ags++[.CQ false t []]) r):Da P k (ags++[.val (.slice none 0 0)]) r:=by
 intro C hR Vs hs;refine h C hR Vs ⟨by rw[hs.1];simp,fun j c v g1 g2 => ?_⟩;rw[AL] at g1;split at g1
 ·rename_i hj;exact hs.2 j c v (by rw[AL,Ai hj];exact g1) g2
 ·rename_i hj;have hj2:j-ags.length=0:=by
   have:=(Ad.1 g1).1;simp at this;omega
  rw[hj2] at g1;cases g1;have:=hs.2 j _ v (by rw[AL,An hj,hj2];rfl) g2;cases this;exact .CQ 0 0 (fun _ _=>undef) (by simp) (fun hf=>by cases hf) (fun h0=>by simp at h0) (fun x e j p hx=>by simp at hx) (fun x e j p hx=>by simp at hx) (fun e he=>by simp at he)
def cPx:List PV->Option PV
 | [.agg [.val (.int .i64 x),.val (.int .i64 y),.val (.int .i64 z)],.val (.bool fl),.val (.int .i64 c),.CQ _ 3 [.val (.int .i64 a),.val (.int .i64 b)]]=>match x==60&&y==40&&z==0 && !fl&&c==80&&a==3&&b==4 with | true=>some (bv true) | false=>none
 | [.agg [.val (.int .i64 x),.val (.int .i64 y),.val (.int .i64 z)],.val (.bool fl),.val (.int .i64 c),.CQ _ 3 [.val (.int .i64 a),.val (.int .i64 b),.val (.int .i64 d)]]=>match x==60&&y==40&&z==0&&fl&&c==100&&a==1&&b==2&&d==4 with | true=>some (bv true) | false=>none
 | [.agg [.val (.int .i64 x),.val (.int .i64 y),.val (.int .i64 z)],.val (.bool fl),.val (.int .i64 c),.val (.slice none 0 0)] =>
  match !fl&&((x==0&&y==0&&z==0&&c==0)||(x==1&&y==1&&z==0&&c == -1)||(x==60&&y==40&&z==1&&c == -1)) with | true=>some (bv true) | false=>none
 | _=>none
theorem oPx (args:List PV) (r:PV) (h:cPx args=some r):Hx.CV Try.prog 30/\Da Try.prog 30 args r:=by
 refine⟨ePx,?_⟩;unfold cPx at h;split at h
 ·split at h
  ·rename_i hc;cases h;simp only[Aa,Aw,Al] at hc;obtain⟨⟨⟨⟨⟨⟨rfl,rfl⟩,rfl⟩,rfl⟩,rfl⟩,rfl⟩,rfl⟩:=hc;exact (CK okL2 (n:=60) (px_run .a)).2
  ·cases h
 ·split at h
  ·rename_i hc;cases h;simp only[Aa,Aw] at hc;obtain⟨⟨⟨⟨⟨⟨⟨rfl,rfl⟩,rfl⟩,rfl⟩,rfl⟩,rfl⟩,rfl⟩,rfl⟩:=hc;exact (CK okL2 (n:=60) (px_run .b)).2
  ·cases h
 ·split at h
  ·rename_i hc;cases h;simp only[Aa,A0,Aw,Al] at hc;obtain⟨rfl,(⟨⟨⟨rfl,rfl⟩,rfl⟩,rfl⟩ | ⟨⟨⟨rfl,rfl⟩,rfl⟩,rfl⟩) | ⟨⟨⟨rfl,rfl⟩,rfl⟩,rfl⟩⟩:=hc
   ·exact Mh (ags:=[_,_,_]) (CK okL2 (n:=60) (px_run (.c (g:=false)))).2
   ·exact Mh (ags:=[_,_,_]) (CK okL2 (n:=60) (px_run (.d (g:=false)))).2
   ·exact Mh (ags:=[_,_,_]) (CK okL2 (n:=60) (px_run (.e (g:=false)))).2
  ·cases h
 ·cases h
noncomputable def L3:CO:=L2.EC 30 cPx
theorem okL3:Ck Try.prog L3.env:=okL2.EC oPx
noncomputable abbrev GP (fl:Bool) (ids:List Int):Int × Bool:=chkV Ll fl (0,0,0) (30,40,0) ids
noncomputable abbrev exD:List (PV × PV):=(Fq Ll false (30,0,0)).map GK
noncomputable abbrev exN (x y:Int):Int:=((EG (iv 0) exD (Dy x y 0)).cellAt 0).Dn
theorem qSan:Dw Try.prog L3 60 8 [] =
 bif decide (5<=1000)&&ED EK Ll&&Kv Ll then bif decide (5<=1000)&&ED EK Ll&&Kv Ll then
 bif dB (KB Ll)&&ED EK Ll&&decide (2<=100000) then bif dB (KB Ll)&&ED EK Ll&&decide (2<=100000) then bif dB (KB Ll)&&ED EK Ll&&decide (1<=100000) then
 bif dB (KB Ll)&&ED EK Ll then
 bif (GP false [1,2]).2 then bif (GP false [1,2]).1==70 then bif !(GP false [2,1]).2 then bif !(GP true [3]).2 then bif (exD.length:Int)==4 then bif exN 0 0==30 then bif exN 30 40==40 then some (bv (exN 60 40==70))
 else some (bv false) else some (bv false) else some (bv false) else some (bv false) else some (bv false) else some (bv false) else some (bv false)
 else none else none else none else none else none else none:=by kernel_rfl
theorem exD_eq:exD=([((30,0,0),0,[]),((0,0,0),30,[1]),((30,40,0),40,[2]),((60,40,0),70,[2,4])]:List Rc).map GK:=by show (Fq Ll false (30,0,0)).map GK=_;rw[exG]
theorem exK1:GP false [1,2]=(70,true):=(Ai ex_at).trans (by kernel_rfl)
theorem exK2:GP false [2,1]=(0,false):=(Ai ex_at).trans (by kernel_rfl)
theorem exK3:GP true [3]=(0,false):=(Ai ex_at).trans (by kernel_rfl)
theorem ex_len:Kv Ll=true:=by kernel_rfl
theorem qSanN:Dw Try.prog L3 60 8 []=some (bv true):=by
 have h1:(decide (5<=1000)&&ED EK Ll&&Kv Ll)=true:=by rw[DM.2 ex_norm,ex_len];rfl
 have h2:exN 0 0=30:=by show ((EG (iv 0) exD (Dy 0 0 0)).cellAt 0).Dn=30;rw[exD_eq];kernel_rfl
 have h3:exN 30 40=40:=by show ((EG (iv 0) exD (Dy 30 40 0)).cellAt 0).Dn=40;rw[exD_eq];kernel_rfl
 have h4:exN 60 40=70:=by show ((EG (iv 0) exD (Dy 60 40 0)).cellAt 0).Dn=70;rw[exD_eq];kernel_rfl
 rw[qSan,h1,ex_cond,exK1,exK2,exK3,h2,h3,h4,exD_eq];rfl
def cSan:List PV->Option PV | []=>some (bv true) | _=>none
theorem oSan (args:List PV) (r:PV) (h:cSan args=some r):Hx.CV Try.prog 8/\Da Try.prog 8 args r:=by
 unfold cSan at h;split at h
 ·cases h;exact CK okL3 (n:=60) qSanN
 ·cases h
noncomputable def L4:CO:=L3.EC 8 cSan
theorem okL4:Ck Try.prog L4.env:=okL3.EC oSan
noncomputable def csWo (ls:List PV):{y:List PV // y=wayL false (nth ls 4)}:=Classical.choice ⟨⟨_,rfl⟩⟩
noncomputable abbrev Gn (ls:List PV):List PV:=(csWo ls).1
theorem csW_eq (ls:List PV):Gn ls=wayL false (nth ls 4):=(csWo ls).2
noncomputable def cMapS:List PV->Option (DT PV)
 | [.CQ _ 38 ls]=>some (.br true (.leaf (.agg [.CQ false 147 (mkE' ls),.CQ false 106 (mkF' ls),.CQ false 49 (Gn ls),.CQ false 138 (plA (mkE' ls) (mkF' ls) (nth ls 5) false).1])) .no)
 | _=>none
theorem oMapS (args:List PV) (d:DT PV) (r:PV) (h:cMapS args=some d) (hr:d.run=some r):Da Try.prog 31 args r:=by
 unfold cMapS at h;split at h
 ·rename_i f ls;cases h;obtain⟨_,rfl⟩:=DI hr;rw[csW_eq];exact (CK okMG3 (n:=60) (qMapN f ls)).2
 ·cases h
noncomputable def L5:CO:=(L4.DF 20 dMod).DF 31 cMapS
theorem okL5:Ck Try.prog L5.env:=(okL4.DF eMod oMod).DF eMap oMapS
theorem csW_mem {ls:List PV} {e:PV} (h:e ∈ Gn ls):e ∈ wayL false (nth ls 4):=by rw[<- csW_eq];exact h
theorem csW_ok (ls:List PV):KB (Gn ls):=by rw[csW_eq];exact wayL_ok _ _
theorem csW_norm (ls:List PV):Em EK (Gn ls):=by rw[csW_eq];exact wayL_norm _ _
theorem csW_len (ls:List PV):(Gn ls).length<=12:=by rw[csW_eq];exact wayL_len ..
noncomputable abbrev KG (ls:List PV):List PV:=Mb (Gn ls) []
noncomputable def csAtO (ls:List PV) (n:Int):{t:T3 // t=if (KG ls).length=0 then (0,0,0) else EN ((KG ls).getD (n % ((KG ls).length:Int)).toNat .any)}:=Classical.choice ⟨⟨_,rfl⟩⟩
noncomputable abbrev EO (ls:List PV) (n:Int):T3:=(csAtO ls n).1
theorem csAt_eq (ls:List PV) (n:Int):EO ls n=if (KG ls).length=0 then (0,0,0) else EN ((KG ls).getD (n % ((KG ls).length:Int)).toNat .any):=(csAtO ls n).2
noncomputable def csOkO (ls:List PV):{b:Bool // b = !((KG ls).length==0)}:=Classical.choice ⟨⟨_,rfl⟩⟩
noncomputable abbrev csOk (ls:List PV):Bool:=(csOkO ls).1
theorem csOk_eq (ls:List PV):csOk ls = !((KG ls).length==0):=(csOkO ls).2
abbrev csV (g:Bool) (ls:List PV) (p q r fr tt:Int) (fl:Bool):PV:=.agg [.CQ g 38 ls,iv p,iv q,iv r,iv fr,iv tt,bv fl]
abbrev inM (n:Int) (m:Nat):Bool:=decide (0<=n % (m:Int))&&decide (n % (m:Int)<(m:Int))
abbrev gtM (m:Nat):Bool:=decide (0<(m:Int))&&decide ((m:Int)<=4611686018427387904)
noncomputable abbrev csG (ls:List PV) (n:Int):PV:=(KG ls).getD (n % ((KG ls).length:Int)).toNat .any
theorem qMade (g:Bool) (ls:List PV) (p q r fr tt:Int) (fl:Bool):Dw Try.prog L5 60 9 [csV g ls p q r fr tt fl] =
 bif decide ((Gn ls).length<=1000)&&Kv (Gn ls) then bif ((KG ls).length:Int)==0 then some (.D8 [.val (.slice none 0 0),Dy 0 0 0,Dy 0 0 0,bv false]) else
 bif gtM (KG ls).length then bif inM fr (KG ls).length then bif gtM (KG ls).length then bif inM tt (KG ls).length then
  some (.D8 [.CQ false 49 (Gn ls),Dy (gX (csG ls fr)) (gY (csG ls fr)) (gL (csG ls fr)),Dy (gX (csG ls tt)) (gY (csG ls tt)) (gL (csG ls tt)),bv true])
 else none else none else none else none else none:=by kernel_rfl
theorem pcall_tup4 {P:Program} {k:FuncId} {args:List PV} {t:TypeId} {p q r:PV} (h:Da P k args (.D8 [.val (.slice none 0 0),p,q,r])):Da P k args (.D8 [.CQ false t [],p,q,r]):=by
 intro C hR Vs hs;refine (h C hR Vs hs).mono ?_
 rintro e w' ⟨V,h1,h2,h3⟩
 refine⟨V,h1,h2,?_⟩;cases h3 with
 | D8 hs h =>
  refine .D8 hs fun j c v g1 g2 => ?_
  match j with
  | 0 =>
   cases g1;have h4:=h 0 _ v rfl g2;cases h4;exact .CQ 0 0 (fun _ _=>undef) (by simp) (fun hf=>by cases hf) (fun h0=>by simp at h0) (fun x e j p hx=>by simp at hx) (fun x e j p hx=>by simp at hx) (fun e he=>by simp at he)
  | j+1=>exact h (j+1) c v g1 g2
theorem csW_nil {ls:List PV} (h:(KG ls).length=0):Gn ls=[]:=by
 cases hw:Gn ls with
 | nil=>rfl
 | cons e w =>
  have he:e ∈ Gn ls:=by rw[hw];exact AJ ..
  have hl:=H6 (csW_mem he);have:EN (eF e) ∈ (KG ls).map EN:=stpR0_mem.2 ⟨e,he,by omega,.inl rfl⟩;have h0:KG ls=[]:=List.length_eq_zero_iff.1 h;rw[h0] at this;cases this
theorem madeN (g:Bool) (ls:List PV) (p q r fr tt:Int) (fl:Bool):Hx.CV Try.prog 9/\Da Try.prog 9 [csV g ls p q r fr tt fl] (.D8 [.CQ false 49 (Gn ls),FG (EO ls fr),FG (EO ls tt),bv (csOk ls)]):=by
 have h1:=(csW_ok ls).Kv;have h2:=csW_len ls;have h3:=stpR_len (Gn ls) [];have hq:=qMade g ls p q r fr tt fl;rw[Ac (show (Gn ls).length<=1000 by omega),h1] at hq;by_cases h0:(KG ls).length=0
 ·rw[show (((KG ls).length:Int)==0)=true by simp[h0]] at hq;simp only[Bn,Am] at hq;obtain⟨q1,q2⟩:=CK okL5 hq;refine⟨q1,?_⟩;rw[csW_nil h0,csAt_eq,csAt_eq,csOk_eq,Ai h0,Ai h0,show (!((KG ls).length==0))=false by simp[h0]];exact pcall_tup4 q2
 ·have g0:(0:Int)<((KG ls).length:Int):=by omega
  have g1:gtM (KG ls).length=true:=by
   have h6:(KG ls).length<=24:=A_ h3 (by show 0+2*(Gn ls).length<=24;omega);show (decide (0<((KG ls).length:Int))&&decide (((KG ls).length:Int)<=4611686018427387904))=true
   rw[Ac g0,Ac (by omega)];rfl
  have g2:∀ n:Int,inM n (KG ls).length=true:=fun n=>by
   have a1:=Int.emod_nonneg n (show ((KG ls).length:Int) ≠ 0 by omega);have a2:=Int.emod_lt_of_pos n g0;simp only[inM,Aa,Ab];exact⟨a1,a2⟩
  rw[show (((KG ls).length:Int)==0)=false from AQ.2 (by omega),g1,g2,g2] at hq;simp only[Bn,Am,At] at hq;obtain⟨q1,q2⟩:=CK okL5 hq;refine⟨q1,?_⟩;rw[csAt_eq,csAt_eq,csOk_eq,An h0,An h0,show (!((KG ls).length==0))=true by simp[h0]];exact q2
noncomputable def cMade:List PV->Option (DT PV)
 | [.agg [.CQ _ 38 ls,.val (.int .i64 _),.val (.int .i64 _),.val (.int .i64 _),.val (.int .i64 fr),.val (.int .i64 tt),.val (.bool _)]]=>some (.br true (.leaf (.D8 [.CQ false 49 (Gn ls),FG (EO ls fr),FG (EO ls tt),bv (csOk ls)])) .no)
 | _=>none
theorem eMade':Hx.CV Try.prog 9:=(madeN false [] 0 0 0 0 0 false).1
theorem oMade' (args:List PV) (d:DT PV) (r:PV) (h:cMade args=some d) (hr:d.run=some r):Da Try.prog 9 args r:=by
 unfold cMade at h;split at h
 ·rename_i g ls p q r0 fr tt fl;cases h;obtain⟨_,rfl⟩:=DI hr;exact (madeN g ls p q r0 fr tt fl).2
 ·cases h
noncomputable def L6:CO:=L5.DF 9 cMade
theorem okL6:Ck Try.prog L6.env:=okL5.DF eMade' oMade'
abbrev qcsX:Y1:=.one 25 7 (.agg [.CQ 38,C4,C4,C4,C4,C4,.bool])
abbrev qspX:Y1:=.one 30 3 aS


theorem gE_mem {fl:Bool} {ws:List PV} {x:Eg}:x ∈ gE fl ws ↔ ∃ e ∈ ws,CT fl e=false/\x ∈ eE e:=by
 unfold gE;rw[List.mem_flatMap];constructor
 ·rintro⟨e,he,hx⟩
  cases hs:CT fl e with
  | true=>rw[hs] at hx;cases hx
  | false=>rw[hs] at hx;exact⟨e,he,hs,hx⟩
 ·rintro⟨e,he,hs,hx⟩
  exact⟨e,he,by rw[hs];exact hx⟩
theorem gE_sym {fl:Bool} {ws:List PV} (a b:T3) (id w:Int) (h:(a,b,id,w) ∈ gE fl ws):(b,a,id,w) ∈ gE fl ws:=by
 obtain⟨e,he,hs,hx⟩:=gE_mem.1 h;refine gE_mem.2 ⟨e,he,hs,?_⟩;simp only[eE,AK,BN,B6,Cq] at hx ⊢;rcases hx with ⟨rfl,rfl,rfl,rfl⟩ | ⟨rfl,rfl,rfl,rfl⟩
 ·exact .inr ⟨rfl,rfl,rfl,rfl⟩
 ·exact .inl ⟨rfl,rfl,rfl,rfl⟩
theorem min_ex {ws:List PV} (h:KB ws) {fl:Bool} {s v:T3} {k:Ky} (hw:Mc (gE fl ws) s v k):∃ k',LC (gE fl ws) s v k':=by
 rw[<- JG] at hw ⊢;have hG:=I8 s (FH (fl:=fl) h);have hD:=KZ hG (AJ (a:=s) ..);obtain⟨x,hx,rfl⟩:=AW.1 (hD.done hG.Kz hw);exact⟨x.2,hD.wD x hx⟩
theorem GM {ws:List PV} {fl:Bool} {s t:T3} {k:Ky}:D7 ws fl s t=some k ↔ Eo ws s/\LC (gE fl ws) s t k:=by
 by_cases hs:Eo ws s
 ·rw[pathO_in hs,KY];simp[hs]
 ·rw[pathO_out hs];simp[hs]
theorem pathO_min {ws:List PV} {fl:Bool} {s t:T3} {k:Ky} (h:D7 ws fl s t=some k):LC (gE fl ws) s t k:=(GM.1 h).2
theorem kLe_cost {a b:Ky} (h:kLe a b):a.1<=b.1:=by
 rw[kLe_iff] at h;omega

noncomputable abbrev okPt (ws:List PV):Bool:=dB (KB ws)&&ED EK ws
theorem okPt_of {ws:List PV} (h:KB ws) (hN:Em EK ws):okPt ws=true:=by
 show (dB (KB ws)&&ED EK ws)=true
 rw[D3.2 h,DM.2 hN];rfl
theorem cs_stop {ls:List PV} (h:csOk ls=true) (n:Int):Eo (Gn ls) (EO ls n):=by
 rw[csOk_eq] at h;have h0:(KG ls).length ≠ 0:=by simpa using h
 rw[csAt_eq,An h0];have a1:=Int.emod_nonneg n (show ((KG ls).length:Int) ≠ 0 by omega);have a2:=Int.emod_lt_of_pos n (show (0:Int)<((KG ls).length:Int) by omega);refine stpR0_mem.1 ?_;rw[AA,Ae (show (n % ((KG ls).length:Int)).toNat<(KG ls).length by omega)];exact Bp (Bl _)
def Mi:S1:=⟨162,[(1,.ptr 0 1 0 0),(3,.bool),(4,.CQ 49),(5,.ptr 1 1 0 0),(8,.mp 3),(11,.mp 4),(56,.CQ 49),(57,C4),(58,C4)],[qcsX,qspX,qspX,.F6 30 3,.map 30 4]⟩
abbrev lLa (hd f:Bool) (ws:List PV) (f2:Bool) (vs:List PV) (len i:Int) (g:Bool) (ls:List PV) (p0 p1 p2 p3 p4:Int) (fl:Bool) (x0 y0 l0 x1 y1 l1:Int) (D:List (PV × PV)) (T:List (PV × PV)):LS:=([.b hd,.l f ws,.l f2 vs,.i len,.i i],[.l g ls,.i p0,.i p1,.i p2,.i p3,.i p4,.b fl,.i x0,.i y0,.i l0,.i x1,.i y1,.i l1,.m D,.m T])
noncomputable abbrev xLa (hd f:Bool) (ws:List PV) (g:Bool) (ls:List PV) (p0 p1 p2 p3 p4:Int) (fl:Bool) (x0 y0 l0 x1 y1 l1:Int) (D:List (PV × PV)) (T:List (PV × PV)):PX × List PV × List Row:=(.exit 0,tm 162 [(1,.ptr 0 1 0 0),(3,bv hd),(4,.CQ f 49 ws),(5,.ptr 1 1 0 0),(8,.mp 3),(11,.mp 4)],(Mi.put (lLa hd f ws false [] 0 0 g ls p0 p1 p2 p3 p4 fl x0 y0 l0 x1 y1 l1 D T)).2)
noncomputable abbrev rLa (hd f:Bool) (ws:List PV) (g:Bool) (ls:List PV) (p0 p1 p2 p3 p4:Int) (fl:Bool) (x0 y0 l0 x1 y1 l1:Int) (D:List (PV × PV)) (T:List (PV × PV)):Option (PX × List PV × List Row):=some (.ret,tm 162 [(1,.ptr 0 1 0 0),(2,bv false),(3,bv hd),(4,.CQ f 49 ws),(5,.ptr 1 1 0 0),(8,.mp 3),(11,.mp 4)],(Mi.put (lLa hd f ws false [] 0 0 g ls p0 p1 p2 p3 p4 fl x0 y0 l0 x1 y1 l1 D T)).2)
abbrev Ic (D:List (PV × PV)) (k:PV):Int:=((EG (iv 0) D k).cellAt 0).Dn
abbrev lenB1 (e:PV):Bool:=decide ((wL e).length<=100000)
abbrev Mj (D:List (PV × PV)) (a b e:PV):Bool:=Ic D a==W (Ic D b+Df (wL e))
noncomputable def qtLa (D T:List (PV × PV)) (a b e:PV) (k:List (PV × PV)->Option (PX × List PV × List Row)):Option (PX × List PV × List Row):=
 bif DA D (eF e) then bif lenB1 e then bif Mj D a b e then k (Ej T a (bv true)) else k T else none else k T
theorem qLa (hd f:Bool) (ws:List PV) (f2:Bool) (vs:List PV) (len i:Int) (g:Bool) (ls:List PV) (p0 p1 p2 p3 p4:Int) (fl:Bool) (x0 y0 l0 x1 y1 l1:Int) (D:List (PV × PV)) (T:List (PV × PV)):CR Try.prog L6 60 5 (CZ Try.f5 11) [1,3,4,5,8,11,56,57,58] [1,2,3,4,5,8,11] (Mi.put (lLa hd f ws f2 vs len i g ls p0 p1 p2 p3 p4 fl x0 y0 l0 x1 y1 l1 D T)).1 (Mi.put (lLa hd f ws f2 vs len i g ls p0 p1 p2 p3 p4 fl x0 y0 l0 x1 y1 l1 D T)).2 =
 bif decide (i<len) then bif H8 vs i then
  (fun (skip main:Option (PX × List PV × List Row))=>bif fl then bif Lc (aE vs i) then skip else main else main)
   (some (.normal,Mi.put (lLa hd f ws f2 vs len (W (i+1)) g ls p0 p1 p2 p3 p4 fl x0 y0 l0 x1 y1 l1 D T)))
   (bif stB (wL (aE vs i)) then bif !(DA D (eF (aE vs i))==DA D (eL (aE vs i))) then rLa hd f ws g ls p0 p1 p2 p3 p4 fl x0 y0 l0 x1 y1 l1 D T else
    bif lenB1 (aE vs i) then bif decide (W (Ic D (eF (aE vs i))-Ic D (eL (aE vs i))) > Df (wL (aE vs i))) then rLa hd f ws g ls p0 p1 p2 p3 p4 fl x0 y0 l0 x1 y1 l1 D T else
    bif lenB1 (aE vs i) then bif decide (W (Ic D (eL (aE vs i))-Ic D (eF (aE vs i))) > Df (wL (aE vs i))) then rLa hd f ws g ls p0 p1 p2 p3 p4 fl x0 y0 l0 x1 y1 l1 D T else
    qtLa D T (eF (aE vs i)) (eL (aE vs i)) (aE vs i) fun T1=>qtLa D T1 (eL (aE vs i)) (eF (aE vs i)) (aE vs i) fun T2=>some (.normal,Mi.put (lLa hd f ws f2 vs len (W (i+1)) g ls p0 p1 p2 p3 p4 fl x0 y0 l0 x1 y1 l1 D T2))
    else none else none else none)
 else none
 else some (xLa hd f ws g ls p0 p1 p2 p3 p4 fl x0 y0 l0 x1 y1 l1 D T):=by kernel_rfl
def IC (D T:List (PV × PV)) (a b e:PV):List (PV × PV):=bif DA D (eF e)&&Mj D a b e then Ej T a (bv true) else T
theorem qtLa_eq {D T:List (PV × PV)} {a b e:PV} {k:List (PV × PV)->Option (PX × List PV × List Row)} (h:lenB1 e=true):qtLa D T a b e k=k (IC D T a b e):=by
 unfold qtLa IC;rw[h];cases DA D (eF e) with
 | false=>rfl
 | true=>cases Mj D a b e <;> rfl
def LH (D:List (PV × PV)) (fl:Bool) (T:List (PV × PV)) (e:PV):List (PV × PV):=bif fl&&Lc e then T else IC D (IC D T (eF e) (eL e) e) (eL e) (eF e) e
def tFin (D:List (PV × PV)) (fl:Bool) (T:List (PV × PV)) (vs:List PV):List (PV × PV):=vs.foldl (LH D fl) T
def OkLe (D:List (PV × PV)) (fl:Bool) (e:PV):Prop:=(fl&&Lc e)=true\/(stB (wL e)=true/\lenB1 e=true/\DA D (eF e)=DA D (eL e)/\¬ W (Ic D (eF e)-Ic D (eL e)) > Df (wL e)/\¬ W (Ic D (eL e)-Ic D (eF e)) > Df (wL e))
noncomputable def pLa:LS->Bool
 | ([.b _,.l _ _,.l _ vs,.i len,.i i],.l _ _::.i _::.i _::.i _::.i _::.i _::.b fl::.i _::.i _::.i _::.i _::.i _::.i _::.m D::.m _::[])=>dB (len=(vs.length:Int)/\0<=i/\i<=len/\vs.length<=1000/\∀ e ∈ vs,OkLe D fl e)
 | _=>false
noncomputable def fLa:LS->DT (PX × List PV × List Row)
 | ([.b hd,.l f ws,.l _ vs,.i _,.i i],.l g ls::.i p0::.i p1::.i p2::.i p3::.i p4::.b fl::.i x0::.i y0::.i l0::.i x1::.i y1::.i l1::.m D::.m T::[])=>.leaf (xLa hd f ws g ls p0 p1 p2 p3 p4 fl x0 y0 l0 x1 y1 l1 D (tFin D fl T (vs.drop i.toNat)))
 | _=>.no
def mLa:LS->Nat
 | ([.b _,.l _ _,.l _ _,.i len,.i i],_)=>(len-i).toNat
 | _=>0
theorem sLa:∀ s r,pLa s=true->(fLa s).run=some r->r.1 ≠ .normal/\(CR Try.prog L6 60 5 (CZ Try.f5 11) [1,3,4,5,8,11,56,57,58] [1,2,3,4,5,8,11] (Mi.put s).1 (Mi.put s).2=some r \/
   ∃ s',CR Try.prog L6 60 5 (CZ Try.f5 11) [1,3,4,5,8,11,56,57,58] [1,2,3,4,5,8,11] (Mi.put s).1 (Mi.put s).2=some (.normal,Mi.put s')/\pLa s'=true/\mLa s'<mLa s/\(fLa s').run=some r):=by
 intro t r hp hr;unfold pLa at hp;split at hp
 ·rename_i hd f ws f2 vs len i g ls p0 p1 p2 p3 p4 fl x0 y0 l0 x1 y1 l1 D T;rw[D3] at hp;obtain⟨rfl,h1,h2,h3,h4⟩:=hp;have hr':=(Ah hr).symm;refine⟨by rw[hr'];simp,?_⟩;rw[show Mi.put ([.b hd,.l f ws,.l f2 vs,.i (vs.length:Int),.i i],[.l g ls,.i p0,.i p1,.i p2,.i p3,.i p4,.b fl,.i x0,.i y0,.i l0,.i x1,.i y1,.i l1,.m D,.m T])=Mi.put (lLa hd f ws f2 vs vs.length i g ls p0 p1 p2 p3 p4 fl x0 y0 l0 x1 y1 l1 D T) from rfl,qLa];by_cases hi:i<(vs.length:Int)
  ·have hm:aE vs i ∈ vs:=by
    show vs.getD i.toNat .any ∈ vs
    rw[AA,Ae (by omega)];exact Bl _
   have hW:W (i+1)=i+1:=Dc (by omega) (by omega);have hd2:=Db h1 hi;rw[Ac hi,D1 h1 hi,hW];simp only[Am];refine .inr ⟨lLa hd f ws f2 vs vs.length (i+1) g ls p0 p1 p2 p3 p4 fl x0 y0 l0 x1 y1 l1 D (LH D fl T (aE vs i)),?_,by unfold pLa;rw[D3];exact⟨rfl,by omega,by omega,h3,h4⟩,by simp only[mLa];omega,?_⟩
   ·rcases h4 _ hm with hs | ⟨k1,k2,k3,k4,k5⟩
    ·rw[Aa] at hs;unfold LH;rw[hs.1,hs.2];rfl
    ·rw[k1,k2,k3,Aj k4,Aj k5,AR];simp only[BP,At,Am];rw[qtLa_eq k2];rw[qtLa_eq k2];unfold LH;cases hf:fl with
     | false=>rfl
     | true=>cases Lc (aE vs i) <;> rfl
   ·rw[hr',hd2];rfl
  ·rw[Aj hi];rw[AG (by omega)] at hr';exact .inl (by rw[hr'];rfl)
 ·cases hp
noncomputable def Y1e:CO:=L6.C8 5 11 [1,3,4,5,8,11,56,57,58] [true,true,true,false,false] Mi pLa fLa
theorem okY1e:Ck Try.prog Y1e.env:=
 okL6.C8 (n:=60) Try.func5 (show Try.f5.body=some (DL Try.f5) by kernel_rfl) (show (loops (DL Try.f5)).filter (fun b=>Ed b==11)=[CZ Try.f5 11] by kernel_rfl) [1,3,4,5,8,11,56,57,58] [1,2,3,4,5,8,11] [true,true,true,false,false] Mi mLa sLa
noncomputable def Y2e:CO:=Y1e.addIns Try.prog kts
theorem okY2e:Ck Try.prog Y2e.env:=okY1e.addIns kts_ok
theorem mlL0:(FJ (CZ Try.f5 25)).isSome=true:=by kernel_rfl
noncomputable def mlL:ML:=(FJ (CZ Try.f5 25)).get mlL0
theorem mlL_eq:FJ (CZ Try.f5 25)=some mlL:=(Option.some_get mlL0).symm
theorem mlL_out:mlL.out=2:=by kernel_rfl
theorem mlL_it:mlL.it=128:=by kernel_rfl
theorem mlL_d1:mlL.d1=129:=by kernel_rfl
theorem mlL_q:mlL.q=130:=by kernel_rfl
abbrev sLm (hd f:Bool) (ws:List PV):List PV:=tm 162 [(1,.ptr 0 1 0 0),(3,bv hd),(4,.CQ f 49 ws),(5,.ptr 1 1 0 0),(8,.mp 3),(11,.mp 4),(128,.mp 5)]
abbrev hLm (g:Bool) (ls:List PV) (p0 p1 p2 p3 p4:Int) (fl:Bool) (x0 y0 l0 x1 y1 l1:Int) (D:List (PV × PV)) (T:List (PV × PV)) (s:ItS):List Row:=[r1 25 7 (csV g ls p0 p1 p2 p3 p4 fl),F7 x0 y0 l0,F7 x1 y1 l1,Nl 30 3 D,Dd k0 30 4 T,C9 (.mp 3) s]
abbrev tgtB (T:List (PV × PV)) (k:PV):Bool:=((EG (.val (.bool false)) T k).cellAt 0).getB
theorem qLm (hd f:Bool) (ws:List PV) (g:Bool) (ls:List PV) (p0 p1 p2 p3 p4:Int) (fl:Bool) (x0 y0 l0 x1 y1 l1:Int) (D:List (PV × PV)) (T:List (PV × PV)) (bm s:Nat) (seen:Array Nat) (ck:Nat) (x y z n:Int):
  rndM Try.prog Y2e 60 5 mlL [1,3,4,5,8,11,128] (sLm hd f ws) (hLm g ls p0 p1 p2 p3 p4 fl x0 y0 l0 x1 y1 l1 D T (.at bm s seen ck)) (Dy x y z) (iv n) =
 bif okPt ws then bif !tgtB T (Dy x y z) then none else bif !(D7 ws fl (x0,y0,l0) (x,y,z)).isSome then none else bif !(oC (D7 ws fl (x0,y0,l0) (x,y,z))==n) then none else bif decide (n<0) then none else
  some (sLm hd f ws,hLm g ls p0 p1 p2 p3 p4 fl x0 y0 l0 x1 y1 l1 D T (.at bm s seen ck)) else none:=by kernel_rfl
def OkEn (ws:List PV) (fl:Bool) (s:T3) (T:List (PV × PV)) (kv:PV × PV):Prop:=∃ x y z n,kv=(Dy x y z,iv n)/\tgtB T (Dy x y z)=true/\(D7 ws fl s (x,y,z)).isSome=true/\oC (D7 ws fl s (x,y,z))=n/\0<=n
theorem mapLm {hd f:Bool} {ws:List PV} {g:Bool} {ls:List PV} {p0 p1 p2 p3 p4:Int} {fl:Bool} {x0 y0 l0 x1 y1 l1:Int} {D:List (PV × PV)} {T:List (PV × PV)} (hw:okPt ws=true) (hk:∀ kv ∈ D,OkEn ws fl (x0,y0,l0) T kv):
  MLoop Try.prog Y2e 60 5 mlL [1,3,4,5,8,11,128] 5 3 D.length (fun _ kv=>kv ∈ D) (fun _=>(sLm hd f ws,hLm g ls p0 p1 p2 p3 p4 fl x0 y0 l0 x1 y1 l1 D T .some)) where
 ne:=by decide
 hd:=fun vis=>by rw[mlL_d1,mlL_q];exact⟨show 129<162 by decide,show 130<162 by decide⟩
 hS:=fun vis=>by rw[mlL_it];rfl
 hi:=fun vis=>rfl
 hm:=fun vis=>⟨_,_,rfl,rfl,rfl⟩
 G2:=fun vis C bm s hH hR hρ=>by
  have hrow:C.H[3]? = some (Nl 30 3 D):=by rw[hH];rfl
  obtain⟨D',hp,hB,_⟩:=(hR.Hw 3 bm _ ⟨k0,.F6 30 3 D⟩ hρ hrow rfl rfl).mpp 30 3 D rfl;obtain⟨es,ck,h1,h2,h3,h4⟩:=hB.mem;refine⟨es,by rw[h1,h3,hp.length_eq],by rw[h2,hp.length_eq],fun j e he => ?_⟩;have hj:j<D'.length:=by rw[<- h2];exact (Aq.1 he).1
  obtain⟨g1,g2,g3⟩:=h4 j D'[j].1 D'[j].2 e (by rw[Ae hj]) he;exact⟨g1,D'[j],hp.mem_iff.1 (Bl hj),g2,g3⟩
 step:=fun vis j kv bm s seen ck hok hkv hn hj hlt hjN=>by
  obtain⟨x,y,z,n,rfl,k1,k2,k3,k4⟩:=hk kv hkv;refine (qLm hd f ws g ls p0 p1 p2 p3 p4 fl x0 y0 l0 x1 y1 l1 D T bm s seen ck x y z n).trans ?_;rw[hw,k1,k2,k3,AR,Aj (show ¬ n<0 by omega)];rfl
def shLm:S1:=⟨162,[(1,.ptr 0 1 0 0),(3,.bool),(4,.CQ 49),(5,.ptr 1 1 0 0),(8,.mp 3),(11,.mp 4),(128,.mp 5)],[qcsX,qspX,qspX,.F6 30 3,.map 30 4,.itr 3]⟩
abbrev lLm (hd f:Bool) (ws:List PV) (g:Bool) (ls:List PV) (p0 p1 p2 p3 p4:Int) (fl:Bool) (x0 y0 l0 x1 y1 l1:Int) (D:List (PV × PV)) (T:List (PV × PV)) (N:Nat):LS:=([.b hd,.l f ws],[.l g ls,.i p0,.i p1,.i p2,.i p3,.i p4,.b fl,.i x0,.i y0,.i l0,.i x1,.i y1,.i l1,.m D,.m T,.n N])
noncomputable def pLm:LS->Bool
 | ([.b _,.l _ ws],.l _ _::.i _::.i _::.i _::.i _::.i _::.b fl::.i x0::.i y0::.i l0::.i _::.i _::.i _::.m D::.m T::.n N::[])=>dB (N=D.length/\okPt ws=true/\∀ kv ∈ D,OkEn ws fl (x0,y0,l0) T kv)
 | _=>false
noncomputable def fLm:LS->DT (PX × List PV × List Row)
 | ([.b hd,.l f ws],.l g ls::.i p0::.i p1::.i p2::.i p3::.i p4::.b fl::.i x0::.i y0::.i l0::.i x1::.i y1::.i l1::.m D::.m T::.n _::[])=>.leaf (.exit 2,sLm hd f ws,hLm g ls p0 p1 p2 p3 p4 fl x0 y0 l0 x1 y1 l1 D T .some)
 | _=>.no
noncomputable def Y3e:CO:=Y2e.C8 5 25 [1,3,4,5,8,11,128] [true,true,true,false,false,false] shLm pLm fLm
theorem okY3e:Ck Try.prog Y3e.env:=by
 refine okY2e.addML (n:=60) Try.func5 (show Try.f5.body=some (DL Try.f5) by kernel_rfl) (show (loops (DL Try.f5)).filter (fun b=>Ed b==25)=[CZ Try.f5 25] by kernel_rfl) mlL_eq [1,3,4,5,8,11,128] [1,3,4,5,8,11,128] [true,true,true,false,false,false] shLm fun s r hp hr => ?_
 unfold pLm at hp;split at hp
 ·rename_i hd f ws g ls p0 p1 p2 p3 p4 fl x0 y0 l0 x1 y1 l1 D T N;rw[D3] at hp;obtain⟨rfl,h1,h2⟩:=hp;have hr':=(Ah hr).symm;subst hr';refine⟨by rw[mlL_out],5,3,D.length,(fun _ kv=>kv ∈ D),(fun _=>(sLm hd f ws,hLm g ls p0 p1 p2 p3 p4 fl x0 y0 l0 x1 y1 l1 D T .some)),mapLm h1 h2,by kernel_rfl,by kernel_rfl,fun vis hok hpm => ?_⟩;rw[mlL_d1,mlL_q];have h3:((sLm hd f ws).set 129 .any).set 130 .any=sLm hd f ws:=by kernel_rfl
  have h4:(hLm g ls p0 p1 p2 p3 p4 fl x0 y0 l0 x1 y1 l1 D T .some).set 5 (C9 (.mp 3) .some)=hLm g ls p0 p1 p2 p3 p4 fl x0 y0 l0 x1 y1 l1 D T .some:=by kernel_rfl
  show Wk Try.prog (((sLm hd f ws).set 129 .any).set 130 .any) ((hLm g ls p0 p1 p2 p3 p4 fl x0 y0 l0 x1 y1 l1 D T .some).set 5 (C9 (.mp 3) .some)) (sLm hd f ws) (hLm g ls p0 p1 p2 p3 p4 fl x0 y0 l0 x1 y1 l1 D T .some)
  rw[h3,h4];exact Wk.refl
 ·cases hp
noncomputable abbrev leD (ls:List PV) (fr:Int) (fl:Bool):List (PV × PV):=(Fq (Gn ls) fl (EO ls fr)).map GK
noncomputable abbrev leT (ls:List PV) (fr:Int) (fl:Bool):List (PV × PV):=tFin (leD ls fr fl) fl [(FG (EO ls fr),bv true)] ((Gn ls).drop (0:Int).toNat)
theorem qLeastW (g:Bool) (ls:List PV) (p q r fr tt:Int) (fl:Bool):Dw Try.prog Y3e 60 5 [csV g ls p q r fr tt fl] =
 bif !csOk ls then some (bv true) else bif okPt (Gn ls) then bif !DA (leD ls fr fl) (FG (EO ls fr)) then some (bv false) else bif !(Ic (leD ls fr fl) (FG (EO ls fr))==0) then some (bv false) else
 bif pLa (lLa true false (Gn ls) false (Gn ls) ((Gn ls).length:Int) 0 g ls p q r fr tt fl (EO ls fr).1 (EO ls fr).2.1 (EO ls fr).2.2 (EO ls tt).1 (EO ls tt).2.1 (EO ls tt).2.2 (leD ls fr fl) [(FG (EO ls fr),bv true)]) then
 bif pLm (lLm true false (Gn ls) g ls p q r fr tt fl (EO ls fr).1 (EO ls fr).2.1 (EO ls fr).2.2 (EO ls tt).1 (EO ls tt).2.1 (EO ls tt).2.2 (leD ls fr fl) (leT ls fr fl) (leD ls fr fl).length) then some (bv true) else none else none else none:=by kernel_rfl
end Go.Hr
