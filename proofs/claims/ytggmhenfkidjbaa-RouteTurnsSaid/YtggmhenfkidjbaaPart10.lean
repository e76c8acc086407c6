import Derived.Test.YtggmhenfkidjbaaPart9
import Derived.Test.YtggmhenfkidjbaaPart5
namespace Go.Hr
open Go.Hx Go.Hg Go.Hn Go.Proofs
abbrev l28 (m:Bool) (M:List PV) (w h:Int) (n l:Nat) (j:Int) (f:Bool) (L:List PV) (a o0 o1 o2 o3 o4 o5:Int) (g:Bool) (N:List PV) (c:Int) (nl:Bool) (es:List PV):LS:=([.l m M,.i w,.i h,.n n,.n l,.i j],[.l f L,.i a,.i o0,.i o1,.i o2,.i o3,.i o4,.i o5,.l g N,.i c,.l nl es])
def sh28:S1:=shEd [(15,C5)]
def sh35:S1:=shEd [(17,C5)]
noncomputable def MB4:CP:=MB3.GY 53 28 [(5,3,0),(14,147,4)]
theorem okMB4:Ck Try.prog MB4.env:=okMB3.GY 53 28 [(5,3,0),(14,147,4)]
noncomputable abbrev x28 (m:Bool) (M:List PV) (w h:Int) (f:Bool) (L:List PV) (a o0 o1 o2 o3 o4 o5:Int) (N:List PV) (s:Ey):PX × List PV × List Row:=
 (.exit 4,tm 208 [(5,.CR m 3 M),(7,.ptr 0 1 0 0),(8,iv w),(9,iv h),(10,.ptr 1 1 0 0),(13,.ptr 2 1 0 0),(14,.sl 3 s.1.length 0 s.1.length)],[Hy f L a,arR o0 o1 o2 o3 o4 o5,Hy s.2.1 N s.2.2.1,edR s.2.2.2 s.1])
theorem q28 (m:Bool) (M:List PV) (w h:Int) (es:List PV) (j:Int) (f:Bool) (L:List PV) (a o0 o1 o2 o3 o4 o5:Int) (g:Bool) (N:List PV) (c:Int) (nl:Bool):
 CT Try.prog MB4 60 53 (C4 Try.f53 28) [5,7,8,9,10,13,14,15] [5,7,8,9,10,13,14] (sh28.put (l28 m M w h es.length es.length j f L a o0 o1 o2 o3 o4 o5 g N c nl es)).1 (sh28.put (l28 m M w h es.length es.length j f L a o0 o1 o2 o3 o4 o5 g N c nl es)).2 =
 bif decide (j<=h) then bif p31 (l31 m M w h es.length es.length j 0 f L a o0 o1 o2 o3 o4 o5 g N c nl es) then
  some (.normal,sh28.put (l28 m M w h (hoN M N o0 o1 o2 o3 o4 o5 w h j (w-0).toNat 0 (es,g,c,nl)).1.length (hoN M N o0 o1 o2 o3 o4 o5 w h j (w-0).toNat 0 (es,g,c,nl)).1.length (W (j+1)) f L a o0 o1 o2 o3 o4 o5 (hoN M N o0 o1 o2 o3 o4 o5 w h j (w-0).toNat 0 (es,g,c,nl)).2.1 N (hoN M N o0 o1 o2 o3 o4 o5 w h j (w-0).toNat 0 (es,g,c,nl)).2.2.1 (hoN M N o0 o1 o2 o3 o4 o5 w h j (w-0).toNat 0 (es,g,c,nl)).2.2.2 (hoN M N o0 o1 o2 o3 o4 o5 w h j (w-0).toNat 0 (es,g,c,nl)).1)) else none
 else some (x28 m M w h f L a o0 o1 o2 o3 o4 o5 N (es,g,c,nl)):=by kernel_rfl
def hjN (M N:List PV) (o0 o1 o2 o3 o4 o5 w h:Int):Nat->Int->Ey->Ey
 | 0,_,s=>s
 | m+1,j,s=>hjN M N o0 o1 o2 o3 o4 o5 w h m (j+1) (hoN M N o0 o1 o2 o3 o4 o5 w h j (w-0).toNat 0 s)
theorem hjN_bd (M N:List PV) (o0 o1 o2 o3 o4 o5 w h:Int) (hw:w<=3):∀ (m:Nat) (j:Int) (s:Ey),s.1.length<=(hjN M N o0 o1 o2 o3 o4 o5 w h m j s).1.length/\(hjN M N o0 o1 o2 o3 o4 o5 w h m j s).1.length<=s.1.length+4*m/\s.2.2.1<=(hjN M N o0 o1 o2 o3 o4 o5 w h m j s).2.2.1/\(hjN M N o0 o1 o2 o3 o4 o5 w h m j s).2.2.1<=s.2.2.1+20*m
 | 0,_,s=>by simp[hjN]
 | m+1,j,s=>by
  obtain⟨a1,a2,a3,a4⟩:=hoN_bd M N o0 o1 o2 o3 o4 o5 w h j (w-0).toNat 0 s;obtain⟨b1,b2,b3,b4⟩:=hjN_bd M N o0 o1 o2 o3 o4 o5 w h hw m (j+1) (hoN M N o0 o1 o2 o3 o4 o5 w h j (w-0).toNat 0 s);simp only[hjN];refine⟨by omega,by omega,by omega,?_⟩;have:((m+1:Nat):Int)=(m:Int)+1:=by simp
  omega
def p28:LS->Bool
 | ([.l _ _,.i w,.i h,.n n,.n l,.i j],[.l _ _,.i _,.i _,.i _,.i _,.i _,.i _,.i _,.l _ _,.i c,.l _ es])=>decide (n=es.length)&&decide (l=es.length)&&decide (0<=w)&&decide (w<=3)&&decide (0<=h)&&decide (h<=2)&&decide (0<=j)&&decide (j<=(h+1))&&decide ((es.length:Int)<=0+4*j)&&decide (0<=c)&&decide (c<=0+20*j)
 | _=>false
noncomputable def f28:LS->DT (PX × List PV × List Row)
 | ([.l m M,.i w,.i h,.n _,.n _,.i j],[.l f L,.i a,.i o0,.i o1,.i o2,.i o3,.i o4,.i o5,.l g N,.i c,.l nl es])=>.leaf (x28 m M w h f L a o0 o1 o2 o3 o4 o5 N (hjN M N o0 o1 o2 o3 o4 o5 w h ((h+1)-j).toNat j (es,g,c,nl)))
 | _=>.no
def m28:LS->Nat
 | ([.l _ _,.i _,.i h,.n _,.n _,.i j],_)=>((h+1)-j).toNat
 | _=>0
theorem s28:∀ s r,p28 s=true->(f28 s).run=some r->r.1 ≠ .normal/\(CT Try.prog MB4 60 53 (C4 Try.f53 28) [5,7,8,9,10,13,14,15] [5,7,8,9,10,13,14] (sh28.put s).1 (sh28.put s).2=some r \/
   ∃ s',CT Try.prog MB4 60 53 (C4 Try.f53 28) [5,7,8,9,10,13,14,15] [5,7,8,9,10,13,14] (sh28.put s).1 (sh28.put s).2=some (.normal,sh28.put s')/\p28 s'=true/\m28 s'<m28 s/\(f28 s').run=some r):=by
 intro t r hp hr;unfold p28 at hp;split at hp
 ·rename_i m M w h n l j f L a o0 o1 o2 o3 o4 o5 g N c nl es;simp only[Aa,Ab] at hp;obtain⟨⟨⟨⟨⟨⟨⟨⟨⟨⟨rfl,rfl⟩,h2⟩,h3⟩,h4⟩,h5⟩,h6⟩,h7⟩,h8⟩,h9⟩,h10⟩:=hp;have hr':=(Ah hr).symm;refine⟨by rw[hr'];simp,?_⟩;rw[show sh28.put ([.l m M,.i w,.i h,.n es.length,.n es.length,.i j],[.l f L,.i a,.i o0,.i o1,.i o2,.i o3,.i o4,.i o5,.l g N,.i c,.l nl es])=sh28.put (l28 m M w h es.length es.length j f L a o0 o1 o2 o3 o4 o5 g N c nl es) from rfl,q28];by_cases hi:j<=h
  ·obtain⟨k,hk⟩:∃ k,((h+1)-j).toNat=k+1:=⟨((h+1)-j).toNat-1,by omega⟩;have hk2:((h+1)-(j+1)).toNat=k:=by omega
   have hp2:p31 (l31 m M w h es.length es.length j 0 f L a o0 o1 o2 o3 o4 o5 g N c nl es)=true:=by
    simp only[p31,Aa,Ab];exact⟨⟨⟨⟨⟨⟨⟨⟨⟨⟨trivial,trivial⟩,by omega⟩,by omega⟩,h3⟩,h5⟩,h6⟩,by omega⟩,by omega⟩,h9⟩,by omega⟩
   rw[Ac hi,hp2,Dc (n:=j+1) (by omega) (by omega)];simp only[Am];rw[hk] at hr';obtain⟨b1,b2,b3,b4⟩:=hoN_bd M N o0 o1 o2 o3 o4 o5 w h j (w-0).toNat 0 (es,g,c,nl);refine .inr ⟨_,rfl,?_,by simp only[m28];omega,?_⟩
   ·simp only[p28,Aa,Ab];simp only at b1 b2 b3 b4;exact⟨⟨⟨⟨⟨⟨⟨⟨⟨⟨trivial,trivial⟩,h2⟩,h3⟩,h4⟩,h5⟩,by omega⟩,by omega⟩,by omega⟩,by omega⟩,by omega⟩
   ·rw[hr'];simp only[f28,hk2,DT.run];rfl
  ·rw[Al hi];refine .inl ?_;rw[hr',show ((h+1)-j).toNat=0 by omega];rfl
 ·cases hp
noncomputable def MB5:CP:=MB4.C9 53 28 [5,7,8,9,10,13,14,15] [true,true,true,false] sh28 p28 f28
theorem okMB5:Ck Try.prog MB5.env:=
 okMB4.C9 (n:=60) Try.func53 (show Try.f53.body=some (DM Try.f53) by kernel_rfl) (show (loops (DM Try.f53)).filter (fun b=>Ee b==28)=[C4 Try.f53 28] by kernel_rfl) [5,7,8,9,10,13,14,15] [5,7,8,9,10,13,14] [true,true,true,false] sh28 m28 s28
noncomputable abbrev x35 (m:Bool) (M:List PV) (w h:Int) (f:Bool) (L:List PV) (a o0 o1 o2 o3 o4 o5:Int) (N:List PV) (s:Ey):PX × List PV × List Row:=
 (.exit 8,tm 208 [(5,.CR m 3 M),(7,.ptr 0 1 0 0),(8,iv w),(9,iv h),(10,.ptr 1 1 0 0),(13,.ptr 2 1 0 0),(14,.sl 3 s.1.length 0 s.1.length)],[Hy f L a,arR o0 o1 o2 o3 o4 o5,Hy s.2.1 N s.2.2.1,edR s.2.2.2 s.1])
theorem q35 (m:Bool) (M:List PV) (w h:Int) (es:List PV) (j:Int) (f:Bool) (L:List PV) (a o0 o1 o2 o3 o4 o5:Int) (g:Bool) (N:List PV) (c:Int) (nl:Bool):
 CT Try.prog MB5 60 53 (C4 Try.f53 35) [5,7,8,9,10,13,14,17] [5,7,8,9,10,13,14] (sh35.put (l28 m M w h es.length es.length j f L a o0 o1 o2 o3 o4 o5 g N c nl es)).1 (sh35.put (l28 m M w h es.length es.length j f L a o0 o1 o2 o3 o4 o5 g N c nl es)).2 =
 bif decide (j<h) then bif p38 (l31 m M w h es.length es.length j 0 f L a o0 o1 o2 o3 o4 o5 g N c nl es) then
  some (.normal,sh35.put (l28 m M w h (veN M N o0 o1 o2 o3 o4 o5 w h j ((w+1)-0).toNat 0 (es,g,c,nl)).1.length (veN M N o0 o1 o2 o3 o4 o5 w h j ((w+1)-0).toNat 0 (es,g,c,nl)).1.length (W (j+1)) f L a o0 o1 o2 o3 o4 o5 (veN M N o0 o1 o2 o3 o4 o5 w h j ((w+1)-0).toNat 0 (es,g,c,nl)).2.1 N (veN M N o0 o1 o2 o3 o4 o5 w h j ((w+1)-0).toNat 0 (es,g,c,nl)).2.2.1 (veN M N o0 o1 o2 o3 o4 o5 w h j ((w+1)-0).toNat 0 (es,g,c,nl)).2.2.2 (veN M N o0 o1 o2 o3 o4 o5 w h j ((w+1)-0).toNat 0 (es,g,c,nl)).1)) else none
 else some (x35 m M w h f L a o0 o1 o2 o3 o4 o5 N (es,g,c,nl)):=by kernel_rfl
def vjN (M N:List PV) (o0 o1 o2 o3 o4 o5 w h:Int):Nat->Int->Ey->Ey
 | 0,_,s=>s
 | m+1,j,s=>vjN M N o0 o1 o2 o3 o4 o5 w h m (j+1) (veN M N o0 o1 o2 o3 o4 o5 w h j ((w+1)-0).toNat 0 s)
theorem vjN_bd (M N:List PV) (o0 o1 o2 o3 o4 o5 w h:Int) (hw:w<=3):∀ (m:Nat) (j:Int) (s:Ey),s.1.length<=(vjN M N o0 o1 o2 o3 o4 o5 w h m j s).1.length/\(vjN M N o0 o1 o2 o3 o4 o5 w h m j s).1.length<=s.1.length+4*m/\s.2.2.1<=(vjN M N o0 o1 o2 o3 o4 o5 w h m j s).2.2.1/\(vjN M N o0 o1 o2 o3 o4 o5 w h m j s).2.2.1<=s.2.2.1+20*m
 | 0,_,s=>by simp[vjN]
 | m+1,j,s=>by
  obtain⟨a1,a2,a3,a4⟩:=veN_bd M N o0 o1 o2 o3 o4 o5 w h j ((w+1)-0).toNat 0 s;obtain⟨b1,b2,b3,b4⟩:=vjN_bd M N o0 o1 o2 o3 o4 o5 w h hw m (j+1) (veN M N o0 o1 o2 o3 o4 o5 w h j ((w+1)-0).toNat 0 s);simp only[vjN];refine⟨by omega,by omega,by omega,?_⟩;have:((m+1:Nat):Int)=(m:Int)+1:=by simp
  omega
def p35:LS->Bool
 | ([.l _ _,.i w,.i h,.n n,.n l,.i j],[.l _ _,.i _,.i _,.i _,.i _,.i _,.i _,.i _,.l _ _,.i c,.l _ es])=>decide (n=es.length)&&decide (l=es.length)&&decide (0<=w)&&decide (w<=3)&&decide (0<=h)&&decide (h<=2)&&decide (0<=j)&&decide (j<=h)&&decide ((es.length:Int)<=16+4*j)&&decide (0<=c)&&decide (c<=100+20*j)
 | _=>false
noncomputable def f35:LS->DT (PX × List PV × List Row)
 | ([.l m M,.i w,.i h,.n _,.n _,.i j],[.l f L,.i a,.i o0,.i o1,.i o2,.i o3,.i o4,.i o5,.l g N,.i c,.l nl es])=>.leaf (x35 m M w h f L a o0 o1 o2 o3 o4 o5 N (vjN M N o0 o1 o2 o3 o4 o5 w h (h-j).toNat j (es,g,c,nl)))
 | _=>.no
def m35:LS->Nat
 | ([.l _ _,.i _,.i h,.n _,.n _,.i j],_)=>(h-j).toNat
 | _=>0
theorem s35:∀ s r,p35 s=true->(f35 s).run=some r->r.1 ≠ .normal/\(CT Try.prog MB5 60 53 (C4 Try.f53 35) [5,7,8,9,10,13,14,17] [5,7,8,9,10,13,14] (sh35.put s).1 (sh35.put s).2=some r \/
   ∃ s',CT Try.prog MB5 60 53 (C4 Try.f53 35) [5,7,8,9,10,13,14,17] [5,7,8,9,10,13,14] (sh35.put s).1 (sh35.put s).2=some (.normal,sh35.put s')/\p35 s'=true/\m35 s'<m35 s/\(f35 s').run=some r):=by
 intro t r hp hr;unfold p35 at hp;split at hp
 ·rename_i m M w h n l j f L a o0 o1 o2 o3 o4 o5 g N c nl es;simp only[Aa,Ab] at hp;obtain⟨⟨⟨⟨⟨⟨⟨⟨⟨⟨rfl,rfl⟩,h2⟩,h3⟩,h4⟩,h5⟩,h6⟩,h7⟩,h8⟩,h9⟩,h10⟩:=hp;have hr':=(Ah hr).symm;refine⟨by rw[hr'];simp,?_⟩;rw[show sh35.put ([.l m M,.i w,.i h,.n es.length,.n es.length,.i j],[.l f L,.i a,.i o0,.i o1,.i o2,.i o3,.i o4,.i o5,.l g N,.i c,.l nl es])=sh35.put (l28 m M w h es.length es.length j f L a o0 o1 o2 o3 o4 o5 g N c nl es) from rfl,q35];by_cases hi:j<h
  ·obtain⟨k,hk⟩:∃ k,(h-j).toNat=k+1:=⟨(h-j).toNat-1,by omega⟩;have hk2:(h-(j+1)).toNat=k:=by omega
   have hp2:p38 (l31 m M w h es.length es.length j 0 f L a o0 o1 o2 o3 o4 o5 g N c nl es)=true:=by
    simp only[p38,Aa,Ab];exact⟨⟨⟨⟨⟨⟨⟨⟨⟨⟨trivial,trivial⟩,by omega⟩,by omega⟩,h3⟩,h5⟩,h6⟩,by omega⟩,by omega⟩,h9⟩,by omega⟩
   rw[Ac hi,hp2,Dc (n:=j+1) (by omega) (by omega)];simp only[Am];rw[hk] at hr';obtain⟨b1,b2,b3,b4⟩:=veN_bd M N o0 o1 o2 o3 o4 o5 w h j ((w+1)-0).toNat 0 (es,g,c,nl);refine .inr ⟨_,rfl,?_,by simp only[m35];omega,?_⟩
   ·simp only[p35,Aa,Ab];simp only at b1 b2 b3 b4;exact⟨⟨⟨⟨⟨⟨⟨⟨⟨⟨trivial,trivial⟩,h2⟩,h3⟩,h4⟩,h5⟩,by omega⟩,by omega⟩,by omega⟩,by omega⟩,by omega⟩
   ·rw[hr'];simp only[f35,hk2,DT.run];rfl
  ·rw[Al hi];refine .inl ?_;rw[hr',show (h-j).toNat=0 by omega];rfl
 ·cases hp
noncomputable def MB6:CP:=MB5.C9 53 35 [5,7,8,9,10,13,14,17] [true,true,true,false] sh35 p35 f35
theorem okMB6:Ck Try.prog MB6.env:=
 okMB5.C9 (n:=60) Try.func53 (show Try.f53.body=some (DM Try.f53) by kernel_rfl) (show (loops (DM Try.f53)).filter (fun b=>Ee b==35)=[C4 Try.f53 35] by kernel_rfl) [5,7,8,9,10,13,14,17] [5,7,8,9,10,13,14] [true,true,true,false] sh35 m35 s35
noncomputable def MO1:CP:=MB6.GY 53 15 [(5,3,0),(6,3,0)]
theorem okMO1:Ck Try.prog MO1.env:=okMB6.GY 53 15 [(5,3,0),(6,3,0)]
def GG:S1:=⟨208,[(5,.CR 3),(6,.CR 3),(7,.ptr 0 1 0 0),(8,C5),(9,C5),(10,.ptr 1 1 0 0),(11,C5)],[.one 103 2 (.agg [.CR 3,C5]),.one 128 6 (.agg [C5,C5,C5,C5,C5,C5])]⟩
abbrev l15 (m:Bool) (M:List PV) (g:Bool) (N:List PV) (w h i:Int) (f:Bool) (L:List PV) (a o0 o1 o2 o3 o4 o5:Int):LS:=([.l m M,.l g N,.i w,.i h,.i i],[.l f L,.i a,.i o0,.i o1,.i o2,.i o3,.i o4,.i o5])
noncomputable abbrev x15 (m:Bool) (M:List PV) (g:Bool) (N:List PV) (w h:Int) (f:Bool) (L:List PV) (a o0 o1 o2 o3 o4 o5:Int):PX × List PV × List Row:=
 (.exit 0,tm 208 [(5,.CR m 3 M),(6,.CR g 3 N),(7,.ptr 0 1 0 0),(8,iv w),(9,iv h),(10,.ptr 1 1 0 0)],[Hy f L a,arR o0 o1 o2 o3 o4 o5])
abbrev bsO (w i j:Int):Int:=W (W (21+i)+W (w*j))
noncomputable abbrev n15 (m:Bool) (M:List PV) (g:Bool) (N:List PV) (w h i:Int) (f:Bool) (L:List PV) (a o0 o1 o2 o3 o4 o5:Int):Option (PX × List PV × List Row):=some (.normal,GG.put (l15 m M g N w h i f L a o0 o1 o2 o3 o4 o5))
abbrev c0 (L:List PV) (a:Int):Bool:=cond true (dI L a 5==0) false
theorem q15a (m:Bool) (M:List PV) (g:Bool) (N:List PV) (w:Int) (f:Bool) (L:List PV) (a o0 o1 o2 o3 o4 o5:Int):CT Try.prog MO1 60 53 (C4 Try.f53 15) [5,6,7,8,9,10,11] [5,6,7,8,9,10] (GG.put (l15 m M g N w 1 0 f L a o0 o1 o2 o3 o4 o5)).1 (GG.put (l15 m M g N w 1 0 f L a o0 o1 o2 o3 o4 o5)).2 =
 bif decide (0<w) then n15 m M g N w 1 1 f L a (bsO w 0 0) o1 o2 o3 o4 o5 else some (x15 m M g N w 1 f L a o0 o1 o2 o3 o4 o5):=by kernel_rfl
theorem q15b (m:Bool) (M:List PV) (g:Bool) (N:List PV) (w:Int) (f:Bool) (L:List PV) (a o0 o1 o2 o3 o4 o5:Int):CT Try.prog MO1 60 53 (C4 Try.f53 15) [5,6,7,8,9,10,11] [5,6,7,8,9,10] (GG.put (l15 m M g N w 1 1 f L a o0 o1 o2 o3 o4 o5)).1 (GG.put (l15 m M g N w 1 1 f L a o0 o1 o2 o3 o4 o5)).2 =
 bif decide (1<w) then bif EG a 5 then bif c0 L a then n15 m M g N w 1 2 (fI f L a) L (aI L a) o0 o1 o0 o3 o4 o5 else n15 m M g N w 1 2 (fI f L a) L (aI L a) o0 o1 (bsO w 1 0) o3 o4 o5 else none else some (x15 m M g N w 1 f L a o0 o1 o2 o3 o4 o5):=by kernel_rfl
theorem q15c (m:Bool) (M:List PV) (g:Bool) (N:List PV) (w:Int) (f:Bool) (L:List PV) (a o0 o1 o2 o3 o4 o5:Int):CT Try.prog MO1 60 53 (C4 Try.f53 15) [5,6,7,8,9,10,11] [5,6,7,8,9,10] (GG.put (l15 m M g N w 1 2 f L a o0 o1 o2 o3 o4 o5)).1 (GG.put (l15 m M g N w 1 2 f L a o0 o1 o2 o3 o4 o5)).2 =
 bif decide (2<w) then bif EG a 5 then bif c0 L a then n15 m M g N w 1 3 (fI f L a) L (aI L a) o0 o1 o2 o3 o2 o5 else n15 m M g N w 1 3 (fI f L a) L (aI L a) o0 o1 o2 o3 (bsO w 2 0) o5 else none else some (x15 m M g N w 1 f L a o0 o1 o2 o3 o4 o5):=by kernel_rfl
theorem q15d (m:Bool) (M:List PV) (g:Bool) (N:List PV) (f:Bool) (L:List PV) (a o0 o1 o2 o3 o4 o5:Int):CT Try.prog MO1 60 53 (C4 Try.f53 15) [5,6,7,8,9,10,11] [5,6,7,8,9,10] (GG.put (l15 m M g N 3 1 3 f L a o0 o1 o2 o3 o4 o5)).1 (GG.put (l15 m M g N 3 1 3 f L a o0 o1 o2 o3 o4 o5)).2 =
 some (x15 m M g N 3 1 f L a o0 o1 o2 o3 o4 o5):=by kernel_rfl
theorem q15g (m:Bool) (M:List PV) (g:Bool) (N:List PV) (f:Bool) (L:List PV) (a o0 o1 o2 o3 o4 o5:Int):CT Try.prog MO1 60 53 (C4 Try.f53 15) [5,6,7,8,9,10,11] [5,6,7,8,9,10] (GG.put (l15 m M g N 2 2 2 f L a o0 o1 o2 o3 o4 o5)).1 (GG.put (l15 m M g N 2 2 2 f L a o0 o1 o2 o3 o4 o5)).2 =
 some (x15 m M g N 2 2 f L a o0 o1 o2 o3 o4 o5):=by kernel_rfl
theorem q15e (m:Bool) (M:List PV) (g:Bool) (N:List PV) (w:Int) (f:Bool) (L:List PV) (a o0 o1 o2 o3 o4 o5:Int):CT Try.prog MO1 60 53 (C4 Try.f53 15) [5,6,7,8,9,10,11] [5,6,7,8,9,10] (GG.put (l15 m M g N w 2 0 f L a o0 o1 o2 o3 o4 o5)).1 (GG.put (l15 m M g N w 2 0 f L a o0 o1 o2 o3 o4 o5)).2 =
 bif decide (0<w) then bif EG a 5 then bif c0 L a then n15 m M g N w 2 1 (fI f L a) L (aI L a) (bsO w 0 0) (bsO w 0 0) o2 o3 o4 o5 else n15 m M g N w 2 1 (fI f L a) L (aI L a) (bsO w 0 0) (bsO w 0 1) o2 o3 o4 o5 else none else some (x15 m M g N w 2 f L a o0 o1 o2 o3 o4 o5):=by kernel_rfl
noncomputable def f15B (m:Bool) (M:List PV) (g:Bool) (N:List PV) (w:Int) (f:Bool) (L:List PV) (a o0 o1 o4 o5:Int) (p q:Int):Option (PX × List PV × List Row):=
 bif EG a 5 then bif c0 L a then n15 m M g N w 2 2 (fI f L a) L (aI L a) o0 o1 p p o4 o5 else n15 m M g N w 2 2 (fI f L a) L (aI L a) o0 o1 p q o4 o5 else none
noncomputable def f15A (m:Bool) (M:List PV) (g:Bool) (N:List PV) (w:Int) (f:Bool) (L:List PV) (a o0 o1 o4 o5:Int) (p:Int):Option (PX × List PV × List Row):=
 bif EG a 5 then bif c0 L a then f15B m M g N w (fI f L a) L (aI L a) o0 o1 o4 o5 p o1 else f15B m M g N w (fI f L a) L (aI L a) o0 o1 o4 o5 p (bsO w 1 1) else none
theorem q15f (m:Bool) (M:List PV) (g:Bool) (N:List PV) (w:Int) (f:Bool) (L:List PV) (a o0 o1 o2 o3 o4 o5:Int):CT Try.prog MO1 60 53 (C4 Try.f53 15) [5,6,7,8,9,10,11] [5,6,7,8,9,10] (GG.put (l15 m M g N w 2 1 f L a o0 o1 o2 o3 o4 o5)).1 (GG.put (l15 m M g N w 2 1 f L a o0 o1 o2 o3 o4 o5)).2 =
 bif decide (1<w) then bif EG a 5 then bif c0 L a then f15A m M g N w (fI f L a) L (aI L a) o0 o1 o4 o5 o0 else f15A m M g N w (fI f L a) L (aI L a) o0 o1 o4 o5 (bsO w 1 0) else none else some (x15 m M g N w 2 f L a o0 o1 o2 o3 o4 o5):=by kernel_rfl
abbrev OS:=Bool × Int × Int × Int × Int × Int × Int × Int
def ofS (w h i:Int) (L:List PV):OS->OS
 | (f,a,o0,o1,o2,o3,o4,o5) =>
  bif decide (h=1) then
   bif decide (i=0) then (f,a,bsO w 0 0,o1,o2,o3,o4,o5) else
   bif decide (i=1) then (fI f L a,aI L a,o0,o1,bif c0 L a then o0 else bsO w 1 0,o3,o4,o5) else
   (fI f L a,aI L a,o0,o1,o2,o3,bif c0 L a then o2 else bsO w 2 0,o5)
  else
   bif decide (i=0) then (fI f L a,aI L a,bsO w 0 0,bif c0 L a then bsO w 0 0 else bsO w 0 1,o2,o3,o4,o5) else
   (f1 f L a 3,a1 L a 3,o0,o1,bif c0 L a then o0 else bsO w 1 0,bif c0 L (a1 L a 2) then (bif c0 L a then o0 else bsO w 1 0) else (bif c0 L (a1 L a 1) then o1 else bsO w 1 1),o4,o5)
def ofN (w h:Int) (L:List PV):Nat->Int->OS->OS
 | 0,_,s=>s
 | m+1,i,s=>ofN w h L m (i+1) (ofS w h i L s)
theorem ofS_a (w h i:Int) (L:List PV) (s:OS):s.2.1<=(ofS w h i L s).2.1/\(ofS w h i L s).2.1<=s.2.1+3:=by
 obtain⟨f,a,o0,o1,o2,o3,o4,o5⟩:=s;have h1:=FG L a;have h3:=GQ L a 3;unfold ofS;cases decide (h=1) <;> cases decide (i=0) <;> cases decide (i=1) <;> simp only[Am,Av] <;> omega
theorem ofN_a (w h:Int) (L:List PV):∀ (m:Nat) (i:Int) (s:OS),s.2.1<=(ofN w h L m i s).2.1/\(ofN w h L m i s).2.1<=s.2.1+3*m
 | 0,_,s=>by simp[ofN]
 | m+1,i,s=>by
  have h1:=ofS_a w h i L s;have h2:=ofN_a w h L m (i+1) (ofS w h i L s);simp only[ofN];have:((m+1:Nat):Int)=(m:Int)+1:=by simp
  omega
noncomputable abbrev lO (m:Bool) (M:List PV) (g:Bool) (N:List PV) (w h i:Int) (L:List PV) (s:OS):LS:=l15 m M g N w h i s.1 L s.2.1 s.2.2.1 s.2.2.2.1 s.2.2.2.2.1 s.2.2.2.2.2.1 s.2.2.2.2.2.2.1 s.2.2.2.2.2.2.2
noncomputable abbrev xO (m:Bool) (M:List PV) (g:Bool) (N:List PV) (w h:Int) (L:List PV) (s:OS):PX × List PV × List Row:=x15 m M g N w h s.1 L s.2.1 s.2.2.1 s.2.2.2.1 s.2.2.2.2.1 s.2.2.2.2.2.1 s.2.2.2.2.2.2.1 s.2.2.2.2.2.2.2
def okO (w h:Int):Bool:=decide (1<=w)&&(decide (h=1)&&decide (w<=3)||decide (h=2)&&decide (w<=2))
def p15:LS->Bool
 | ([.l _ _,.l _ _,.i w,.i h,.i i],[.l _ _,.i a,.i _,.i _,.i _,.i _,.i _,.i _])=>okO w h&&decide (0<=i)&&decide (i<=w)&&decide (0<=a)&&decide (a<=1000000+3*i)
 | _=>false
noncomputable def f15:LS->DT (PX × List PV × List Row)
 | ([.l m M,.l g N,.i w,.i h,.i i],[.l f L,.i a,.i o0,.i o1,.i o2,.i o3,.i o4,.i o5])=>.leaf (xO m M g N w h L (ofN w h L (w-i).toNat i (f,a,o0,o1,o2,o3,o4,o5)))
 | _=>.no
def m15:LS->Nat
 | ([.l _ _,.l _ _,.i w,.i _,.i i],_)=>(w-i).toNat
 | _=>0
theorem r15 (m:Bool) (M:List PV) (g:Bool) (N:List PV) (w h i:Int) (L:List PV) (s:OS) (hok:okO w h=true) (h0:0<=i) (h1:i<w) (ha:0<=s.2.1) (ha2:s.2.1<=2000000):
 CT Try.prog MO1 60 53 (C4 Try.f53 15) [5,6,7,8,9,10,11] [5,6,7,8,9,10] (GG.put (lO m M g N w h i L s)).1 (GG.put (lO m M g N w h i L s)).2=some (.normal,GG.put (lO m M g N w h (i+1) L (ofS w h i L s))):=by
 obtain⟨f,a,o0,o1,o2,o3,o4,o5⟩:=s;simp only at ha ha2;have ok:∀ k:Nat,k<=3->EG (a1 L a k) 5=true:=fun k hk=>by
  have:=GQ L a k;unfold EG;simp;omega
 have ok0:EG a 5=true:=ok 0 (by omega);have ok1:EG (aI L a) 5=true:=ok 1 (by omega);have ok2:EG (aI L (aI L a)) 5=true:=ok 2 (by omega);unfold okO at hok;simp only[Aa,AZ,Ab] at hok;obtain⟨hw,⟨rfl,hh⟩ | ⟨rfl,hh⟩⟩:=hok
 ·have hi:i=0\/i=1\/i=2:=by omega
  rcases hi with rfl | rfl | rfl
  ·refine (q15a m M g N w f L a o0 o1 o2 o3 o4 o5).trans ?_;rw[Ac h1];rfl
  ·refine (q15b m M g N w f L a o0 o1 o2 o3 o4 o5).trans ?_;rw[Ac h1,ok0];rw[show ofS w 1 1 L (f,a,o0,o1,o2,o3,o4,o5)=(fI f L a,aI L a,o0,o1,bif c0 L a then o0 else bsO w 1 0,o3,o4,o5) from rfl];cases c0 L a <;> rfl
  ·refine (q15c m M g N w f L a o0 o1 o2 o3 o4 o5).trans ?_;rw[Ac h1,ok0];rw[show ofS w 1 2 L (f,a,o0,o1,o2,o3,o4,o5)=(fI f L a,aI L a,o0,o1,o2,o3,bif c0 L a then o2 else bsO w 2 0,o5) from rfl];cases c0 L a <;> rfl
 ·have hi:i=0\/i=1:=by omega
  rcases hi with rfl | rfl
  ·refine (q15e m M g N w f L a o0 o1 o2 o3 o4 o5).trans ?_;rw[Ac h1,ok0];rw[show ofS w 2 0 L (f,a,o0,o1,o2,o3,o4,o5)=(fI f L a,aI L a,bsO w 0 0,bif c0 L a then bsO w 0 0 else bsO w 0 1,o2,o3,o4,o5) from rfl];cases c0 L a <;> rfl
  ·refine (q15f m M g N w f L a o0 o1 o2 o3 o4 o5).trans ?_;unfold f15A f15B;rw[Ac h1,ok0,ok1,ok2];rw[show ofS w 2 1 L (f,a,o0,o1,o2,o3,o4,o5)=(f1 f L a 3,a1 L a 3,o0,o1,bif c0 L a then o0 else bsO w 1 0,bif c0 L (aI L (aI L a)) then (bif c0 L a then o0 else bsO w 1 0) else (bif c0 L (aI L a) then o1 else bsO w 1 1),o4,o5) from rfl];cases c0 L a <;> cases c0 L (aI L a) <;> cases c0 L (aI L (aI L a)) <;> rfl
theorem e15 (m:Bool) (M:List PV) (g:Bool) (N:List PV) (w h:Int) (L:List PV) (s:OS) (hok:okO w h=true):
 CT Try.prog MO1 60 53 (C4 Try.f53 15) [5,6,7,8,9,10,11] [5,6,7,8,9,10] (GG.put (lO m M g N w h w L s)).1 (GG.put (lO m M g N w h w L s)).2=some (xO m M g N w h L s):=by
 obtain⟨f,a,o0,o1,o2,o3,o4,o5⟩:=s;unfold okO at hok;simp only[Aa,AZ,Ab] at hok;obtain⟨hw,⟨rfl,hh⟩ | ⟨rfl,hh⟩⟩:=hok
 ·have hi:w=1\/w=2\/w=3:=by omega
  rcases hi with rfl | rfl | rfl
  ·exact (q15b m M g N 1 f L a o0 o1 o2 o3 o4 o5).trans (by rw[Al (by omega)];rfl)
  ·exact (q15c m M g N 2 f L a o0 o1 o2 o3 o4 o5).trans (by rw[Al (by omega)];rfl)
  ·exact q15d m M g N f L a o0 o1 o2 o3 o4 o5
 ·have hi:w=1\/w=2:=by omega
  rcases hi with rfl | rfl
  ·exact (q15f m M g N 1 f L a o0 o1 o2 o3 o4 o5).trans (by rw[Al (by omega)];rfl)
  ·exact q15g m M g N f L a o0 o1 o2 o3 o4 o5
theorem s15:∀ s r,p15 s=true->(f15 s).run=some r->r.1 ≠ .normal/\(CT Try.prog MO1 60 53 (C4 Try.f53 15) [5,6,7,8,9,10,11] [5,6,7,8,9,10] (GG.put s).1 (GG.put s).2=some r \/
   ∃ s',CT Try.prog MO1 60 53 (C4 Try.f53 15) [5,6,7,8,9,10,11] [5,6,7,8,9,10] (GG.put s).1 (GG.put s).2=some (.normal,GG.put s')/\p15 s'=true/\m15 s'<m15 s/\(f15 s').run=some r):=by
 intro t r hp hr;unfold p15 at hp;split at hp
 ·rename_i m M g N w h i f L a o0 o1 o2 o3 o4 o5;simp only[Aa,Ab] at hp;obtain⟨⟨⟨⟨h1,h2⟩,h3⟩,h4⟩,h5⟩:=hp;have hr':=(Ah hr).symm;refine⟨by rw[hr'];simp,?_⟩;have hw3:w<=3:=by
   unfold okO at h1;simp only[Aa,AZ,Ab] at h1;omega
  by_cases hi:i<w
  ·obtain⟨k,hk⟩:∃ k,(w-i).toNat=k+1:=⟨(w-i).toNat-1,by omega⟩;have hk2:(w-(i+1)).toNat=k:=by omega
   have ha:=ofS_a w h i L (f,a,o0,o1,o2,o3,o4,o5);simp only at ha;refine .inr ⟨lO m M g N w h (i+1) L (ofS w h i L (f,a,o0,o1,o2,o3,o4,o5)),r15 m M g N w h i L (f,a,o0,o1,o2,o3,o4,o5) h1 h2 hi h4 (by simp only;omega),?_,by simp only[m15];omega,?_⟩
   ·simp only[p15,Aa,Ab];exact⟨⟨⟨⟨h1,by omega⟩,by omega⟩,by omega⟩,by omega⟩
   ·rw[hr',hk];simp only[f15,hk2,DT.run,ofN]
  ·have:i=w:=by omega
   subst this;rw[show (i-i).toNat=0 by omega] at hr';exact .inl (by rw[hr'];exact e15 m M g N i h L (f,a,o0,o1,o2,o3,o4,o5) h1)
 ·cases hp
noncomputable def MO2:CP:=MO1.addWz Try.prog [true,false] 53 15 [5,6,7,8,9,10,11] [true,true] GG p15 f15
theorem okMO2:Ck Try.prog MO2.env:=
 okMO1.addWz (n:=60) Try.func53 (show Try.f53.body=some (DM Try.f53) by kernel_rfl) (show (loops (DM Try.f53)).filter (fun b=>Ee b==15)=[C4 Try.f53 15] by kernel_rfl) [true,false] [5,6,7,8,9,10,11] [5,6,7,8,9,10] [true,true] GG m15 s15
def shPu:S1:=⟨48,[(0,.CR 3),(1,C5),(5,C5)],[]⟩
abbrev lPu (f:Bool) (l:List PV) (n a:Int):LS:=([.l f l,.i n,.i a],[])
abbrev xPu (f:Bool) (l:List PV) (n a:Int):PX × List PV × List Row:=(.exit 0,tm 48 [(0,.CR f 3 l),(1,iv n),(5,iv a)],[])
theorem qPu (f:Bool) (l:List PV) (n a:Int):CT Try.prog M7 60 86 (C4 Try.f86 2) [0,1,5] [0,1,5] (shPu.put (lPu f l n a)).1 (shPu.put (lPu f l n a)).2 =
 bif decide (a > 0) then bif HW l (W (a-1)) then bif cond true (decide (nI l (W (a-1)) ≥ n)) false then some (.normal,shPu.put (lPu f l n (W (a-1)))) else some (xPu f l n a) else none else some (xPu f l n a):=by kernel_rfl
def atN (l:List PV) (n:Int):Nat->Nat
 | 0=>0
 | m+1=>bif decide (((l.getD m .any).cellAt 0).Dw ≥ n) then atN l n m else m+1
theorem atN_le (l:List PV) (n:Int):∀ m,atN l n m<=m
 | 0=>Aj _
 | m+1=>by
  have:=atN_le l n m;unfold atN;cases decide (((l.getD m .any).cellAt 0).Dw ≥ n) <;> simp only[Am,Av] <;> omega
def pPu:LS->Bool
 | ([.l _ l,.i _,.i a],[])=>decide (0<=a)&&decide (a<=(l.length:Int))&&decide (l.length<=10000)
 | _=>false
def fPu:LS->DT (PX × List PV × List Row)
 | ([.l f l,.i n,.i a],[])=>.leaf (xPu f l n (atN l n a.toNat:Nat))
 | _=>.no
def mPu:LS->Nat
 | ([.l _ _,.i _,.i a],_)=>a.toNat
 | _=>0
theorem sPu:∀ s r,pPu s=true->(fPu s).run=some r->r.1 ≠ .normal/\(CT Try.prog M7 60 86 (C4 Try.f86 2) [0,1,5] [0,1,5] (shPu.put s).1 (shPu.put s).2=some r \/
   ∃ s',CT Try.prog M7 60 86 (C4 Try.f86 2) [0,1,5] [0,1,5] (shPu.put s).1 (shPu.put s).2=some (.normal,shPu.put s')/\pPu s'=true/\mPu s'<mPu s/\(fPu s').run=some r):=by
 intro t r hp hr;unfold pPu at hp;split at hp
 ·rename_i f l n a;simp only[Aa,Ab] at hp;obtain⟨⟨h1,h2⟩,h3⟩:=hp;have hr':=(Ah hr).symm;refine⟨by rw[hr'];simp,?_⟩;rw[show shPu.put ([.l f l,.i n,.i a],[])=shPu.put (lPu f l n a) from rfl,qPu];by_cases hi:a > 0
  ·obtain⟨k,hk⟩:∃ k,a.toNat=k+1:=⟨a.toNat-1,by omega⟩;have hk2:(a-1).toNat=k:=by omega
   rw[Ac hi,Dc (n:=a-1) (by omega) (by omega),DS (by omega) (by omega)];simp only[Am];rw[hk] at hr';simp only[atN] at hr';rw[show nI l (a-1)=((l.getD k .any).cellAt 0).Dw by unfold nI;rw[hk2]];cases hb:decide (((l.getD k .any).cellAt 0).Dw ≥ n) with
   | true =>
    rw[hb,Am] at hr';refine .inr ⟨lPu f l n (a-1),rfl,by simp only[pPu,Aa,Ab];omega,by simp only[mPu];omega,?_⟩;rw[hr'];simp only[fPu,hk2,DT.run]
   | false =>
    rw[hb,Av] at hr';refine .inl ?_;rw[hr'];have:((k+1:Nat):Int)=a:=by omega
    rw[this];rfl
  ·rw[Al hi];refine .inl ?_;have ha:a=0:=by omega
   subst ha;rw[hr'];rfl
 ·cases hp
noncomputable def MP1:CP:=M7.C9 86 2 [0,1,5] [] shPu pPu fPu
theorem okMP1:Ck Try.prog MP1.env:=
 H7.C9 (n:=60) Try.func86 (show Try.f86.body=some (DM Try.f86) by kernel_rfl) (show (loops (DM Try.f86)).filter (fun b=>Ee b==2)=[C4 Try.f86 2] by kernel_rfl) [0,1,5] [0,1,5] [] shPu mPu sPu
abbrev puT (l:List PV) (A:Int):List PV:=(l.take A.toNat).drop 0
abbrev puD (l:List PV) (A:Int):List PV:=(l.take ((none:Option Int).getD (l.length:Int)).toNat).drop A.toNat
noncomputable def puK (l:List PV) (n A:Int):Option PV:=
 bif decide (0<=A)&&decide (A<=(l.length:Int)) then bif true&&decide ((0+(puT l A).length)*8<=140737488355328) then
 bif true&&decide (([]++puT l A).length=0+(puT l A).length)&&decide (0+(puT l A).length=0+(puT l A).length)&&decide ((0+(puT l A).length+1)*8<=140737488355328) then
 bif (decide (0<=A)&&decide (A<=(none:Option Int).getD (l.length:Int)))&&decide ((none:Option Int).getD (l.length:Int)<=(l.length:Int)) then
 bif true&&decide ((([]++puT l A)++[iv n]).length=0+(puT l A).length+1)&&decide (0+(puT l A).length+1=0+(puT l A).length+1)&&decide ((0+(puT l A).length+1+(puD l A).length)*8<=140737488355328) then
  JW ((([]++puT l A)++[iv n])++puD l A) (0+(puT l A).length+1+(puD l A).length) (some (.CR false 3 ((((([]++puT l A)++[iv n])++puD l A).drop 0).take (0+(puT l A).length+1+(puD l A).length))))
 else none else none else none else none else none
theorem qPut (f:Bool) (l:List PV) (n:Int):Dx Try.prog MP1 60 86 [.CR f 3 l,iv n] =
 bif pPu (lPu f l n (l.length:Int)) then
  bif decide ((atN l n (l.length:Int).toNat:Int)<(l.length:Int)) then bif HW l (atN l n (l.length:Int).toNat:Int) then bif cond true (nI l (atN l n (l.length:Int).toNat:Int)==n) false then some (.CR f 3 l) else puK l n (atN l n (l.length:Int).toNat:Int) else none
  else puK l n (atN l n (l.length:Int).toNat:Int) else none:=by kernel_rfl
def puS (l:List PV) (n:Int):Bool:=bif decide ((atN l n l.length:Int)<(l.length:Int)) then nI l (atN l n l.length:Int)==n else false
def puL (l:List PV) (n:Int):List PV:=bif puS l n then l else l.take (atN l n l.length)++iv n::l.drop (atN l n l.length)
theorem puK_of {l:List PV} {n:Int} {a:Nat} (h:a<=l.length) (hl:l.length<=1000):puK l n (a:Int)=some (.CR false 3 (l.take a++iv n::l.drop a)):=by
 have e1:puT l (a:Int)=l.take a:=by show (l.take ((a:Nat):Int).toNat).drop 0=_;simp
 have e2:puD l (a:Int)=l.drop a:=by show (l.take ((l.length:Nat):Int).toNat).drop ((a:Nat):Int).toNat=_;simp
 have e3:(none:Option Int).getD (l.length:Int)=(l.length:Int):=rfl;unfold puK JW;rw[e1,e2,e3];have l1:(l.take a).length=a:=by rw[Az];omega
 have l2:(l.drop a).length=l.length-a:=by rw[BT]
 simp only[BA,Aq,Ay,AC,AJ,l1,l2,B5,AN,decide_true,BD,AQ,Am];have c1:(decide ((0:Int)<=(a:Int))&&decide ((a:Int)<=(l.length:Int)))=true:=by simp;omega
 rw[c1,Ac (show a*8<=140737488355328 by omega),Ac (show (a+1)*8<=140737488355328 by omega),Ac (show (a+1+(l.length-a))*8<=140737488355328 by omega),Ac (show (l.length:Int)<=(l.length:Int) by omega)];simp only[Am,BD];rw[Bf (by simp;omega)];simp
theorem qPutN (f:Bool) (l:List PV) (n:Int) (hl:l.length<=1000):Dx Try.prog MP1 60 86 [.CR f 3 l,iv n]=some (.CR (puS l n&&f) 3 (puL l n)):=by
 have hp:pPu (lPu f l n (l.length:Int))=true:=by
  simp only[pPu,Aa,Ab];omega
 have ha:=atN_le l n l.length;rw[qPut,hp,show (l.length:Int).toNat=l.length by simp];simp only[Am];unfold puL puS;by_cases h:(atN l n l.length:Int)<(l.length:Int)
 ·rw[Ac h,DS (by omega) (by omega)];simp only[Am];cases nI l (atN l n l.length:Int)==n
  ·exact puK_of ha hl
  ·rfl
 ·rw[Al h];exact puK_of ha hl
def cPut:List PV->Option (DT PV)
 | [.CR f 3 l,.val (.int .i64 n)]=>some (.br (decide (l.length<=1000)) (.leaf (.CR (puS l n&&f) 3 (puL l n))) .no)
 | _=>none
theorem ePut:Hx.CV Try.prog 86:=(CL okMP1 (n:=60) (qPutN false [] 0 (by simp))).1
theorem oPut (args:List PV) (d:DT PV) (r:PV) (h:cPut args=some d) (hr:d.run=some r):Da Try.prog 86 args r:=by
 unfold cPut at h;split at h
 ·rename_i f l n;cases h;obtain⟨h1,rfl⟩:=DJ hr;exact (CL okMP1 (n:=60) (qPutN f l n (AR h1))).2
 ·cases h
theorem puL_len (l:List PV) (n:Int):l.length<=(puL l n).length/\(puL l n).length<=l.length+1:=by
 unfold puL;cases puS l n with
 | true=>simp only[Am];omega
 | false =>
  have:=atN_le l n l.length;simp only[Av,Aq,Ay,Az,BT];omega
noncomputable def MF1:CP:=((MO2.DG 86 cPut).GY 76 3 [(3,3,0)]).GY 76 11 [(5,106,5)]
theorem okMF1:Ck Try.prog MF1.env:=((okMO2.DG ePut oPut).GY 76 3 [(3,3,0)]).GY 76 11 [(5,106,5)]
abbrev fR3:List Y1:=[.one 103 2 (.agg [.CR 3,C5]),.one 128 6 (.agg [C5,C5,C5,C5,C5,C5]),.one 103 2 (.agg [.CR 3,C5]),.many 147 4]
structure FR where
 f:Bool
 L:List PV
 a:Int
 o0:Int
 o1:Int
 o2:Int
 o3:Int
 o4:Int
 o5:Int
 g:Bool
 N:List PV
 c:Int
 nl:Bool
 es:List PV
abbrev FR.rows (R:FR):List Row:=[Hy R.f R.L R.a,arR R.o0 R.o1 R.o2 R.o3 R.o4 R.o5,Hy R.g R.N R.c,edR R.nl R.es]
abbrev FR.ls (R:FR) (t:List L1):List L1:=.l R.f R.L::.i R.a::.i R.o0::.i R.o1::.i R.o2::.i R.o3::.i R.o4::.i R.o5::.l R.g R.N::.i R.c::.l R.nl R.es::t
def shF3:S1:=⟨54,[(0,.sl 3),(3,.CR 3),(4,C5)],fR3⟩
abbrev lF3 (n l:Nat) (u:Bool) (is:List PV) (k:Int) (R:FR):LS:=([.n n,.n l,.l u is,.i k],R.ls [])
noncomputable abbrev xF3 (u:Bool) (is:List PV) (R:FR):PX × List PV × List Row:=(.exit 0,tm 54 [(3,.CR u 3 is)],R.rows)
def lfA (es:List PV) (k:Int):Int:=((es.getD (0+k.toNat) .any).cellAt 2).Dw
def rtA (es:List PV) (k:Int):Int:=((es.getD (0+k.toNat) .any).cellAt 3).Dw
def lFq (es:List PV) (n l:Nat) (k:Int) {α:Type} (x:Option α):Option α:=ixR es n l k (JW es n (JW es n x))
theorem lFq_of {es:List PV} {k:Int} {α:Type} {x:Option α} (h1:0<=k) (h2:k<(es.length:Int)):lFq es es.length es.length k x=x:=by
 unfold lFq ixR JW;rw[AQ,Ac h1,Ac h2];rfl
noncomputable def nF3 (n l:Nat) (k:Int) (R:FR) (u:Bool) (is:List PV):Option (PX × List PV × List Row):=some (.normal,shF3.put (lF3 n l u is (W (k+1)) R))
noncomputable def rF3 (n l:Nat) (k:Int) (R:FR) (u:Bool) (is:List PV):Option (PX × List PV × List Row):=
 lFq R.es n l k (bif rtA R.es k != 0 then lFq R.es n l k (bif decide (is.length<=1000) then nF3 n l k R (puS is (rtA R.es k)&&u) (puL is (rtA R.es k)) else none) else nF3 n l k R u is)
theorem qF3 (n l:Nat) (u:Bool) (is:List PV) (k:Int) (f:Bool) (L:List PV) (a o0 o1 o2 o3 o4 o5:Int) (g:Bool) (N:List PV) (c:Int) (nl:Bool) (es:List PV):
 CT Try.prog MF1 60 76 (C4 Try.f76 3) [0,3,4] [3] (shF3.put (lF3 n l u is k ⟨f,L,a,o0,o1,o2,o3,o4,o5,g,N,c,nl,es⟩)).1 (shF3.put (lF3 n l u is k ⟨f,L,a,o0,o1,o2,o3,o4,o5,g,N,c,nl,es⟩)).2 =
 bif decide (k<(l:Int)) then
  lFq es n l k (bif lfA es k != 0 then lFq es n l k (bif decide (is.length<=1000) then rF3 n l k ⟨f,L,a,o0,o1,o2,o3,o4,o5,g,N,c,nl,es⟩ (puS is (lfA es k)&&u) (puL is (lfA es k)) else none) else rF3 n l k ⟨f,L,a,o0,o1,o2,o3,o4,o5,g,N,c,nl,es⟩ u is)
 else some (xF3 u is ⟨f,L,a,o0,o1,o2,o3,o4,o5,g,N,c,nl,es⟩):=by kernel_rfl
def puP (n:Int) (s:Bool × List PV):Bool × List PV:=bif n != 0 then (puS s.2 n&&s.1,puL s.2 n) else s
def faS (es:List PV) (k:Int) (s:Bool × List PV):Bool × List PV:=puP (rtA es k) (puP (lfA es k) s)
def faN (es:List PV):Nat->Int->Bool × List PV->Bool × List PV
 | 0,_,s=>s
 | m+1,k,s=>faN es m (k+1) (faS es k s)
theorem puP_len (n:Int) (s:Bool × List PV):s.2.length<=(puP n s).2.length/\(puP n s).2.length<=s.2.length+1:=by
 have:=puL_len s.2 n;unfold puP;cases n != 0 <;> simp only[Am,Av] <;> omega
theorem faS_len (es:List PV) (k:Int) (s:Bool × List PV):(faS es k s).2.length<=s.2.length+2:=by
 have h1:=puP_len (lfA es k) s;have h2:=puP_len (rtA es k) (puP (lfA es k) s);unfold faS;omega
theorem faN_len (es:List PV):∀ (m:Nat) (k:Int) (s:Bool × List PV),(faN es m k s).2.length<=s.2.length+2*m
 | 0,_,s=>by simp[faN]
 | m+1,k,s=>by
  have h1:=faS_len es k s;have h2:=faN_len es m (k+1) (faS es k s);simp only[faN];omega
def pF3:LS->Bool
 | ([.n n,.n l,.l _ is,.i k],[.l _ _,.i _,.i _,.i _,.i _,.i _,.i _,.i _,.l _ _,.i _,.l _ es])=>decide (n=es.length)&&decide (l=es.length)&&decide (0<=k)&&decide (k<=(es.length:Int))&&decide (es.length<=100)&&decide ((is.length:Int)<=2*k)
 | _=>false
noncomputable def fF3:LS->DT (PX × List PV × List Row)
 | ([.n _,.n _,.l u is,.i k],[.l f L,.i a,.i o0,.i o1,.i o2,.i o3,.i o4,.i o5,.l g N,.i c,.l nl es]) =>
  .leaf (xF3 (faN es ((es.length:Int)-k).toNat k (u,is)).1 (faN es ((es.length:Int)-k).toNat k (u,is)).2 ⟨f,L,a,o0,o1,o2,o3,o4,o5,g,N,c,nl,es⟩)
 | _=>.no
def mF3:LS->Nat
 | ([.n _,.n l,.l _ _,.i k],_)=>((l:Int)-k).toNat
 | _=>0
theorem rF3_of {R:FR} {k:Int} {u:Bool} {is:List PV} (h1:0<=k) (h2:k<(R.es.length:Int)) (h3:is.length<=1000) (h4:k<=1000):
  rF3 R.es.length R.es.length k R u is=some (.normal,shF3.put (lF3 R.es.length R.es.length (puP (rtA R.es k) (u,is)).1 (puP (rtA R.es k) (u,is)).2 (k+1) R)):=by
 unfold rF3 nF3;rw[lFq_of h1 h2,lFq_of h1 h2,Ac h3,Dc (n:=k+1) (by omega) (by omega)];unfold puP;cases rtA R.es k != 0 <;> rfl
theorem sFa3:∀ s r,pF3 s=true->(fF3 s).run=some r->r.1 ≠ .normal/\(CT Try.prog MF1 60 76 (C4 Try.f76 3) [0,3,4] [3] (shF3.put s).1 (shF3.put s).2=some r \/
   ∃ s',CT Try.prog MF1 60 76 (C4 Try.f76 3) [0,3,4] [3] (shF3.put s).1 (shF3.put s).2=some (.normal,shF3.put s')/\pF3 s'=true/\mF3 s'<mF3 s/\(fF3 s').run=some r):=by
 intro t r hp hr;unfold pF3 at hp;split at hp
 ·rename_i n l u is k f L a o0 o1 o2 o3 o4 o5 g N c nl es;simp only[Aa,Ab] at hp;obtain⟨⟨⟨⟨⟨rfl,rfl⟩,h1⟩,h2⟩,h3⟩,h4⟩:=hp;have hr':=(Ah hr).symm;refine⟨by rw[hr'];simp,?_⟩;have q:=qF3 es.length es.length u is k f L a o0 o1 o2 o3 o4 o5 g N c nl es;rw[show (shF3.put ([.n es.length,.n es.length,.l u is,.i k],[.l f L,.i a,.i o0,.i o1,.i o2,.i o3,.i o4,.i o5,.l g N,.i c,.l nl es]))=shF3.put (lF3 es.length es.length u is k ⟨f,L,a,o0,o1,o2,o3,o4,o5,g,N,c,nl,es⟩) from rfl,q];by_cases hk:k<(es.length:Int)
  ·obtain⟨j,hj⟩:∃ j,((es.length:Int)-k).toNat=j+1:=⟨((es.length:Int)-k).toNat-1,by omega⟩;have hj2:((es.length:Int)-(k+1)).toNat=j:=by omega
   have hs:=faS_len es k (u,is);have hl:=puP_len (lfA es k) (u,is);simp only at hs hl;refine .inr ⟨lF3 es.length es.length (faS es k (u,is)).1 (faS es k (u,is)).2 (k+1) ⟨f,L,a,o0,o1,o2,o3,o4,o5,g,N,c,nl,es⟩,?_,?_,by simp only[mF3];omega,?_⟩
   ·rw[Ac hk,lFq_of h1 hk,lFq_of h1 hk,Ac (show is.length<=1000 by omega)];simp only[Am];rw[rF3_of (R:=⟨f,L,a,o0,o1,o2,o3,o4,o5,g,N,c,nl,es⟩) (u:=u) (is:=is) h1 hk (by show is.length<=1000;omega) (by omega),
     rF3_of (R:=⟨f,L,a,o0,o1,o2,o3,o4,o5,g,N,c,nl,es⟩) (u:=puS is (lfA es k)&&u) (is:=puL is (lfA es k)) h1 hk (by have:=puL_len is (lfA es k);omega) (by omega)]
    unfold faS;rw[show puP (lfA es k) (u,is)=bif lfA es k != 0 then (puS is (lfA es k)&&u,puL is (lfA es k)) else (u,is) from rfl];cases lfA es k != 0 <;> rfl
   ·simp only[pF3,Aa,Ab];exact⟨⟨⟨⟨⟨trivial,trivial⟩,by omega⟩,by omega⟩,h3⟩,by omega⟩
   ·rw[hr',hj];simp only[fF3,hj2,DT.run,faN]
  ·have hz:((es.length:Int)-k).toNat=0:=by omega
   rw[Al hk];exact .inl (by rw[hr',hz];rfl)
 ·cases hp
noncomputable def MF2:CP:=MF1.C9 76 3 [0,3,4] [true,true,true,false] shF3 pF3 fF3
theorem okMF2:Ck Try.prog MF2.env:=
 okMF1.C9 (n:=60) Try.func76 (show Try.f76.body=some (DM Try.f76) by kernel_rfl) (show (loops (DM Try.f76)).filter (fun b=>Ee b==3)=[C4 Try.f76 3] by kernel_rfl) [0,3,4] [3] [true,true,true,false] shF3 mF3 sFa3
def JM:S1:=⟨54,[(3,.CR 3),(5,.sl 4),(6,C5)],[.one 103 2 (.agg [.CR 3,C5]),.one 128 6 (.agg [C5,C5,C5,C5,C5,C5]),.one 103 2 (.agg [.CR 3,C5]),.many 147 4,.many 106 5]⟩
abbrev facV (e:PV):PV:=.agg [iv (e.cellAt 0).Dw,.val (.string .empty),.val (.string .empty),iv 0,iv 0]
abbrev faR (v:Bool) (fs:List PV):Row:={ es:=fs,s:=5,t:=106,bv:=true,nl:=v }
abbrev lF11 (u:Bool) (is:List PV) (m r:Nat) (k:Int) (R:FR) (v:Bool) (fs:List PV):LS:=([.l u is,.n m,.n r,.i k],R.ls [.l v fs])
noncomputable abbrev xF11 (m r:Nat) (R:FR) (v:Bool) (fs:List PV):PX × List PV × List Row:=(.exit 2,tm 54 [(5,.sl 4 m 0 r)],R.rows++[faR v fs])
theorem qF11 (u:Bool) (is:List PV) (m r:Nat) (k:Int) (f:Bool) (L:List PV) (a o0 o1 o2 o3 o4 o5:Int) (g:Bool) (N:List PV) (c:Int) (nl:Bool) (es:List PV) (v:Bool) (fs:List PV):
 CT Try.prog MF2 60 76 (C4 Try.f76 11) [3,5,6] [5] (JM.put (lF11 u is m r k ⟨f,L,a,o0,o1,o2,o3,o4,o5,g,N,c,nl,es⟩ v fs)).1 (JM.put (lF11 u is m r k ⟨f,L,a,o0,o1,o2,o3,o4,o5,g,N,c,nl,es⟩ v fs)).2 =
 bif decide (k<(is.length:Int)) then bif HW is k then bif true&&decide (fs.length=m)&&decide (m=r)&&decide ((m+1)*56<=140737488355328) then
  some (.normal,JM.put (lF11 u is (m+1) (m+1) (W (k+1)) ⟨f,L,a,o0,o1,o2,o3,o4,o5,g,N,c,nl,es⟩ (v&&false) (fs++[facV (is.getD k.toNat .any)]))) else none else none
 else some (xF11 m r ⟨f,L,a,o0,o1,o2,o3,o4,o5,g,N,c,nl,es⟩ v fs):=by kernel_rfl
def fcN (is:List PV):Nat->Int->Bool × List PV->Bool × List PV
 | 0,_,s=>s
 | m+1,k,s=>fcN is m (k+1) (s.1&&false,s.2++[facV (is.getD k.toNat .any)])
theorem fcN_len (is:List PV):∀ (m:Nat) (k:Int) (s:Bool × List PV),(fcN is m k s).2.length=s.2.length+m
 | 0,_,_=>rfl
 | m+1,k,s=>by
  simp only[fcN];rw[fcN_len is m];simp;omega
def pF11:LS->Bool
 | ([.l _ is,.n m,.n r,.i k],[.l _ _,.i _,.i _,.i _,.i _,.i _,.i _,.i _,.l _ _,.i _,.l _ _,.l _ fs])=>decide (m=fs.length)&&decide (r=fs.length)&&decide (0<=k)&&decide (k<=(is.length:Int))&&decide (is.length<=1000)&&decide ((fs.length:Int)=k)
 | _=>false
noncomputable def fF11:LS->DT (PX × List PV × List Row)
 | ([.l _ is,.n _,.n _,.i k],[.l f L,.i a,.i o0,.i o1,.i o2,.i o3,.i o4,.i o5,.l g N,.i c,.l nl es,.l v fs]) =>
  .leaf (xF11 is.length is.length ⟨f,L,a,o0,o1,o2,o3,o4,o5,g,N,c,nl,es⟩ (fcN is ((is.length:Int)-k).toNat k (v,fs)).1 (fcN is ((is.length:Int)-k).toNat k (v,fs)).2)
 | _=>.no
def mF11:LS->Nat
 | ([.l _ is,.n _,.n _,.i k],_)=>((is.length:Int)-k).toNat
 | _=>0
theorem sF11:∀ s r,pF11 s=true->(fF11 s).run=some r->r.1 ≠ .normal/\(CT Try.prog MF2 60 76 (C4 Try.f76 11) [3,5,6] [5] (JM.put s).1 (JM.put s).2=some r \/
   ∃ s',CT Try.prog MF2 60 76 (C4 Try.f76 11) [3,5,6] [5] (JM.put s).1 (JM.put s).2=some (.normal,JM.put s')/\pF11 s'=true/\mF11 s'<mF11 s/\(fF11 s').run=some r):=by
 intro t r hp hr;unfold pF11 at hp;split at hp
 ·rename_i u is m r k f L a o0 o1 o2 o3 o4 o5 g N c nl es v fs;simp only[Aa,Ab] at hp;obtain⟨⟨⟨⟨⟨rfl,rfl⟩,h1⟩,h2⟩,h3⟩,h4⟩:=hp;have hr':=(Ah hr).symm;refine⟨by rw[hr'];simp,?_⟩;have q:=qF11 u is fs.length fs.length k f L a o0 o1 o2 o3 o4 o5 g N c nl es v fs;rw[show (JM.put ([.l u is,.n fs.length,.n fs.length,.i k],[.l f L,.i a,.i o0,.i o1,.i o2,.i o3,.i o4,.i o5,.l g N,.i c,.l nl es,.l v fs]))=JM.put (lF11 u is fs.length fs.length k ⟨f,L,a,o0,o1,o2,o3,o4,o5,g,N,c,nl,es⟩ v fs) from rfl,q];by_cases hk:k<(is.length:Int)
  ·obtain⟨j,hj⟩:∃ j,((is.length:Int)-k).toNat=j+1:=⟨((is.length:Int)-k).toNat-1,by omega⟩;have hj2:((is.length:Int)-(k+1)).toNat=j:=by omega
   refine .inr ⟨lF11 u is (fs.length+1) (fs.length+1) (k+1) ⟨f,L,a,o0,o1,o2,o3,o4,o5,g,N,c,nl,es⟩ (v&&false) (fs++[facV (is.getD k.toNat .any)]),?_,?_,by simp only[mF11];omega,?_⟩
   ·rw[Ac hk,DS h1 hk,Dc (n:=k+1) (by omega) (by omega),Ac (show fs.length=fs.length from rfl),Ac (show (fs.length+1)*56<=140737488355328 by omega)];rfl
   ·simp only[pF11,Aa,Ab,Aq,Ay,AC];exact⟨⟨⟨⟨⟨trivial,trivial⟩,by omega⟩,by omega⟩,h3⟩,by omega⟩
   ·rw[hr',hj];simp only[fF11,hj2,DT.run,fcN]
  ·have hz:((is.length:Int)-k).toNat=0:=by omega
   rw[Al hk];exact .inl (by rw[hr',hz,show fs.length=is.length by omega];rfl)
 ·cases hp
noncomputable def MF3:CP:=MF2.C9 76 11 [3,5,6] [true,true,true,false,false] JM pF11 fF11
theorem okMF3:Ck Try.prog MF3.env:=
 okMF2.C9 (n:=60) Try.func76 (show Try.f76.body=some (DM Try.f76) by kernel_rfl) (show (loops (DM Try.f76)).filter (fun b=>Ee b==11)=[C4 Try.f76 11] by kernel_rfl) [3,5,6] [5] [true,true,true,false,false] JM mF11 sF11
noncomputable def MF4:CP:=MF3.FL 76
theorem okMF4:Ck Try.prog MF4.env:=okMF3.FL 76
noncomputable def mdZ (R:FR):Option (PV × List Row):=
 bif R.es.length==R.es.length then bif pF3 (lF3 R.es.length R.es.length false [] 0 R) then
 bif pF11 (lF11 (faN R.es ((R.es.length:Int)-0).toNat 0 (false,[])).1 (faN R.es ((R.es.length:Int)-0).toNat 0 (false,[])).2 0 0 0 R true []) then
  some (.D9 [.sl 3 R.es.length 0 R.es.length,.sl 4 (faN R.es ((R.es.length:Int)-0).toNat 0 (false,[])).2.length 0 (faN R.es ((R.es.length:Int)-0).toNat 0 (false,[])).2.length],
   R.rows++[faR (fcN (faN R.es ((R.es.length:Int)-0).toNat 0 (false,[])).2 (((faN R.es ((R.es.length:Int)-0).toNat 0 (false,[])).2.length:Int)-0).toNat 0 (true,[])).1 (fcN (faN R.es ((R.es.length:Int)-0).toNat 0 (false,[])).2 (((faN R.es ((R.es.length:Int)-0).toNat 0 (false,[])).2.length:Int)-0).toNat 0 (true,[])).2])
 else none else none else none
abbrev mdP (i j:Int):Int × Int:=(W (90+W (100*i)),W (90+W (100*j)))
def FR.isl (R:FR) (i j o:Int):FR:={ R with
 f:=fI (fI (fI R.f R.L R.a) R.L (aI R.L R.a)) R.L (aI R.L (aI R.L R.a)),a:=aI R.L (aI R.L (aI R.L R.a)),
 g:=addF' 28 o (f1 R.g R.N R.c 2) R.N (a1 R.N R.c 2),c:=addA 28 o R.N (a1 R.N R.c 2),nl:=addN' 28 o R.nl,
 es:=HY R.es false (isL (mdP i j).1 (mdP i j).2 R.N R.c) 28 o R.N (a1 R.N R.c 2) }
noncomputable def mdQ (R:FR) (i j o:Int):Option (PV × List Row):=
 bif R.es.length==R.es.length then bif okIs R.es.length R.es.length R.es R.c then mdZ (R.isl i j o) else none else none
noncomputable def mdI (R:FR) (w h:Int):Option (PV × List Row):=
 bif EG R.a 2 then bif dI R.L R.a 2==1 then bif EG (aI R.L R.a) w then bif EG (aI R.L (aI R.L R.a)) h then
  bif decide (dI R.L (aI R.L R.a) w=2) then bif decide (dI R.L (aI R.L (aI R.L R.a)) h=1) then mdQ R (dI R.L (aI R.L R.a) w) (dI R.L (aI R.L (aI R.L R.a)) h) R.o5 else bif decide (dI R.L (aI R.L (aI R.L R.a)) h=0) then mdQ R (dI R.L (aI R.L R.a) w) (dI R.L (aI R.L (aI R.L R.a)) h) R.o4 else none else
  bif decide (dI R.L (aI R.L R.a) w=1) then bif decide (dI R.L (aI R.L (aI R.L R.a)) h=1) then mdQ R (dI R.L (aI R.L R.a) w) (dI R.L (aI R.L (aI R.L R.a)) h) R.o3 else bif decide (dI R.L (aI R.L (aI R.L R.a)) h=0) then mdQ R (dI R.L (aI R.L R.a) w) (dI R.L (aI R.L (aI R.L R.a)) h) R.o2 else none else
  bif decide (dI R.L (aI R.L R.a) w=0) then bif decide (dI R.L (aI R.L (aI R.L R.a)) h=1) then mdQ R (dI R.L (aI R.L R.a) w) (dI R.L (aI R.L (aI R.L R.a)) h) R.o1 else bif decide (dI R.L (aI R.L (aI R.L R.a)) h=0) then mdQ R (dI R.L (aI R.L R.a) w) (dI R.L (aI R.L (aI R.L R.a)) h) R.o0 else none else none
 else none else none else mdZ { R with f:=fI R.f R.L R.a,a:=aI R.L R.a } else none
def G4 (w h:Int) (A:List PV):OS:=ofN w h A (w-0).toNat 0 (false,a1 A 0 2,0,0,0,0,0,0)
def hjO (M N:List PV) (s:OS) (w h:Int) (m:Nat) (t:Ey):Ey:=hjN M N s.2.2.1 s.2.2.2.1 s.2.2.2.2.1 s.2.2.2.2.2.1 s.2.2.2.2.2.2.1 s.2.2.2.2.2.2.2 w h m 0 t
def vjO (M N:List PV) (s:OS) (w h:Int) (m:Nat) (t:Ey):Ey:=vjN M N s.2.2.1 s.2.2.2.1 s.2.2.2.2.1 s.2.2.2.2.2.1 s.2.2.2.2.2.2.1 s.2.2.2.2.2.2.2 w h m 0 t
abbrev frO (s:OS) (A N:List PV) (t:Ey):FR:=⟨s.1,A,s.2.1,s.2.2.1,s.2.2.2.1,s.2.2.2.2.1,s.2.2.2.2.2.1,s.2.2.2.2.2.2.1,s.2.2.2.2.2.2.2,t.2.1,N,t.2.2.1,t.2.2.2,t.1⟩
abbrev l28O (B C A:List PV) (w h:Int) (n:Nat) (s:OS) (t:Ey):LS:=l28 false B w h n n 0 s.1 A s.2.1 s.2.2.1 s.2.2.2.1 s.2.2.2.2.1 s.2.2.2.2.2.1 s.2.2.2.2.2.2.1 s.2.2.2.2.2.2.2 t.2.1 C t.2.2.1 t.2.2.2 t.1
noncomputable def mdM (A B C:List PV) (w h:Int):Option (PV × List Row):=
 bif p15 (lO false B false C w h 0 A (false,a1 A 0 2,0,0,0,0,0,0)) then
 bif p28 (l28O B C A w h 0 (G4 w h A) ([],false,0,true)) then
 bif p35 (l28O B C A w h (hjO B C (G4 w h A) w h (h+1-0).toNat ([],false,0,true)).1.length (G4 w h A) (hjO B C (G4 w h A) w h (h+1-0).toNat ([],false,0,true))) then
  mdI (frO (G4 w h A) A C (vjO B C (G4 w h A) w h (h-0).toNat (hjO B C (G4 w h A) w h (h+1-0).toNat ([],false,0,true)))) w h
 else none else none else none
noncomputable def mdX (A B C:List PV):Option (PV × List Row):=
 bif EG (aI A 0) 2 then bif W (1+dI A 0 3)==3 then mdM A B C (W (1+dI A 0 3)) 1 else mdM A B C (W (1+dI A 0 3)) (W (1+dI A (aI A 0) 2)) else none
abbrev liL (e:PV):List PV:=(e.cellAt 0).getL
theorem qMd3 (f:Bool) (e0 e1 e2:PV):runR Try.prog MF4 60 0 53 [.CR f 38 [e0,e1,e2]] []=mdX (liL e0) (liL e1) (liL e2):=by kernel_rfl
theorem qMd2 (f:Bool) (e0 e1:PV):runR Try.prog MF4 60 0 53 [.CR f 38 [e0,e1]] []=mdX (liL e0) (liL e1) []:=by kernel_rfl
theorem qMd1 (f:Bool) (e0:PV):runR Try.prog MF4 60 0 53 [.CR f 38 [e0]] []=mdX (liL e0) [] []:=by kernel_rfl
theorem qMd0 (f:Bool):runR Try.prog MF4 60 0 53 [.CR f 38 []] []=mdX [] [] []:=by kernel_rfl
def EdgE (e:PV):Prop:=∃ id f ps lf rt,e=edv id f ps lf rt/\ps.length<=10
def EdgA (es:List PV):Prop:=∀ e ∈ es,EdgE e
theorem addE_e {es:List PV} {g:Bool} {ps:List PV} {lf rt:Int} {L:List PV} {a:Int} (h:EdgA es) (hp:ps.length<=10):EdgA (HY es g ps lf rt L a):=by
 unfold HY;cases lf==rt with
 | true=>exact h
 | false =>
  intro e he;rcases A4.1 he with he | he
  ·exact h e he
  ·rw[AG] at he;subst he;cases dI L a 2==1
   ·exact⟨_,_,_,_,_,rfl,hp⟩
   ·exact⟨_,_,_,_,_,rfl,by rw[turL_len];exact hp⟩
theorem addE_len (es:List PV) (g:Bool) (ps:List PV) (lf rt:Int) (L:List PV) (a:Int):(HY es g ps lf rt L a).length<=es.length+1:=by
 unfold HY;cases lf==rt <;> simp only[Am,Av,Aq,Ay,AC] <;> omega
theorem edS_e (N:List PV) (x0 y0 x1 y1 lf rt:Int) {s:Ey} (h:EdgA s.1):EdgA (edS N x0 y0 x1 y1 lf rt s).1:=
 addE_e h (by have:=wgN_le N s.2.2.1;rw[wigL_len];omega)
theorem hoN_e (M N:List PV) (o0 o1 o2 o3 o4 o5 w h j:Int):∀ (m:Nat) (i:Int) {s:Ey},EdgA s.1->EdgA (hoN M N o0 o1 o2 o3 o4 o5 w h j m i s).1
 | 0,_,_,hs=>hs
 | m+1,i,_,hs=>hoN_e M N o0 o1 o2 o3 o4 o5 w h j m (i+1) (edS_e _ _ _ _ _ _ _ hs)
theorem veN_e (M N:List PV) (o0 o1 o2 o3 o4 o5 w h j:Int):∀ (m:Nat) (i:Int) {s:Ey},EdgA s.1->EdgA (veN M N o0 o1 o2 o3 o4 o5 w h j m i s).1
 | 0,_,_,hs=>hs
 | m+1,i,_,hs=>veN_e M N o0 o1 o2 o3 o4 o5 w h j m (i+1) (edS_e _ _ _ _ _ _ _ hs)
theorem hjN_e (M N:List PV) (o0 o1 o2 o3 o4 o5 w h:Int):∀ (m:Nat) (j:Int) {s:Ey},EdgA s.1->EdgA (hjN M N o0 o1 o2 o3 o4 o5 w h m j s).1
 | 0,_,_,hs=>hs
 | m+1,j,_,hs=>hjN_e M N o0 o1 o2 o3 o4 o5 w h m (j+1) (hoN_e _ _ _ _ _ _ _ _ _ _ _ _ _ hs)
theorem vjN_e (M N:List PV) (o0 o1 o2 o3 o4 o5 w h:Int):∀ (m:Nat) (j:Int) {s:Ey},EdgA s.1->EdgA (vjN M N o0 o1 o2 o3 o4 o5 w h m j s).1
 | 0,_,_,hs=>hs
 | m+1,j,_,hs=>vjN_e M N o0 o1 o2 o3 o4 o5 w h m (j+1) (veN_e _ _ _ _ _ _ _ _ _ _ _ _ _ hs)
def mdJ (es:List PV):List PV:=(faN es ((es.length:Int)-0).toNat 0 (false,[])).2
def mdF (es:List PV):Bool × List PV:=fcN (mdJ es) (((mdJ es).length:Int)-0).toNat 0 (true,[])
theorem mdJ_len (es:List PV):(mdJ es).length<=2*es.length:=by
 have:=faN_len es ((es.length:Int)-0).toNat 0 (false,[]);unfold mdJ;simp only[AC] at this;omega
theorem mdF_len (es:List PV):(mdF es).2.length=(mdJ es).length:=by
 unfold mdF;rw[fcN_len];simp
theorem fcN_v (is:List PV):∀ (m:Nat) (k:Int) (s:Bool × List PV),(∀ e ∈ s.2,∃ x,e=facV x)->∀ e ∈ (fcN is m k s).2,∃ x,e=facV x
 | 0,_,_,h=>h
 | m+1,k,s,h=>fcN_v is m (k+1) _ (fun e he=>by
   rcases A4.1 he with he | he
   ·exact h e he
   ·rw[AG] at he;exact⟨_,he⟩)
theorem mdF_v (es:List PV):∀ e ∈ (mdF es).2,∃ x,e=facV x:=fcN_v _ _ _ _ (by simp)
theorem mdZ_eq {R:FR} (h:R.es.length<=50):mdZ R=some (.D9 [.sl 3 R.es.length 0 R.es.length,.sl 4 (mdF R.es).2.length 0 (mdF R.es).2.length],R.rows++[faR (mdF R.es).1 (mdF R.es).2]):=by
 have hJ:=mdJ_len R.es;have h1:pF3 (lF3 R.es.length R.es.length false [] 0 R)=true:=by
  simp only[pF3,Aa,Ab,AC,CM,C_];omega
 have h2:pF11 (lF11 (faN R.es ((R.es.length:Int)-0).toNat 0 (false,[])).1 (faN R.es ((R.es.length:Int)-0).toNat 0 (false,[])).2 0 0 0 R true [])=true:=by
  show pF11 (lF11 _ (mdJ R.es) 0 0 0 R true [])=true
  simp only[pF11,Aa,Ab,AC,CM,C_];omega
 unfold mdZ;rw[AQ,h1,h2,mdF_len];rfl
def EJ (A:List PV):Int:=1+dI A 0 3
def D5 (A:List PV):Int:=if EJ A=3 then 1 else 1+dI A (aI A 0) 2
def mdR0 (A B C:List PV):FR:=frO (G4 (EJ A) (D5 A) A) A C (vjO B C (G4 (EJ A) (D5 A) A) (EJ A) (D5 A) (D5 A-0).toNat (hjO B C (G4 (EJ A) (D5 A) A) (EJ A) (D5 A) (D5 A+1-0).toNat ([],false,0,true)))
def mdU (R:FR) (i j:Int):Int:=bif decide (i=2) then bif decide (j=1) then R.o5 else R.o4 else bif decide (i=1) then bif decide (j=1) then R.o3 else R.o2 else bif decide (j=1) then R.o1 else R.o0
def mdR1 (R:FR) (w h:Int):FR:=bif dI R.L R.a 2==1 then R.isl (dI R.L (aI R.L R.a) w) (dI R.L (aI R.L (aI R.L R.a)) h) (mdU R (dI R.L (aI R.L R.a) w) (dI R.L (aI R.L (aI R.L R.a)) h)) else { R with f:=fI R.f R.L R.a,a:=aI R.L R.a }
def mdR (A B C:List PV):FR:=mdR1 (mdR0 A B C) (EJ A) (D5 A)
def mdE (A B C:List PV):List PV:=(mdR A B C).es
theorem mdWH (A:List PV):1<=EJ A/\EJ A<=3/\1<=D5 A/\D5 A<=2/\okO (EJ A) (D5 A)=true:=by
 have h1:=Il A 0 (n:=3) (by omega);have h2:=HV A 0 (n:=3) (by omega);have h3:=Il A (aI A 0) (n:=2) (by omega);have h4:=HV A (aI A 0) (n:=2) (by omega);have e:EJ A=1+dI A 0 3:=rfl;unfold okO D5;simp only[Aa,AZ,Ab];split <;> omega
theorem mdO_bd (A:List PV):0<=(G4 (EJ A) (D5 A) A).2.1/\(G4 (EJ A) (D5 A) A).2.1<=11:=by
 have h1:=GQ A 0 2;have h2:=ofN_a (EJ A) (D5 A) A (EJ A-0).toNat 0 (false,a1 A 0 2,0,0,0,0,0,0);have h3:=mdWH A;unfold G4;simp only at h2;omega
theorem mdR0_bd (A B C:List PV):(mdR0 A B C).es.length<=20/\0<=(mdR0 A B C).c/\(mdR0 A B C).c<=200/\0<=(mdR0 A B C).a/\(mdR0 A B C).a<=11/\EdgA (mdR0 A B C).es:=by
 obtain⟨w1,w2,h1,h2,hok⟩:=mdWH A;obtain⟨a1,a2⟩:=mdO_bd A;have b1:=hjN_bd B C (G4 (EJ A) (D5 A) A).2.2.1 (G4 (EJ A) (D5 A) A).2.2.2.1 (G4 (EJ A) (D5 A) A).2.2.2.2.1 (G4 (EJ A) (D5 A) A).2.2.2.2.2.1 (G4 (EJ A) (D5 A) A).2.2.2.2.2.2.1 (G4 (EJ A) (D5 A) A).2.2.2.2.2.2.2 (EJ A) (D5 A) w2 (D5 A+1-0).toNat 0 ([],false,0,true);have b2:=vjN_bd B C (G4 (EJ A) (D5 A) A).2.2.1 (G4 (EJ A) (D5 A) A).2.2.2.1 (G4 (EJ A) (D5 A) A).2.2.2.2.1 (G4 (EJ A) (D5 A) A).2.2.2.2.2.1 (G4 (EJ A) (D5 A) A).2.2.2.2.2.2.1 (G4 (EJ A) (D5 A) A).2.2.2.2.2.2.2 (EJ A) (D5 A) w2 (D5 A-0).toNat 0 (hjO B C (G4 (EJ A) (D5 A) A) (EJ A) (D5 A) (D5 A+1-0).toNat ([],false,0,true));change _<=(vjO B C (G4 (EJ A) (D5 A) A) (EJ A) (D5 A) (D5 A-0).toNat _).1.length/\_ at b2
 change _<=(hjO B C (G4 (EJ A) (D5 A) A) (EJ A) (D5 A) (D5 A+1-0).toNat _).1.length/\(hjO B C (G4 (EJ A) (D5 A) A) (EJ A) (D5 A) (D5 A+1-0).toNat _).1.length<=_/\_<=(hjO B C (G4 (EJ A) (D5 A) A) (EJ A) (D5 A) (D5 A+1-0).toNat _).2.2.1/\(hjO B C (G4 (EJ A) (D5 A) A) (EJ A) (D5 A) (D5 A+1-0).toNat _).2.2.1<=_ at b1
 have b3:_/\(vjO B C (G4 (EJ A) (D5 A) A) (EJ A) (D5 A) (D5 A-0).toNat (hjO B C (G4 (EJ A) (D5 A) A) (EJ A) (D5 A) (D5 A+1-0).toNat ([],false,0,true))).1.length<=_/\_<=(vjO B C (G4 (EJ A) (D5 A) A) (EJ A) (D5 A) (D5 A-0).toNat (hjO B C (G4 (EJ A) (D5 A) A) (EJ A) (D5 A) (D5 A+1-0).toNat ([],false,0,true))).2.2.1/\(vjO B C (G4 (EJ A) (D5 A) A) (EJ A) (D5 A) (D5 A-0).toNat (hjO B C (G4 (EJ A) (D5 A) A) (EJ A) (D5 A) (D5 A+1-0).toNat ([],false,0,true))).2.2.1<=_:=b2;simp only[AC] at b1;refine⟨?_,?_,?_,a1,a2,?_⟩
 ·show (vjO _ _ _ _ _ _ _).1.length<=20;omega
 ·show 0<=(vjO _ _ _ _ _ _ _).2.2.1;omega
 ·show (vjO _ _ _ _ _ _ _).2.2.1<=200;omega
 ·exact vjN_e _ _ _ _ _ _ _ _ _ _ _ _ (hjN_e _ _ _ _ _ _ _ _ _ _ _ _ (by intro e he;cases he))
theorem mdX_eq (A B C:List PV):mdX A B C=mdZ (mdR A B C):=by
 obtain⟨w1,w2,h1,h2,hok⟩:=mdWH A;obtain⟨r1,r2,r3,r4,r5,_⟩:=mdR0_bd A B C;obtain⟨a1',a2'⟩:=mdO_bd A;have d1:=Il A 0 (n:=3) (by omega);have d2:=HV A 0 (n:=3) (by omega);have d3:=Il A (aI A 0) (n:=2) (by omega);have d4:=HV A (aI A 0) (n:=2) (by omega);have la:=FG A 0;have hw:W (1+dI A 0 3)=EJ A:=Dc (by omega) (by omega);have hm:mdM A B C (EJ A) (D5 A)=mdZ (mdR A B C):=by
  have la2:=GQ A 0 2;have p1:p15 (lO false B false C (EJ A) (D5 A) 0 A (false,a1 A 0 2,0,0,0,0,0,0))=true:=by
   simp only[p15,Aa,Ab];exact⟨⟨⟨⟨hok,by omega⟩,by omega⟩,by omega⟩,by omega⟩
  have p2:p28 (l28O B C A (EJ A) (D5 A) 0 (G4 (EJ A) (D5 A) A) ([],false,0,true))=true:=by
   simp only[p28,Aa,Ab,AC,CM,C_];omega
  have b1:=hjN_bd B C (G4 (EJ A) (D5 A) A).2.2.1 (G4 (EJ A) (D5 A) A).2.2.2.1 (G4 (EJ A) (D5 A) A).2.2.2.2.1 (G4 (EJ A) (D5 A) A).2.2.2.2.2.1 (G4 (EJ A) (D5 A) A).2.2.2.2.2.2.1 (G4 (EJ A) (D5 A) A).2.2.2.2.2.2.2 (EJ A) (D5 A) w2 (D5 A+1-0).toNat 0 ([],false,0,true);change _<=(hjO B C (G4 (EJ A) (D5 A) A) (EJ A) (D5 A) (D5 A+1-0).toNat _).1.length/\(hjO B C (G4 (EJ A) (D5 A) A) (EJ A) (D5 A) (D5 A+1-0).toNat _).1.length<=_/\_<=(hjO B C (G4 (EJ A) (D5 A) A) (EJ A) (D5 A) (D5 A+1-0).toNat _).2.2.1/\(hjO B C (G4 (EJ A) (D5 A) A) (EJ A) (D5 A) (D5 A+1-0).toNat _).2.2.1<=_ at b1
  simp only[AC] at b1;have p3:p35 (l28O B C A (EJ A) (D5 A) (hjO B C (G4 (EJ A) (D5 A) A) (EJ A) (D5 A) (D5 A+1-0).toNat ([],false,0,true)).1.length (G4 (EJ A) (D5 A) A) (hjO B C (G4 (EJ A) (D5 A) A) (EJ A) (D5 A) (D5 A+1-0).toNat ([],false,0,true)))=true:=by
   simp only[p35,Aa,Ab,CM,C_];omega
  unfold mdM;rw[p1,p2,p3];simp only[Am];show mdI (mdR0 A B C) (EJ A) (D5 A)=mdZ (mdR1 (mdR0 A B C) (EJ A) (D5 A))
  generalize mdR0 A B C=R at r1 r2 r3 r4 r5;have l1:=FG R.L R.a;have l2:=FG R.L (aI R.L R.a);have i1:=Il R.L (aI R.L R.a) (n:=EJ A) (by omega);have i2:=HV R.L (aI R.L R.a) (n:=EJ A) (by omega);have j1:=Il R.L (aI R.L (aI R.L R.a)) (n:=D5 A) (by omega);have j2:=HV R.L (aI R.L (aI R.L R.a)) (n:=D5 A) (by omega);have k1:EG R.a 2=true:=by unfold EG;simp;omega
  have k2:EG (aI R.L R.a) (EJ A)=true:=by unfold EG;simp;omega
  have k3:EG (aI R.L (aI R.L R.a)) (D5 A)=true:=by unfold EG;simp;omega
  have k4:okIs R.es.length R.es.length R.es R.c=true:=by
   unfold okIs;simp only[Aa,Ab,CM,C_];omega
  have q:∀ i j o,mdQ R i j o=mdZ (R.isl i j o):=fun i j o=>by
   unfold mdQ;rw[AQ,k4];rfl
  unfold mdI mdR1;rw[k1,k2,k3];simp only[Am];cases dI R.L R.a 2==1
  ·rfl
  ·simp only[Am,q];generalize dI R.L (aI R.L R.a) (EJ A)=i at i1 i2;generalize dI R.L (aI R.L (aI R.L R.a)) (D5 A)=j at j1 j2;unfold mdU;have hi:i=0\/i=1\/i=2:=by omega
   have hj:j=0\/j=1:=by omega
   rcases hi with rfl | rfl | rfl <;> rcases hj with rfl | rfl <;> rfl
 unfold mdX;rw[show EG (aI A 0) 2=true by unfold EG;simp;omega,hw];simp only[Am];by_cases h3:EJ A=3
 ·rw[h3,show ((3:Int)==3)=true from rfl,Am,<- hm];rw[show D5 A=1 by unfold D5;rw[Ai h3],h3]
 ·rw[show (EJ A==3)=false by simp[h3],Av,<- hm,Dc (n:=1+dI A (aI A 0) 2) (by omega) (by omega),show D5 A=1+dI A (aI A 0) 2 by unfold D5;rw[An h3]]
theorem mdR_bd (A B C:List PV):(mdE A B C).length<=21/\EdgA (mdE A B C):=by
 obtain⟨r1,r2,r3,r4,r5,r6⟩:=mdR0_bd A B C;unfold mdE mdR mdR1;cases dI (mdR0 A B C).L (mdR0 A B C).a 2==1
 ·exact⟨by show (mdR0 A B C).es.length<=21;omega,r6⟩
 ·refine⟨?_,addE_e r6 ?_⟩
  ·exact A_ (addE_len _ _ _ _ _ _ _) (by omega)
  ·unfold isL;cases dI (mdR0 A B C).N (aI (mdR0 A B C).N (mdR0 A B C).c) 2==1 <;> simp
def nth (ls:List PV) (k:Nat):List PV:=((ls.getD k .any).cellAt 0).getL
def F4 (ls:List PV):List PV:=mdE (nth ls 0) (nth ls 1) (nth ls 2)
def mdNL (ls:List PV):Bool:=(mdR (nth ls 0) (nth ls 1) (nth ls 2)).nl
def FO (ls:List PV):Bool × List PV:=mdF (F4 ls)
theorem mdRun (f:Bool) (ls:List PV) (h:ls.length<=3):∃ H0 H1 H2,runR Try.prog MF4 60 0 53 [.CR f 38 ls] [] =
  some (.D9 [.sl 3 (F4 ls).length 0 (F4 ls).length,.sl 4 (FO ls).2.length 0 (FO ls).2.length],[H0,H1,H2,edR (mdNL ls) (F4 ls),faR (FO ls).1 (FO ls).2]):=by
 have e:runR Try.prog MF4 60 0 53 [.CR f 38 ls] []=mdX (nth ls 0) (nth ls 1) (nth ls 2):=by
  match ls,h with
  | [],_=>exact qMd0 f
  | [e0],_=>exact qMd1 f e0
  | [e0,e1],_=>exact qMd2 f e0 e1
  | [e0,e1,e2],_=>exact qMd3 f e0 e1 e2
  | _::_::_::_::_,h=>simp at h
 have hb:=(mdR_bd (nth ls 0) (nth ls 1) (nth ls 2)).1;exact⟨_,_,_,by rw[e,mdX_eq,mdZ_eq (by show (mdE _ _ _).length<=50;omega)];rfl⟩
theorem mdCall (f:Bool) (ls:List PV) (h:ls.length<=3):Hx.CV Try.prog 53/\∀ ro H,ER Try.prog ro 53 [.CR f 38 ls] H
  (.D9 [.sl H.length (F4 ls).length 0 (F4 ls).length,.sl (H.length+1) (FO ls).2.length 0 (FO ls).2.length]) (H++[edR (mdNL ls) (F4 ls),faR (FO ls).1 (FO ls).2]):=by
 obtain⟨H0,H1,H2,he⟩:=mdRun f ls h;refine newR_call okMF4 (n:=60) (ps:=fun _=>[.sl 3 (F4 ls).length 0 (F4 ls).length,.sl 4 (FO ls).2.length 0 (FO ls).2.length]) (qs:=fun h=>[.sl h (F4 ls).length 0 (F4 ls).length,.sl (h+1) (FO ls).2.length 0 (FO ls).2.length]) (idx:=[3,4]) (by rfl) he (by decide) ?_ rfl ?_ ?_
 ·intro x i hi
  match x,hi with
  | 0,hi=>cases hi;exact⟨_,rfl,rfl⟩
  | 1,hi=>cases hi;exact⟨_,rfl,rfl⟩
  | x+2,hi=>simp at hi
 ·intro r hr e he c hc;simp only[AK,BN,B7] at hr;rcases hr with rfl | rfl
  ·obtain⟨id,f,ps,lf,rt,rfl,_⟩:=(mdR_bd (nth ls 0) (nth ls 1) (nth ls 2)).2 e he;change c ∈ [_,_,_,_] at hc
   simp only[AK,BN,B7] at hc;rcases hc with rfl | rfl | rfl | rfl <;> rfl
  ·obtain⟨x,rfl⟩:=mdF_v _ e he;change c ∈ [_,_,_,_,_] at hc
   simp only[AK,BN,B7] at hc;rcases hc with rfl | rfl | rfl | rfl | rfl <;> rfl
 ·intro h;refine⟨rfl,fun j p q h1 h2 => ?_⟩
  match j,h1,h2 with
  | 0,h1,h2=>cases h1;cases h2;exact .sl (x:=0) rfl
  | 1,h1,h2=>cases h1;cases h2;exact .sl (x:=1) rfl
  | j+2,h1,_=>simp at h1
def cMd (_:Nat) (args:List PV) (H:List Row):Option (DT (PV × List Row)):=
 match args with
 | [.CR _ 38 ls]=>some (.br (decide (ls.length<=3)) (.leaf (.D9 [.sl H.length (F4 ls).length 0 (F4 ls).length,.sl (H.length+1) (FO ls).2.length 0 (FO ls).2.length],H++[edR (mdNL ls) (F4 ls),faR (FO ls).1 (FO ls).2])) .no)
 | _=>none
theorem oMd (ro:Nat) (args:List PV) (H:List Row) (d:DT (PV × List Row)) (p:PV) (H':List Row) (h:cMd ro args H=some d) (hd:d.run=some (p,H')):ER Try.prog ro 53 args H p H':=by
 unfold cMd at h;split at h
 ·rename_i f ls;cases h;obtain⟨hc,he⟩:=FI hd;cases he;exact (mdCall f ls (AR hc)).2 ro H
 ·cases h
theorem eMd:Hx.CV Try.prog 53:=(mdCall false [] (by simp)).1
noncomputable def MX1:CP:=(((M7.GY 88 3 [(3,159,4)]).GY 88 7 [(1101,155,3)]).Ge 88 10 1001)
theorem okMX1:Ck Try.prog MX1.env:=(((H7.GY 88 3 [(3,159,4)]).GY 88 7 [(1101,155,3)]).Ge 88 10 1001)
abbrev trR (u:Bool) (ts:List PV):Row:={ es:=ts,s:=4,t:=159,bv:=true,nl:=u }
def shT7:S1:=⟨58,[(0,.CR 147),(3,.sl 0),(4,C5),(5,.ptr 1 1 0 0),(6,C5)],[.many 159 4,.Gg 159 4 (.agg [C5,.sl 2,C5,C5]),.many 155 3]⟩
abbrev lT7 (f:Bool) (es:List PV) (m r:Nat) (k i:Int) (u:Bool) (ts:List PV) (b0:Int) (n l:Nat) (b1 b2:Int) (v:Bool) (ss:List PV):LS:=([.l f es,.n m,.n r,.i k,.i i],[.l u ts,.i b0,.n n,.n l,.i b1,.i b2,.l v ss])
noncomputable abbrev xT7 (f:Bool) (es:List PV) (m r:Nat) (k:Int) (u:Bool) (ts:List PV) (b0:Int) (n l:Nat) (b1 b2:Int) (v:Bool) (ss:List PV):PX × List PV × List Row:=
 (.exit 2,tm 58 [(0,.CR f 147 es),(3,.sl 0 m 0 r),(4,iv k),(5,.ptr 1 1 0 0)],(shT7.put (lT7 f es m r k 0 u ts b0 n l b1 b2 v ss)).2)
abbrev DB (es:List PV) (k:Int):List PV:=((es.getD k.toNat .any).cellAt 1).getL
abbrev sptE (e:PV):PV:=.agg [iv (e.cellAt 0).Dw,iv (e.cellAt 1).Dw,iv 1]
theorem qT7 (f:Bool) (es:List PV) (m r:Nat) (k i:Int) (u:Bool) (ts:List PV) (b0:Int) (n l:Nat) (b1 b2:Int) (v:Bool) (ss:List PV):
 CT Try.prog MX1 60 88 (C4 Try.f88 7) [0,3,4,5,6] [0,3,4,5] (shT7.put (lT7 f es m r k i u ts b0 n l b1 b2 v ss)).1 (shT7.put (lT7 f es m r k i u ts b0 n l b1 b2 v ss)).2 =
 bif HW es k then bif decide (i<((DB es k).length:Int)) then bif HW es k then bif HW (DB es k) i then bif true&&decide (ss.length=n)&&decide (n=l)&&decide ((n+1)*24<=140737488355328) then
  some (.normal,shT7.put (lT7 f es m r k (W (i+1)) u ts b0 (n+1) (n+1) b1 b2 (v&&false) (ss++[sptE ((DB es k).getD i.toNat .any)]))) else none else none else none
 else some (xT7 f es m r k u ts b0 n l b1 b2 v ss) else none:=by kernel_rfl
def spN (ps:List PV):Nat->Int->Bool × List PV->Bool × List PV
 | 0,_,s=>s
 | m+1,i,s=>spN ps m (i+1) (s.1&&false,s.2++[sptE (ps.getD i.toNat .any)])
theorem spN_len (ps:List PV):∀ (m:Nat) (i:Int) (s:Bool × List PV),(spN ps m i s).2.length=s.2.length+m
 | 0,_,_=>rfl
 | m+1,i,s=>by
  simp only[spN];rw[spN_len ps m];simp;omega
def pT7:LS->Bool
 | ([.l _ es,.n _,.n _,.i k,.i i],[.l _ _,.i _,.n n,.n l,.i _,.i _,.l _ ss])=>HW es k&&decide (n=ss.length)&&decide (l=ss.length)&&decide (0<=i)&&decide (i<=((DB es k).length:Int))&&decide ((DB es k).length<=1000)&&decide ((ss.length:Int)=i)
 | _=>false
noncomputable def fT7:LS->DT (PX × List PV × List Row)
 | ([.l f es,.n m,.n r,.i k,.i i],[.l u ts,.i b0,.n _,.n _,.i b1,.i b2,.l v ss]) =>
  .leaf (xT7 f es m r k u ts b0 (DB es k).length (DB es k).length b1 b2 (spN (DB es k) (((DB es k).length:Int)-i).toNat i (v,ss)).1 (spN (DB es k) (((DB es k).length:Int)-i).toNat i (v,ss)).2)
 | _=>.no
def mT7:LS->Nat
 | ([.l _ es,.n _,.n _,.i k,.i i],_)=>(((DB es k).length:Int)-i).toNat
 | _=>0
theorem sT7:∀ s r,pT7 s=true->(fT7 s).run=some r->r.1 ≠ .normal/\(CT Try.prog MX1 60 88 (C4 Try.f88 7) [0,3,4,5,6] [0,3,4,5] (shT7.put s).1 (shT7.put s).2=some r \/
   ∃ s',CT Try.prog MX1 60 88 (C4 Try.f88 7) [0,3,4,5,6] [0,3,4,5] (shT7.put s).1 (shT7.put s).2=some (.normal,shT7.put s')/\pT7 s'=true/\mT7 s'<mT7 s/\(fT7 s').run=some r):=by
 intro t r hp hr;unfold pT7 at hp;split at hp
 ·rename_i f es m r' k i u ts b0 n l b1 b2 v ss;simp only[Aa,Ab] at hp;obtain⟨⟨⟨⟨⟨⟨h0,rfl⟩,rfl⟩,h1⟩,h2⟩,h3⟩,h4⟩:=hp;have hr':=(Ah hr).symm;refine⟨by rw[hr'];simp,?_⟩;have q:=qT7 f es m r' k i u ts b0 ss.length ss.length b1 b2 v ss;rw[show (shT7.put ([.l f es,.n m,.n r',.i k,.i i],[.l u ts,.i b0,.n ss.length,.n ss.length,.i b1,.i b2,.l v ss]))=shT7.put (lT7 f es m r' k i u ts b0 ss.length ss.length b1 b2 v ss) from rfl,q,DS h0.1 h0.2,Am,Am];by_cases hk:i<((DB es k).length:Int)
  ·obtain⟨j,hj⟩:∃ j,(((DB es k).length:Int)-i).toNat=j+1:=⟨(((DB es k).length:Int)-i).toNat-1,by omega⟩;have hj2:(((DB es k).length:Int)-(i+1)).toNat=j:=by omega
   refine .inr ⟨lT7 f es m r' k (i+1) u ts b0 (ss.length+1) (ss.length+1) b1 b2 (v&&false) (ss++[sptE ((DB es k).getD i.toNat .any)]),?_,?_,by simp only[mT7];omega,?_⟩
   ·rw[Ac hk,DS h1 hk,Dc (n:=i+1) (by omega) (by omega),Ac (show ss.length=ss.length from rfl),Ac (show (ss.length+1)*24<=140737488355328 by omega)];rfl
   ·simp only[pT7,Aa,Ab,Aq,Ay,AC];exact⟨⟨⟨⟨⟨⟨h0,trivial⟩,trivial⟩,by omega⟩,by omega⟩,h3⟩,by omega⟩
   ·rw[hr',hj];simp only[fT7,hj2,DT.run,spN]
  ·have hz:(((DB es k).length:Int)-i).toNat=0:=by omega
   rw[Al hk];exact .inl (by rw[hr',hz,show ss.length=(DB es k).length by omega];rfl)
 ·cases hp
noncomputable def MX2:CP:=MX1.C9 88 7 [0,3,4,5,6] [false,true,false] shT7 pT7 fT7
theorem okMX2:Ck Try.prog MX2.env:=
 okMX1.C9 (n:=60) Try.func88 (show Try.f88.body=some (DM Try.f88) by kernel_rfl) (show (loops (DM Try.f88)).filter (fun b=>Ee b==7)=[C4 Try.f88 7] by kernel_rfl) [0,3,4,5,6] [0,3,4,5] [false,true,false] shT7 mT7 sT7
def shT3:S1:=⟨58,[(0,.CR 147),(3,.sl 0),(4,C5)],[.many 159 4]⟩
abbrev lT3 (f:Bool) (es:List PV) (m r:Nat) (k:Int) (u:Bool) (ts:List PV):LS:=([.l f es,.n m,.n r,.i k],[.l u ts])
noncomputable abbrev xT3 (m r:Nat) (u:Bool) (ts:List PV):PX × List PV × List Row:=(.exit 0,tm 58 [(3,.sl 0 m 0 r)],[trR u ts])
abbrev ssE (es:List PV) (k:Int):List PV:=(spN (DB es k) (((DB es k).length:Int)-0).toNat 0 (true,[])).2
abbrev trE (es:List PV) (k:Int):PV:=.agg [iv ((es.getD k.toNat .any).cellAt 0).Dw,.CR false 155 (((ssE es k).drop 0).take (DB es k).length),iv ((es.getD k.toNat .any).cellAt 2).Dw,iv ((es.getD k.toNat .any).cellAt 3).Dw]
theorem qT3 (f:Bool) (es:List PV) (m r:Nat) (k:Int) (u:Bool) (ts:List PV):
 CT Try.prog MX2 60 88 (C4 Try.f88 3) [0,3,4] [3] (shT3.put (lT3 f es m r k u ts)).1 (shT3.put (lT3 f es m r k u ts)).2 =
 bif decide (k<(es.length:Int)) then bif HW es k then bif HW es k then bif HW es k then bif pT7 (lT7 f es m r k 0 u ts ((es.getD k.toNat .any).cellAt 0).Dw 0 0 ((es.getD k.toNat .any).cellAt 2).Dw ((es.getD k.toNat .any).cellAt 3).Dw true []) then
  bif ((((ssE es k).length==(DB es k).length)&&true)&&true)&&true then bif true&&decide (ts.length=m)&&decide (m=r)&&decide ((m+1)*48<=140737488355328) then
  some (.normal,shT3.put (lT3 f es (m+1) (m+1) (W (k+1)) (u&&false) (ts++[trE es k]))) else none else none else none else none else none else none
 else some (xT3 m r u ts):=by kernel_rfl
def trN (es:List PV):Nat->Int->Bool × List PV->Bool × List PV
 | 0,_,s=>s
 | m+1,k,s=>trN es m (k+1) (s.1&&false,s.2++[trE es k])
theorem trN_len (es:List PV):∀ (m:Nat) (k:Int) (s:Bool × List PV),(trN es m k s).2.length=s.2.length+m
 | 0,_,_=>rfl
 | m+1,k,s=>by
  simp only[trN];rw[trN_len es m];simp;omega
def smE (es:List PV):Bool:=es.all fun e=>decide (((e.cellAt 1).getL).length<=1000)
theorem smE_at {es:List PV} (h:smE es=true) {k:Int} (h1:0<=k) (h2:k<(es.length:Int)):(DB es k).length<=1000:=by
 unfold DB;rw[AA,Ae (by omega)];exact AR (Ap.1 h _ (Bl _))
def pT3:LS->Bool
 | ([.l _ es,.n m,.n r,.i k],[.l _ ts])=>smE es&&decide (m=ts.length)&&decide (r=ts.length)&&decide (0<=k)&&decide (k<=(es.length:Int))&&decide (es.length<=1000)&&decide ((ts.length:Int)=k)
 | _=>false
noncomputable def fT3:LS->DT (PX × List PV × List Row)
 | ([.l _ es,.n _,.n _,.i k],[.l u ts])=>.leaf (xT3 es.length es.length (trN es ((es.length:Int)-k).toNat k (u,ts)).1 (trN es ((es.length:Int)-k).toNat k (u,ts)).2)
 | _=>.no
def mT3:LS->Nat
 | ([.l _ es,.n _,.n _,.i k],_)=>((es.length:Int)-k).toNat
 | _=>0
theorem ssE_len (es:List PV) (k:Int):(ssE es k).length=(DB es k).length:=by
 unfold ssE;rw[spN_len];simp
theorem sT3:∀ s r,pT3 s=true->(fT3 s).run=some r->r.1 ≠ .normal/\(CT Try.prog MX2 60 88 (C4 Try.f88 3) [0,3,4] [3] (shT3.put s).1 (shT3.put s).2=some r \/
   ∃ s',CT Try.prog MX2 60 88 (C4 Try.f88 3) [0,3,4] [3] (shT3.put s).1 (shT3.put s).2=some (.normal,shT3.put s')/\pT3 s'=true/\mT3 s'<mT3 s/\(fT3 s').run=some r):=by
 intro t r hp hr;unfold pT3 at hp;split at hp
 ·rename_i f es m r' k u ts;simp only[Aa,Ab] at hp;obtain⟨⟨⟨⟨⟨⟨h0,rfl⟩,rfl⟩,h1⟩,h2⟩,h3⟩,h4⟩:=hp;have hr':=(Ah hr).symm;refine⟨by rw[hr'];simp,?_⟩;have q:=qT3 f es ts.length ts.length k u ts;rw[show (shT3.put ([.l f es,.n ts.length,.n ts.length,.i k],[.l u ts]))=shT3.put (lT3 f es ts.length ts.length k u ts) from rfl,q];by_cases hk:k<(es.length:Int)
  ·obtain⟨j,hj⟩:∃ j,((es.length:Int)-k).toNat=j+1:=⟨((es.length:Int)-k).toNat-1,by omega⟩;have hj2:((es.length:Int)-(k+1)).toNat=j:=by omega
   have hs:=smE_at h0 h1 hk;have p7:pT7 (lT7 f es ts.length ts.length k 0 u ts ((es.getD k.toNat .any).cellAt 0).Dw 0 0 ((es.getD k.toNat .any).cellAt 2).Dw ((es.getD k.toNat .any).cellAt 3).Dw true [])=true:=by
    simp only[pT7,Aa,Ab,AC,C_];omega
   refine .inr ⟨lT3 f es (ts.length+1) (ts.length+1) (k+1) (u&&false) (ts++[trE es k]),?_,?_,by simp only[mT3];omega,?_⟩
   ·rw[Ac hk,DS h1 hk,p7,ssE_len,AQ,Dc (n:=k+1) (by omega) (by omega),Ac (show ts.length=ts.length from rfl),Ac (show (ts.length+1)*48<=140737488355328 by omega)];rfl
   ·simp only[pT3,Aa,Ab,Aq,Ay,AC];exact⟨⟨⟨⟨⟨⟨h0,trivial⟩,trivial⟩,by omega⟩,by omega⟩,h3⟩,by omega⟩
   ·rw[hr',hj];simp only[fT3,hj2,DT.run,trN]
  ·have hz:((es.length:Int)-k).toNat=0:=by omega
   rw[Al hk];exact .inl (by rw[hr',hz,show ts.length=es.length by omega];rfl)
 ·cases hp
noncomputable def MX3:CP:=MX2.C9 88 3 [0,3,4] [false] shT3 pT3 fT3
theorem okMX3:Ck Try.prog MX3.env:=
 okMX2.C9 (n:=60) Try.func88 (show Try.f88.body=some (DM Try.f88) by kernel_rfl) (show (loops (DM Try.f88)).filter (fun b=>Ee b==3)=[C4 Try.f88 3] by kernel_rfl) [0,3,4] [3] [false] shT3 mT3 sT3
def trL (es:List PV):List PV:=(trN es ((es.length:Int)-0).toNat 0 (true,[])).2
theorem qTr (f:Bool) (es:List PV):Dx Try.prog MX3 60 88 [.CR f 147 es] =
 bif pT3 (lT3 f es 0 0 0 true []) then JW (trL es) es.length (some (.CR false 159 (((trL es).drop 0).take es.length))) else none:=by kernel_rfl
theorem trL_len (es:List PV):(trL es).length=es.length:=by
 unfold trL;rw[trN_len];simp
theorem qTrN (f:Bool) {es:List PV} (h:smE es=true) (hl:es.length<=1000):Dx Try.prog MX3 60 88 [.CR f 147 es]=some (.CR false 159 (trL es)):=by
 have hp:pT3 (lT3 f es 0 0 0 true [])=true:=by
  simp only[pT3,Aa,Ab,AC,C_];exact⟨⟨⟨⟨h,by omega⟩,by omega⟩,hl⟩,rfl⟩
 rw[qTr,hp,Am,DR (trL_len es),AJ,Bf (by rw[trL_len];exact Aj _)]
def cTrc:List PV->Option (DT PV)
 | [.CR _ 147 es]=>some (.br (smE es&&decide (es.length<=1000)) (.leaf (.CR false 159 (trL es))) .no)
 | _=>none
theorem eTrc:Hx.CV Try.prog 88:=(CL okMX3 (n:=60) (qTrN false (es:=[]) rfl (by simp))).1
theorem oTrc (args:List PV) (d:DT PV) (r:PV) (h:cTrc args=some d) (hr:d.run=some r):Da Try.prog 88 args r:=by
 unfold cTrc at h;split at h
 ·rename_i f es;cases h;obtain⟨h1,rfl⟩:=DJ hr;rw[Aa,Ab] at h1;exact (CL okMX3 (n:=60) (qTrN f h1.1 h1.2)).2
 ·cases h
abbrev e0 (e:PV):Int:=(e.cellAt 0).Dw
abbrev e1 (e:PV):Int:=(e.cellAt 1).Dw
abbrev e2 (e:PV):Int:=(e.cellAt 2).Dw
abbrev e3 (e:PV):Int:=(e.cellAt 3).Dw
abbrev ptR (x y:Int):Row:=r1 28 2 (FD x y)
def shA7:S1:=⟨120,[(0,.CR 159),(3,.ptr 0 1 0 0),(4,C5),(5,.bool),(6,C5),(7,C5)],[.one 28 2 (.agg [C5,C5])]⟩
abbrev lA7 (f:Bool) (es:List PV) (z:Int) (zb:Bool) (k i x y:Int):LS:=([.l f es,.i z,.b zb,.i k,.i i],[.i x,.i y])
noncomputable abbrev xA7 (f:Bool) (es:List PV) (z:Int) (zb:Bool) (k x y:Int):PX × List PV × List Row:=(.exit 2,tm 120 [(0,.CR f 159 es),(3,.ptr 0 1 0 0),(4,iv z),(5,bv zb),(6,iv k)],[ptR x y])
noncomputable abbrev rA7 (f:Bool) (es:List PV) (k x y:Int):PX × List PV × List Row:=(.ret,tm 120 [(0,.CR f 159 es),(3,.ptr 0 1 0 0),(4,iv 0),(5,bv false),(6,iv k)],[ptR x y])
theorem qA7 (f:Bool) (es:List PV) (z:Int) (zb:Bool) (k i x y:Int):CT Try.prog M7 60 87 (C4 Try.f87 7) [0,3,4,5,6,7] [0,3,4,5,6] (shA7.put (lA7 f es z zb k i x y)).1 (shA7.put (lA7 f es z zb k i x y)).2 =
 bif HW es k then bif decide (i<((DB es k).length:Int)) then bif HW es k then bif HW (DB es k) i then
  bif !bndJ (e0 ((DB es k).getD i.toNat .any)) (e1 ((DB es k).getD i.toNat .any)) (e2 ((DB es k).getD i.toNat .any)) then some (rA7 f es k x y) else some (.normal,shA7.put (lA7 f es z zb k (W (i+1)) x y)) else none else none
 else some (xA7 f es z zb k x y) else none:=by kernel_rfl
def Im:S1:=⟨120,[(0,.CR 159),(3,.ptr 0 1 0 0),(4,C5),(5,.bool),(8,.bool),(9,.ptr 1 1 0 0),(10,C5),(11,C5)],[.one 28 2 (.agg [C5,C5]),.one 161 7 (.agg [C5,C5,C5,C5,C5,C5,C5])]⟩
structure BR where
 s:Bool
 a:Int
 b:Int
 c:Int
 d:Int
 e:Int
 f:Int
 g:Int
abbrev BR.row (B:BR):Row:=r1 161 7 (.agg [iv B.a,iv B.b,iv B.c,iv B.d,iv B.e,iv B.f,iv B.g])
abbrev lA17 (f:Bool) (es:List PV) (z:Int) (zb:Bool) (k i x y:Int) (B:BR):LS:=([.l f es,.i z,.b zb,.b B.s,.i k,.i i],[.i x,.i y,.i B.a,.i B.b,.i B.c,.i B.d,.i B.e,.i B.f,.i B.g])
noncomputable abbrev xA17 (f:Bool) (es:List PV) (z:Int) (zb:Bool) (k x y:Int) (B:BR):PX × List PV × List Row:=(.exit 6,tm 120 [(0,.CR f 159 es),(3,.ptr 0 1 0 0),(4,iv z),(5,bv zb),(8,bv B.s),(9,.ptr 1 1 0 0),(10,iv k)],[ptR x y,B.row])
noncomputable abbrev rA17 (f:Bool) (es:List PV) (k x y:Int) (B:BR):PX × List PV × List Row:=(.ret,tm 120 [(0,.CR f 159 es),(3,.ptr 0 1 0 0),(4,iv 0),(5,bv false),(8,bv B.s),(9,.ptr 1 1 0 0),(10,iv k)],[ptR x y,B.row])
abbrev onE (a b:PV) (x y:Int):Bool:=onJ (e0 a) (e1 a) (e2 a) (e0 b) (e1 b) (e2 b) x y
abbrev rspE (a b:PV) (x y:Int):Int:=rspJ (e0 a) (e1 a) (e2 a) (e0 b) (e1 b) (e2 b) x y
abbrev rsB (a b:PV) (d:Int):BR:=⟨true,e0 a,e1 a,e2 a,e0 b,e1 b,e2 b,d⟩
abbrev byE (B:BR) (a b:PV):Bool:=byJ B.a B.b B.c B.d B.e B.f (e0 a) (e1 a) (e2 a) (e0 b) (e1 b) (e2 b)
noncomputable def nA17 (f:Bool) (es:List PV) (z:Int) (zb:Bool) (k i x y:Int) (B:BR):Option (PX × List PV × List Row):=some (.normal,Im.put (lA17 f es z zb k (W (i+1)) x y B))
noncomputable def gA17 (f:Bool) (es:List PV) (z:Int) (zb:Bool) (k i x y:Int) (B:BR) (r:Int) (a b:PV) (d:Int):Option (PX × List PV × List Row):=
 bif r != 0 then bif !B.s then nA17 f es z zb k i x y (rsB a b d) else bif byE B a b then nA17 f es z zb k i x y (rsB a b d) else nA17 f es z zb k i x y B else nA17 f es z zb k i x y B
abbrev atP (es:List PV) (k i:Int):PV:=(DB es k).getD i.toNat .any
def bnN (ps:List PV):Nat->Int->Bool
 | 0,_=>true
 | m+1,i=>bif bndJ (e0 (ps.getD i.toNat .any)) (e1 (ps.getD i.toNat .any)) (e2 (ps.getD i.toNat .any)) then bnN ps m (i+1) else false
theorem run_brb {α:Type} {c:Bool} {x y r:α} (h:(DT.br c (.leaf x) (.leaf y)).run=some r):r=bif c then x else y:=by
 cases c <;> exact (Ah h).symm
def pA7:LS->Bool
 | ([.l _ es,.i _,.b _,.i k,.i i],[.i _,.i _])=>HW es k&&decide (0<=i)&&decide (i<=((DB es k).length:Int))&&decide ((DB es k).length<=1000)
 | _=>false
noncomputable def fA7:LS->DT (PX × List PV × List Row)
 | ([.l f es,.i z,.b zb,.i k,.i i],[.i x,.i y])=>.br (bnN (DB es k) (((DB es k).length:Int)-i).toNat i) (.leaf (xA7 f es z zb k x y)) (.leaf (rA7 f es k x y))
 | _=>.no
def mA7:LS->Nat
 | ([.l _ es,.i _,.b _,.i k,.i i],_)=>(((DB es k).length:Int)-i).toNat
 | _=>0
theorem sA7:∀ s r,pA7 s=true->(fA7 s).run=some r->r.1 ≠ .normal/\(CT Try.prog M7 60 87 (C4 Try.f87 7) [0,3,4,5,6,7] [0,3,4,5,6] (shA7.put s).1 (shA7.put s).2=some r \/
   ∃ s',CT Try.prog M7 60 87 (C4 Try.f87 7) [0,3,4,5,6,7] [0,3,4,5,6] (shA7.put s).1 (shA7.put s).2=some (.normal,shA7.put s')/\pA7 s'=true/\mA7 s'<mA7 s/\(fA7 s').run=some r):=by
 intro t r hp hr;unfold pA7 at hp;split at hp
 ·rename_i f es z zb k i x y;simp only[Aa,Ab] at hp;obtain⟨⟨⟨h0,h1⟩,h2⟩,h3⟩:=hp;have hr':=run_brb hr;refine⟨by rw[hr'];cases bnN _ _ _ <;> simp,?_⟩;rw[show (shA7.put ([.l f es,.i z,.b zb,.i k,.i i],[.i x,.i y]))=shA7.put (lA7 f es z zb k i x y) from rfl,qA7 f es z zb k i x y,DS h0.1 h0.2];simp only[Am];by_cases hk:i<((DB es k).length:Int)
  ·obtain⟨j,hj⟩:∃ j,(((DB es k).length:Int)-i).toNat=j+1:=⟨(((DB es k).length:Int)-i).toNat-1,by omega⟩;have hj2:(((DB es k).length:Int)-(i+1)).toNat=j:=by omega
   rw[Ac hk,DS h1 hk,Dc (n:=i+1) (by omega) (by omega)];simp only[Am];rw[hj] at hr';simp only[bnN] at hr';cases hb:bndJ (e0 ((DB es k).getD i.toNat .any)) (e1 ((DB es k).getD i.toNat .any)) (e2 ((DB es k).getD i.toNat .any)) with
   | true =>
    rw[hb,Am] at hr';refine .inr ⟨lA7 f es z zb k (i+1) x y,rfl,?_,by simp only[mA7];omega,?_⟩
    ·simp only[pA7,Aa,Ab];omega
    ·rw[hr'];simp only[fA7,hj2];cases bnN (DB es k) j (i+1) <;> rfl
   | false =>
    rw[hb,Av,Av] at hr';exact .inl (by rw[hr'];rfl)
  ·have hz:(((DB es k).length:Int)-i).toNat=0:=by omega
   rw[Al hk];exact .inl (by rw[hr',hz];rfl)
 ·cases hp
noncomputable def MY1:CP:=M7.C9 87 7 [0,3,4,5,6,7] [true] shA7 pA7 fA7
theorem okMY1:Ck Try.prog MY1.env:=
 H7.C9 (n:=60) Try.func87 (show Try.f87.body=some (DM Try.f87) by kernel_rfl) (show (loops (DM Try.f87)).filter (fun b=>Ee b==7)=[C4 Try.f87 7] by kernel_rfl) [0,3,4,5,6,7] [0,3,4,5,6] [true] shA7 mA7 sA7
def shAA:S1:=⟨120,[(0,.CR 159),(3,.ptr 0 1 0 0),(4,C5),(5,.bool),(6,C5)],[.one 28 2 (.agg [C5,C5])]⟩
abbrev lAA (f:Bool) (es:List PV) (z:Int) (zb:Bool) (k x y:Int):LS:=([.l f es,.i z,.b zb,.i k],[.i x,.i y])
noncomputable abbrev xAA (f:Bool) (es:List PV) (z:Int) (zb:Bool) (x y:Int):PX × List PV × List Row:=(.exit 0,tm 120 [(0,.CR f 159 es),(3,.ptr 0 1 0 0),(4,iv z),(5,bv zb)],[ptR x y])
noncomputable abbrev rAA (f:Bool) (es:List PV) (x y:Int):PX × List PV × List Row:=(.ret,tm 120 [(0,.CR f 159 es),(3,.ptr 0 1 0 0),(4,iv 0),(5,bv false)],[ptR x y])
theorem qAA (f:Bool) (es:List PV) (z:Int) (zb:Bool) (k x y:Int):CT Try.prog MY1 60 87 (C4 Try.f87 4) [0,3,4,5,6] [0,3,4,5] (shAA.put (lAA f es z zb k x y)).1 (shAA.put (lAA f es z zb k x y)).2 =
 bif decide (k<(es.length:Int)) then bif pA7 (lA7 f es z zb k 0 x y) then bif bnN (DB es k) (((DB es k).length:Int)-0).toNat 0 then some (.normal,shAA.put (lAA f es z zb (W (k+1)) x y)) else some (rAA f es x y) else none
 else some (xAA f es z zb x y):=by kernel_rfl
def bnA (es:List PV):Nat->Int->Bool
 | 0,_=>true
 | m+1,k=>bif bnN (DB es k) (((DB es k).length:Int)-0).toNat 0 then bnA es m (k+1) else false
def pAA:LS->Bool
 | ([.l _ es,.i _,.b _,.i k],[.i _,.i _])=>smE es&&decide (0<=k)&&decide (k<=(es.length:Int))&&decide (es.length<=1000)
 | _=>false
noncomputable def fAA:LS->DT (PX × List PV × List Row)
 | ([.l f es,.i z,.b zb,.i k],[.i x,.i y])=>.br (bnA es ((es.length:Int)-k).toNat k) (.leaf (xAA f es z zb x y)) (.leaf (rAA f es x y))
 | _=>.no
def mAA:LS->Nat
 | ([.l _ es,.i _,.b _,.i k],_)=>((es.length:Int)-k).toNat
 | _=>0
theorem sAA:∀ s r,pAA s=true->(fAA s).run=some r->r.1 ≠ .normal/\(CT Try.prog MY1 60 87 (C4 Try.f87 4) [0,3,4,5,6] [0,3,4,5] (shAA.put s).1 (shAA.put s).2=some r \/
   ∃ s',CT Try.prog MY1 60 87 (C4 Try.f87 4) [0,3,4,5,6] [0,3,4,5] (shAA.put s).1 (shAA.put s).2=some (.normal,shAA.put s')/\pAA s'=true/\mAA s'<mAA s/\(fAA s').run=some r):=by
 intro t r hp hr;unfold pAA at hp;split at hp
 ·rename_i f es z zb k x y;simp only[Aa,Ab] at hp;obtain⟨⟨⟨h0,h1⟩,h2⟩,h3⟩:=hp;have hr':=run_brb hr;refine⟨by rw[hr'];cases bnA _ _ _ <;> simp,?_⟩;rw[show (shAA.put ([.l f es,.i z,.b zb,.i k],[.i x,.i y]))=shAA.put (lAA f es z zb k x y) from rfl,qAA f es z zb k x y];by_cases hk:k<(es.length:Int)
  ·obtain⟨j,hj⟩:∃ j,((es.length:Int)-k).toNat=j+1:=⟨((es.length:Int)-k).toNat-1,by omega⟩;have hj2:((es.length:Int)-(k+1)).toNat=j:=by omega
   have hs:=smE_at h0 h1 hk;have p7:pA7 (lA7 f es z zb k 0 x y)=true:=by
    simp only[pA7,Aa,Ab];omega
   rw[Ac hk,p7,Dc (n:=k+1) (by omega) (by omega)];simp only[Am];rw[hj] at hr';simp only[bnA] at hr';cases hb:bnN (DB es k) (((DB es k).length:Int)-0).toNat 0 with
   | true =>
    rw[hb,Am] at hr';refine .inr ⟨lAA f es z zb (k+1) x y,rfl,?_,by simp only[mAA];omega,?_⟩
    ·simp only[pAA,Aa,Ab];exact⟨⟨⟨h0,by omega⟩,by omega⟩,h3⟩
    ·rw[hr'];simp only[fAA,hj2];cases bnA es j (k+1) <;> rfl
   | false =>
    rw[hb,Av,Av] at hr';exact .inl (by rw[hr'];rfl)
  ·have hz:((es.length:Int)-k).toNat=0:=by omega
   rw[Al hk];exact .inl (by rw[hr',hz];rfl)
 ·cases hp
noncomputable def MY2:CP:=MY1.C9 87 4 [0,3,4,5,6] [true] shAA pAA fAA
theorem okMY2:Ck Try.prog MY2.env:=
 okMY1.C9 (n:=60) Try.func87 (show Try.f87.body=some (DM Try.f87) by kernel_rfl) (show (loops (DM Try.f87)).filter (fun b=>Ee b==4)=[C4 Try.f87 4] by kernel_rfl) [0,3,4,5,6] [0,3,4,5] [true] shAA mAA sAA
def gB (B:BR) (r:Int) (a b:PV) (d:Int):BR:=bif r != 0 then bif !B.s then rsB a b d else bif byE B a b then rsB a b d else B else B
theorem gA17_eq (f:Bool) (es:List PV) (z:Int) (zb:Bool) (k i x y:Int) (B:BR) (r:Int) (a b:PV) (d:Int):gA17 f es z zb k i x y B r a b d=nA17 f es z zb k i x y (gB B r a b d):=by
 unfold gA17 gB;cases r != 0 <;> cases !B.s <;> cases byE B a b <;> rfl
def brS (es:List PV) (k i x y:Int) (B:BR):BR:=
 bif decide (rspE (atP es k i) (atP es k (i+1)) x y<0) then gB B (rspE (atP es k i) (atP es k (i+1)) x y) (atP es k (i+1)) (atP es k i) (e2 (es.getD k.toNat .any)) else gB B (rspE (atP es k i) (atP es k (i+1)) x y) (atP es k i) (atP es k (i+1)) (e3 (es.getD k.toNat .any))
def brN (es:List PV) (k x y:Int):Nat->Int->BR->Bool × BR
 | 0,_,B=>(true,B)
 | m+1,i,B=>bif onE (atP es k i) (atP es k (i+1)) x y then (false,B) else brN es k x y m (i+1) (brS es k i x y B)
def pA17:LS->Bool
 | ([.l _ es,.i _,.b _,.b _,.i k,.i i],[.i _,.i _,.i _,.i _,.i _,.i _,.i _,.i _,.i _])=>HW es k&&decide (0<=i)&&decide (i<=((DB es k).length:Int))&&decide ((DB es k).length<=1000)
 | _=>false
noncomputable def fA17:LS->DT (PX × List PV × List Row)
 | ([.l f es,.i z,.b zb,.b s,.i k,.i i],[.i x,.i y,.i a,.i b,.i c,.i d,.i e,.i f',.i g]) =>
  .br (brN es k x y (((DB es k).length:Int)-1-i).toNat i ⟨s,a,b,c,d,e,f',g⟩).1 (.leaf (xA17 f es z zb k x y (brN es k x y (((DB es k).length:Int)-1-i).toNat i ⟨s,a,b,c,d,e,f',g⟩).2)) (.leaf (rA17 f es k x y (brN es k x y (((DB es k).length:Int)-1-i).toNat i ⟨s,a,b,c,d,e,f',g⟩).2))
 | _=>.no
def mA17:LS->Nat
 | ([.l _ es,.i _,.b _,.b _,.i k,.i i],_)=>(((DB es k).length:Int)-1-i).toNat
 | _=>0
theorem qA17b (f:Bool) (es:List PV) (z:Int) (zb:Bool) (k i x y:Int) (s:Bool) (a b c d e f' g:Int):CT Try.prog MY2 60 87 (C4 Try.f87 17) [0,3,4,5,8,9,10,11] [0,3,4,5,8,9,10] (Im.put (lA17 f es z zb k i x y ⟨s,a,b,c,d,e,f',g⟩)).1 (Im.put (lA17 f es z zb k i x y ⟨s,a,b,c,d,e,f',g⟩)).2 =
 bif HW es k then bif decide (W (i+1)<((DB es k).length:Int)) then bif HW es k then bif HW (DB es k) i then bif HW es k then bif HW (DB es k) (W (i+1)) then
  bif onE (atP es k i) (atP es k (W (i+1))) x y then some (rA17 f es k x y ⟨s,a,b,c,d,e,f',g⟩) else
  bif HW es k then bif decide (rspE (atP es k i) (atP es k (W (i+1))) x y<0) then bif HW es k then
   gA17 f es z zb k i x y ⟨s,a,b,c,d,e,f',g⟩ (rspE (atP es k i) (atP es k (W (i+1))) x y) (atP es k (W (i+1))) (atP es k i) (e2 (es.getD k.toNat .any)) else none
  else gA17 f es z zb k i x y ⟨s,a,b,c,d,e,f',g⟩ (rspE (atP es k i) (atP es k (W (i+1))) x y) (atP es k i) (atP es k (W (i+1))) (e3 (es.getD k.toNat .any)) else none
 else none else none else none else none else some (xA17 f es z zb k x y ⟨s,a,b,c,d,e,f',g⟩) else none:=by kernel_rfl
theorem sA17:∀ s r,pA17 s=true->(fA17 s).run=some r->r.1 ≠ .normal/\(CT Try.prog MY2 60 87 (C4 Try.f87 17) [0,3,4,5,8,9,10,11] [0,3,4,5,8,9,10] (Im.put s).1 (Im.put s).2=some r \/
   ∃ s',CT Try.prog MY2 60 87 (C4 Try.f87 17) [0,3,4,5,8,9,10,11] [0,3,4,5,8,9,10] (Im.put s).1 (Im.put s).2=some (.normal,Im.put s')/\pA17 s'=true/\mA17 s'<mA17 s/\(fA17 s').run=some r):=by
 intro t r hp hr;unfold pA17 at hp;split at hp
 ·rename_i f es z zb s k i x y a b c d e f' g;simp only[Aa,Ab] at hp;obtain⟨⟨⟨h0,h1⟩,h2⟩,h3⟩:=hp;have hr':=run_brb hr;refine⟨by rw[hr'];cases (brN _ _ _ _ _ _ _).1 <;> simp,?_⟩;have q:CT Try.prog MY2 60 87 (C4 Try.f87 17) [0,3,4,5,8,9,10,11] [0,3,4,5,8,9,10] (Im.put (lA17 f es z zb k i x y ⟨s,a,b,c,d,e,f',g⟩)).1 (Im.put (lA17 f es z zb k i x y ⟨s,a,b,c,d,e,f',g⟩)).2=_:=qA17b f es z zb k i x y s a b c d e f' g;rw[show (Im.put ([.l f es,.i z,.b zb,.b s,.i k,.i i],[.i x,.i y,.i a,.i b,.i c,.i d,.i e,.i f',.i g]))=Im.put (lA17 f es z zb k i x y ⟨s,a,b,c,d,e,f',g⟩) from rfl,q,DS h0.1 h0.2];simp only[Am,gA17_eq];rw[Dc (n:=i+1) (by omega) (by omega)];by_cases hk:i+1<((DB es k).length:Int)
  ·obtain⟨j,hj⟩:∃ j,(((DB es k).length:Int)-1-i).toNat=j+1:=⟨(((DB es k).length:Int)-1-i).toNat-1,by omega⟩;have hj2:(((DB es k).length:Int)-1-(i+1)).toNat=j:=by omega
   rw[Ac hk,DS h1 (by omega),DS (i:=i+1) (by omega) hk];simp only[Am];rw[hj] at hr';simp only[brN] at hr';cases hb:onE (atP es k i) (atP es k (i+1)) x y with
   | true =>
    rw[hb] at hr';simp only[Am,Av] at hr';exact .inl (by rw[hr'];rfl)
   | false =>
    rw[hb] at hr';simp only[Av] at hr';refine .inr ⟨lA17 f es z zb k (i+1) x y (brS es k i x y ⟨s,a,b,c,d,e,f',g⟩),?_,?_,by simp only[mA17];omega,?_⟩
    ·unfold brS nA17;rw[Dc (n:=i+1) (by omega) (by omega)];simp only[Av];cases decide (rspE (atP es k i) (atP es k (i+1)) x y<0) <;> rfl
    ·simp only[pA17,Aa,Ab];omega
    ·rw[hr'];simp only[fA17,hj2];generalize brN es k x y j (i+1) (brS es k i x y ⟨s,a,b,c,d,e,f',g⟩)=w;cases w.1 <;> rfl
  ·have hz:(((DB es k).length:Int)-1-i).toNat=0:=by omega
   rw[Al hk];exact .inl (by rw[hr',hz];rfl)
 ·cases hp
noncomputable def MY3:CP:=MY2.C9 87 17 [0,3,4,5,8,9,10,11] [true,true] Im pA17 fA17
theorem okMY3:Ck Try.prog MY3.env:=
 okMY2.C9 (n:=60) Try.func87 (show Try.f87.body=some (DM Try.f87) by kernel_rfl) (show (loops (DM Try.f87)).filter (fun b=>Ee b==17)=[C4 Try.f87 17] by kernel_rfl) [0,3,4,5,8,9,10,11] [0,3,4,5,8,9,10] [true,true] Im mA17 sA17
def JN:S1:=⟨120,[(0,.CR 159),(3,.ptr 0 1 0 0),(4,C5),(5,.bool),(8,.bool),(9,.ptr 1 1 0 0),(10,C5)],[.one 28 2 (.agg [C5,C5]),.one 161 7 (.agg [C5,C5,C5,C5,C5,C5,C5])]⟩
abbrev lA14 (f:Bool) (es:List PV) (z:Int) (zb:Bool) (k x y:Int) (B:BR):LS:=([.l f es,.i z,.b zb,.b B.s,.i k],[.i x,.i y,.i B.a,.i B.b,.i B.c,.i B.d,.i B.e,.i B.f,.i B.g])
noncomputable abbrev xA14 (z:Int) (zb:Bool) (x y:Int) (B:BR):PX × List PV × List Row:=(.exit 4,tm 120 [(4,iv z),(5,bv zb),(9,.ptr 1 1 0 0)],[ptR x y,B.row])
noncomputable abbrev rA14 (x y:Int) (B:BR):PX × List PV × List Row:=(.ret,tm 120 [(4,iv 0),(5,bv false),(9,.ptr 1 1 0 0)],[ptR x y,B.row])
abbrev brM (es:List PV) (k x y:Int) (B:BR):Bool × BR:=brN es k x y (((DB es k).length:Int)-1-0).toNat 0 B
theorem qA14 (f:Bool) (es:List PV) (z:Int) (zb:Bool) (k x y:Int) (s:Bool) (a b c d e f' g:Int):CT Try.prog MY3 60 87 (C4 Try.f87 14) [0,3,4,5,8,9,10] [4,5,9] (JN.put (lA14 f es z zb k x y ⟨s,a,b,c,d,e,f',g⟩)).1 (JN.put (lA14 f es z zb k x y ⟨s,a,b,c,d,e,f',g⟩)).2 =
 bif decide (k<(es.length:Int)) then bif pA17 (lA17 f es z zb k 0 x y ⟨s,a,b,c,d,e,f',g⟩) then
  bif (brM es k x y ⟨s,a,b,c,d,e,f',g⟩).1 then some (.normal,JN.put (lA14 f es z zb (W (k+1)) x y (brM es k x y ⟨s,a,b,c,d,e,f',g⟩).2)) else some (rA14 x y (brM es k x y ⟨s,a,b,c,d,e,f',g⟩).2) else none
 else some (xA14 z zb x y ⟨s,a,b,c,d,e,f',g⟩):=by kernel_rfl
def brA (es:List PV) (x y:Int):Nat->Int->BR->Bool × BR
 | 0,_,B=>(true,B)
 | m+1,k,B=>bif (brM es k x y B).1 then brA es x y m (k+1) (brM es k x y B).2 else (false,(brM es k x y B).2)
def pA14:LS->Bool
 | ([.l _ es,.i _,.b _,.b _,.i k],[.i _,.i _,.i _,.i _,.i _,.i _,.i _,.i _,.i _])=>smE es&&decide (0<=k)&&decide (k<=(es.length:Int))&&decide (es.length<=1000)
 | _=>false
noncomputable def fA14:LS->DT (PX × List PV × List Row)
 | ([.l _ es,.i z,.b zb,.b s,.i k],[.i x,.i y,.i a,.i b,.i c,.i d,.i e,.i f',.i g]) =>
  .br (brA es x y ((es.length:Int)-k).toNat k ⟨s,a,b,c,d,e,f',g⟩).1 (.leaf (xA14 z zb x y (brA es x y ((es.length:Int)-k).toNat k ⟨s,a,b,c,d,e,f',g⟩).2)) (.leaf (rA14 x y (brA es x y ((es.length:Int)-k).toNat k ⟨s,a,b,c,d,e,f',g⟩).2))
 | _=>.no
def mA14:LS->Nat
 | ([.l _ es,.i _,.b _,.b _,.i k],_)=>((es.length:Int)-k).toNat
 | _=>0
theorem sA14:∀ s r,pA14 s=true->(fA14 s).run=some r->r.1 ≠ .normal/\(CT Try.prog MY3 60 87 (C4 Try.f87 14) [0,3,4,5,8,9,10] [4,5,9] (JN.put s).1 (JN.put s).2=some r \/
   ∃ s',CT Try.prog MY3 60 87 (C4 Try.f87 14) [0,3,4,5,8,9,10] [4,5,9] (JN.put s).1 (JN.put s).2=some (.normal,JN.put s')/\pA14 s'=true/\mA14 s'<mA14 s/\(fA14 s').run=some r):=by
 intro t r hp hr;unfold pA14 at hp;split at hp
 ·rename_i f es z zb s k x y a b c d e f' g;simp only[Aa,Ab] at hp;obtain⟨⟨⟨h0,h1⟩,h2⟩,h3⟩:=hp;have hr':=run_brb hr;refine⟨by rw[hr'];cases (brA _ _ _ _ _ _).1 <;> simp,?_⟩;rw[show (JN.put ([.l f es,.i z,.b zb,.b s,.i k],[.i x,.i y,.i a,.i b,.i c,.i d,.i e,.i f',.i g]))=JN.put (lA14 f es z zb k x y ⟨s,a,b,c,d,e,f',g⟩) from rfl,qA14 f es z zb k x y s a b c d e f' g];by_cases hk:k<(es.length:Int)
  ·obtain⟨j,hj⟩:∃ j,((es.length:Int)-k).toNat=j+1:=⟨((es.length:Int)-k).toNat-1,by omega⟩;have hj2:((es.length:Int)-(k+1)).toNat=j:=by omega
   have hs:=smE_at h0 h1 hk;have p7:pA17 (lA17 f es z zb k 0 x y ⟨s,a,b,c,d,e,f',g⟩)=true:=by
    simp only[pA17,Aa,Ab];omega
   rw[Ac hk,p7,Dc (n:=k+1) (by omega) (by omega)];simp only[Am];rw[hj] at hr';simp only[brA] at hr';generalize brM es k x y ⟨s,a,b,c,d,e,f',g⟩=w at hr';cases hb:w.1 with
   | true =>
    rw[hb,Am] at hr';refine .inr ⟨lA14 f es z zb (k+1) x y w.2,rfl,?_,by simp only[mA14];omega,?_⟩
    ·simp only[pA14,Aa,Ab];exact⟨⟨⟨h0,by omega⟩,by omega⟩,h3⟩
    ·rw[hr'];simp only[fA14,hj2];show (DT.br (brA es x y j (k+1) w.2).1 _ _).run=_
     generalize brA es x y j (k+1) w.2=v;cases v.1 <;> rfl
   | false =>
    rw[hb,Av] at hr';simp only[Av] at hr';exact .inl (by rw[hr'];rfl)
  ·have hz:((es.length:Int)-k).toNat=0:=by omega
   rw[Al hk];exact .inl (by rw[hr',hz];rfl)
 ·cases hp
noncomputable def MY4:CP:=MY3.C9 87 14 [0,3,4,5,8,9,10] [true,true] JN pA14 fA14
theorem okMY4:Ck Try.prog MY4.env:=
 okMY3.C9 (n:=60) Try.func87 (show Try.f87.body=some (DM Try.f87) by kernel_rfl) (show (loops (DM Try.f87)).filter (fun b=>Ee b==14)=[C4 Try.f87 14] by kernel_rfl) [0,3,4,5,8,9,10] [4,5,9] [true,true] JN mA14 sA14
abbrev br0:BR:=⟨false,0,0,0,0,0,0,0⟩
theorem qAtT (f:Bool) (es:List PV) (x y:Int):Dx Try.prog MY4 60 87 [.CR f 159 es,FD x y] =
 bif !bndJ x y 1 then some (.D9 [iv 0,bv false]) else bif pAA (lAA f es 0 false 0 x y) then bif bnA es ((es.length:Int)-0).toNat 0 then
  bif pA14 (lA14 f es 0 false 0 x y br0) then bif (brA es x y ((es.length:Int)-0).toNat 0 br0).1 then some (.D9 [iv (brA es x y ((es.length:Int)-0).toNat 0 br0).2.g,bv true]) else some (.D9 [iv 0,bv false]) else none
 else some (.D9 [iv 0,bv false]) else none:=by kernel_rfl
def atB (es:List PV) (x y:Int):Bool:=bif !bndJ x y 1 then false else bif bnA es ((es.length:Int)-0).toNat 0 then (brA es x y ((es.length:Int)-0).toNat 0 br0).1 else false
def atI (es:List PV) (x y:Int):Int:=bif atB es x y then (brA es x y ((es.length:Int)-0).toNat 0 br0).2.g else 0
theorem qAtTN (f:Bool) {es:List PV} (x y:Int) (h:smE es=true) (hl:es.length<=1000):Dx Try.prog MY4 60 87 [.CR f 159 es,FD x y]=some (.D9 [iv (atI es x y),bv (atB es x y)]):=by
 have h1:pAA (lAA f es 0 false 0 x y)=true:=by
  simp only[pAA,Aa,Ab];exact⟨⟨⟨h,by omega⟩,by omega⟩,hl⟩
 have h2:pA14 (lA14 f es 0 false 0 x y br0)=true:=by
  simp only[pA14,Aa,Ab];exact⟨⟨⟨h,by omega⟩,by omega⟩,hl⟩
 rw[qAtT,h1,h2];unfold atI atB;cases bndJ x y 1 <;> cases bnA es ((es.length:Int)-0).toNat 0 <;> cases (brA es x y ((es.length:Int)-0).toNat 0 br0).1 <;> rfl
def cAtT:List PV->Option (DT PV)
 | [.CR _ 159 es,.agg [.val (.int .i64 x),.val (.int .i64 y)]]=>some (.br (smE es&&decide (es.length<=1000)) (.leaf (.D9 [iv (atI es x y),bv (atB es x y)])) .no)
 | _=>none
theorem eAtT:Hx.CV Try.prog 87:=(CL okMY4 (n:=60) (qAtTN false (es:=[]) 0 0 rfl (by simp))).1
theorem oAtT (args:List PV) (d:DT PV) (r:PV) (h:cAtT args=some d) (hr:d.run=some r):Da Try.prog 87 args r:=by
 unfold cAtT at h;split at h
 ·rename_i f es x y;cases h;obtain⟨h1,rfl⟩:=DJ hr;rw[Aa,Ab] at h1;exact (CL okMY4 (n:=60) (qAtTN f x y h1.1 h1.2)).2
 ·cases h
theorem trN_all {es:List PV} (h:smE es=true):∀ (m:Nat) (k:Int) (s:Bool × List PV),0<=k->k+m<=(es.length:Int)->(∀ e ∈ s.2,((e.cellAt 1).getL).length<=1000)->∀ e ∈ (trN es m k s).2,((e.cellAt 1).getL).length<=1000
 | 0,_,_,_,_,h2=>h2
 | m+1,k,s,h0,h1,h2=>trN_all h m (k+1) _ (by omega) (by omega) (fun e he=>by
   rcases A4.1 he with he | he
   ·exact h2 e he
   ·rw[AG] at he;subst he;show (((ssE es k).drop 0).take (DB es k).length).length<=1000
    have:=smE_at h h0 (by omega);rw[Az];omega)
theorem trL_sm {es:List PV} (h:smE es=true):smE (trL es)=true:=by
 unfold smE;rw[Ap];intro e he;exact Ac (trN_all h ((es.length:Int)-0).toNat 0 (true,[]) (by omega) (by omega) (by intro e he;cases he) e he)
noncomputable def MZ1:CP:=(M7.DG 88 cTrc).DG 87 cAtT
theorem okMZ1:Ck Try.prog MZ1.env:=(H7.DG eTrc oTrc).DG eAtT oAtT
theorem qAt (f:Bool) (es:List PV) (x y:Int):Dx Try.prog MZ1 60 79 [.CR f 147 es,FD x y] =
 bif smE es&&decide (es.length<=1000) then bif smE (trL es)&&decide ((trL es).length<=1000) then some (.D9 [iv (atI (trL es) x y),bv (atB (trL es) x y)]) else none else none:=by kernel_rfl
theorem qAtN (f:Bool) {es:List PV} (x y:Int) (h:smE es=true) (hl:es.length<=1000):Dx Try.prog MZ1 60 79 [.CR f 147 es,FD x y]=some (.D9 [iv (atI (trL es) x y),bv (atB (trL es) x y)]):=by
 rw[qAt,h,trL_sm h,trL_len,Ac hl];rfl
def cAt:List PV->Option (DT PV)
 | [.CR _ 147 es,.agg [.val (.int .i64 x),.val (.int .i64 y)]]=>some (.br (smE es&&decide (es.length<=1000)) (.leaf (.D9 [iv (atI (trL es) x y),bv (atB (trL es) x y)])) .no)
 | _=>none
theorem eAt:Hx.CV Try.prog 79:=(CL okMZ1 (n:=60) (qAtN false (es:=[]) 0 0 rfl (by simp))).1
theorem oAt (args:List PV) (d:DT PV) (r:PV) (h:cAt args=some d) (hr:d.run=some r):Da Try.prog 79 args r:=by
 unfold cAt at h;split at h
 ·rename_i f es x y;cases h;obtain⟨h1,rfl⟩:=DJ hr;rw[Aa,Ab] at h1;exact (CL okMZ1 (n:=60) (qAtN f x y h1.1 h1.2)).2
 ·cases h
def shFd:S1:=⟨27,[(1,C5),(2,.ptr 0 1 0 0),(4,C5),(5,C5)],[.Gg 73 4 (.agg [.CR 147,.CR 106,.CR 49,.nil])]⟩
abbrev lFd (id z k:Int) (g:Bool) (E:List PV) (f:Bool) (F:List PV) (h:Bool) (D:List PV):LS:=([.i id,.i z,.i k],[.l g E,.l f F,.l h D])
noncomputable abbrev xFd (z:Int) (g:Bool) (E:List PV) (f:Bool) (F:List PV) (h:Bool) (D:List PV):PX × List PV × List Row:=(.exit 0,tm 27 [(4,iv z)],(shFd.put (lFd 0 0 0 g E f F h D)).2)
noncomputable abbrev rFd (z:Int) (g:Bool) (E:List PV) (f:Bool) (F:List PV) (h:Bool) (D:List PV):PX × List PV × List Row:=(.ret,tm 27 [(4,iv z)],(shFd.put (lFd 0 0 0 g E f F h D)).2)
theorem qFd (id z k:Int) (g:Bool) (E:List PV) (f:Bool) (F:List PV) (h:Bool) (D:List PV):CT Try.prog M7 60 80 (C4 Try.f80 2) [1,2,4,5] [4] (shFd.put (lFd id z k g E f F h D)).1 (shFd.put (lFd id z k g E f F h D)).2 =
 bif decide (k<(F.length:Int)) then bif HW F k then bif ((F.getD k.toNat .any).cellAt 0).Dw==id then bif HW F k then some (rFd ((F.getD k.toNat .any).cellAt 4).Dw g E f F h D) else none
  else some (.normal,shFd.put (lFd id z (W (k+1)) g E f F h D)) else none
 else some (xFd z g E f F h D):=by kernel_rfl
def fdN (F:List PV) (id:Int):Nat->Int->Option Int
 | 0,_=>none
 | m+1,k=>bif ((F.getD k.toNat .any).cellAt 0).Dw==id then some ((F.getD k.toNat .any).cellAt 4).Dw else fdN F id m (k+1)
def pFd:LS->Bool
 | ([.i _,.i _,.i k],[.l _ _,.l _ F,.l _ _])=>decide (0<=k)&&decide (k<=(F.length:Int))&&decide (F.length<=1000)
 | _=>false
noncomputable def fFd:LS->DT (PX × List PV × List Row)
 | ([.i id,.i z,.i k],[.l g E,.l f F,.l h D])=>.br (fdN F id ((F.length:Int)-k).toNat k).isSome (.leaf (rFd ((fdN F id ((F.length:Int)-k).toNat k).getD 0) g E f F h D)) (.leaf (xFd z g E f F h D))
 | _=>.no
def mFd:LS->Nat
 | ([.i _,.i _,.i k],[.l _ _,.l _ F,.l _ _])=>((F.length:Int)-k).toNat
 | _=>0
theorem sFd:∀ s r,pFd s=true->(fFd s).run=some r->r.1 ≠ .normal/\(CT Try.prog M7 60 80 (C4 Try.f80 2) [1,2,4,5] [4] (shFd.put s).1 (shFd.put s).2=some r \/
   ∃ s',CT Try.prog M7 60 80 (C4 Try.f80 2) [1,2,4,5] [4] (shFd.put s).1 (shFd.put s).2=some (.normal,shFd.put s')/\pFd s'=true/\mFd s'<mFd s/\(fFd s').run=some r):=by
 intro t r hp hr;unfold pFd at hp;split at hp
 ·rename_i id z k g E f F h D;simp only[Aa,Ab] at hp;obtain⟨⟨h1,h2⟩,h3⟩:=hp;have hr':=run_brb hr;refine⟨by rw[hr'];cases (fdN _ _ _ _).isSome <;> simp,?_⟩;rw[show (shFd.put ([.i id,.i z,.i k],[.l g E,.l f F,.l h D]))=shFd.put (lFd id z k g E f F h D) from rfl,qFd];by_cases hk:k<(F.length:Int)
  ·obtain⟨j,hj⟩:∃ j,((F.length:Int)-k).toNat=j+1:=⟨((F.length:Int)-k).toNat-1,by omega⟩;have hj2:((F.length:Int)-(k+1)).toNat=j:=by omega
   rw[Ac hk,DS h1 hk,Dc (n:=k+1) (by omega) (by omega)];simp only[Am];rw[hj] at hr';simp only[fdN] at hr';cases hb:((F.getD k.toNat .any).cellAt 0).Dw==id with
   | true =>
    rw[hb] at hr';simp only[Am,CG,Bv] at hr';exact .inl (by rw[hr'];rfl)
   | false =>
    rw[hb] at hr';simp only[Av] at hr';refine .inr ⟨lFd id z (k+1) g E f F h D,rfl,?_,by simp only[mFd];omega,?_⟩
    ·simp only[pFd,Aa,Ab];omega
    ·rw[hr'];simp only[fFd,hj2];generalize fdN F id j (k+1)=w;cases w <;> rfl
  ·have hz:((F.length:Int)-k).toNat=0:=by omega
   rw[Al hk];exact .inl (by rw[hr',hz];rfl)
 ·cases hp
noncomputable def MW1:CP:=M7.C9 80 2 [1,2,4,5] [true] shFd pFd fFd
theorem okMW1:Ck Try.prog MW1.env:=
 H7.C9 (n:=60) Try.func80 (show Try.f80.body=some (DM Try.f80) by kernel_rfl) (show (loops (DM Try.f80)).filter (fun b=>Ee b==2)=[C4 Try.f80 2] by kernel_rfl) [1,2,4,5] [4] [true] shFd mFd sFd
abbrev mapV (g:Bool) (E:List PV) (f:Bool) (F:List PV) (h:Bool) (D:List PV):PV:=.agg [.CR g 147 E,.CR f 106 F,.CR h 49 D,.val (.slice none 0 0)]
theorem qFdr (g:Bool) (E:List PV) (f:Bool) (F:List PV) (h:Bool) (D:List PV) (id:Int):Dx Try.prog MW1 60 80 [mapV g E f F h D,iv id] =
 bif pFd (lFd id 0 0 g E f F h D) then bif (fdN F id ((F.length:Int)-0).toNat 0).isSome then some (iv ((fdN F id ((F.length:Int)-0).toNat 0).getD 0)) else some (iv 0) else none:=by kernel_rfl
def fdV (F:List PV) (id:Int):Int:=(fdN F id ((F.length:Int)-0).toNat 0).getD 0
theorem qFdrN (g:Bool) (E:List PV) (f:Bool) {F:List PV} (h:Bool) (D:List PV) (id:Int) (hl:F.length<=1000):Dx Try.prog MW1 60 80 [mapV g E f F h D,iv id]=some (iv (fdV F id)):=by
 have h1:pFd (lFd id 0 0 g E f F h D)=true:=by
  simp only[pFd,Aa,Ab];omega
 rw[qFdr,h1];unfold fdV;cases fdN F id ((F.length:Int)-0).toNat 0 <;> rfl
def cFdr:List PV->Option (DT PV)
 | [.agg [.CR _ 147 _,.CR _ 106 F,.CR _ 49 _,.val (.slice none 0 0)],.val (.int .i64 id)]=>some (.br (decide (F.length<=1000)) (.leaf (iv (fdV F id))) .no)
 | _=>none
theorem eFdr:Hx.CV Try.prog 80:=(CL okMW1 (n:=60) (qFdrN false [] false (F:=[]) false [] 0 (by simp))).1
theorem oFdr (args:List PV) (d:DT PV) (r:PV) (h:cFdr args=some d) (hr:d.run=some r):Da Try.prog 80 args r:=by
 unfold cFdr at h;split at h
 ·rename_i g E f F h' D id;cases h;obtain⟨h1,rfl⟩:=DJ hr;exact (CL okMW1 (n:=60) (qFdrN g E f h' D id (AR h1))).2
 ·cases h
theorem qPart (f:Bool) (ls:List PV) (k:Int):Dx Try.prog M7 60 54 [.CR f 38 ls,iv k] =
 bif decide (k ≥ (ls.length:Int)) then some (.val (.slice none 0 0)) else bif HW ls k then some (.CR false 3 ((ls.getD k.toNat .any).cellAt 0).getL) else none:=by kernel_rfl
theorem nth_out {ls:List PV} {k:Nat} (h:ls.length<=k):nth ls k=[]:=by
 unfold nth;rw[AA,AD h];rfl
def cPart:List PV->Option (DT PV)
 | [.CR _ 38 ls,.val (.int .i64 k)]=>some (.br (decide (0<=k)) (.leaf (.CR false 3 (nth ls k.toNat))) .no)
 | _=>none
theorem ePart:Hx.CV Try.prog 54:=(CL H7 (n:=60) ((qPart false [] 0).trans (by rfl))).1
theorem oPart (args:List PV) (d:DT PV) (r:PV) (h:cPart args=some d) (hr:d.run=some r):Da Try.prog 54 args r:=by
 unfold cPart at h;split at h
 ·rename_i f ls k;cases h;obtain⟨h1,rfl⟩:=DJ hr;have h0:=AR h1;by_cases hk:k ≥ (ls.length:Int)
  ·rw[nth_out (by omega)];exact pcall_nil (CL H7 (n:=60) ((qPart f ls k).trans (by rw[Ac hk];rfl))).2
  ·exact (CL H7 (n:=60) ((qPart f ls k).trans (by rw[Al hk,DS h0 (by omega)];rfl))).2
 ·cases h
noncomputable def MW2:CP:=(M7.Ge 77 19 4).Jg 77 19 [12,13,14,15,16,17,18,19,20,21,22,23,24,25,26,27,28,29,30,31,32,33,34,35,36,37,38,39,40,41,42,43,44,45,46,47,48,49,50,51,52,53,54,55,56,57,58,59,60,61,62,63,64,65,66,67,68,69,70,71,72,73,74,75,76,77,78,79,80,81,82,83,84,85,86,87,88,89,90,91,92,93,94,95,96,97,98,99,100,101,102,103,104,105,106,107,108,109,110,111,112,113,114,115,116,117,118]
theorem okMW2:Ck Try.prog MW2.env:=(H7.Ge 77 19 4).Jg 77 19 [12,13,14,15,16,17,18,19,20,21,22,23,24,25,26,27,28,29,30,31,32,33,34,35,36,37,38,39,40,41,42,43,44,45,46,47,48,49,50,51,52,53,54,55,56,57,58,59,60,61,62,63,64,65,66,67,68,69,70,71,72,73,74,75,76,77,78,79,80,81,82,83,84,85,86,87,88,89,90,91,92,93,94,95,96,97,98,99,100,101,102,103,104,105,106,107,108,109,110,111,112,113,114,115,116,117,118]
abbrev wyR (nl:Bool) (es:List PV):Row:={ es,s:=8,t:=49,bv:=true,nl }
def shWa:S1:=⟨123,[(0,.sl 0),(4,.ptr 1 1 0 0),(6,.ptr 2 1 0 0),(7,.ptr 3 1 0 0),(11,.ptr 5 1 0 0),(12,C5),(13,C5)],[.many 49 8,.one 103 2 (.agg [.CR 3,C5]),.one 28 2 aP,.one 28 2 aP,.many 28 2,.Gg 49 8 (.agg [C5,.sl 4,C5,.str,.str,.bool,C5,C5])]⟩
abbrev lWa (n l:Nat) (m k:Int) (nl:Bool) (es:List PV) (f:Bool) (L:List PV) (a ax ay bx b':Int) (u:Bool) (ps:List PV) (id:Int) (p q:Nat) (lv:Int) (s3 s4:ByteArray) (st:Bool) (c6 c7:Int):LS:=
 ([.n n,.n l,.i m,.i k],[.l nl es,.l f L,.i a,.i ax,.i ay,.i bx,.i b',.l u ps,.i id,.n p,.n q,.i lv,.s s3,.s s4,.b st,.i c6,.i c7])
noncomputable abbrev xWa (n l:Nat) (nl:Bool) (es:List PV) (f:Bool) (L:List PV) (a ax ay bx b':Int) (u:Bool) (ps:List PV) (id:Int) (p q:Nat) (lv:Int) (s3 s4:ByteArray) (st:Bool) (c6 c7:Int):PX × List PV × List Row:=
 (.exit 0,tm 123 [(0,.sl 0 n 0 l),(4,.ptr 1 1 0 0),(7,.ptr 3 1 0 0),(11,.ptr 5 1 0 0)],(shWa.put (lWa n l 0 0 nl es f L a ax ay bx b' u ps id p q lv s3 s4 st c6 c7)).2)
def wyP (ax ay bx b' m k d:Int):PV:=FD (bif ax==bx then W (wgA ax (W (bx-ax)) m k+W (d-8)) else wgA ax (W (bx-ax)) m k) (bif ay==b' then W (wgA ay (W (b'-ay)) m k+W (d-8)) else wgA ay (W (b'-ay)) m k)
abbrev roomQ (ps:List PV) (p q:Nat):Bool:=true&&decide (ps.length=p)&&decide (p=q)&&decide ((p+1)*16<=140737488355328)
noncomputable def nWa (n l:Nat) (m k:Int) (nl:Bool) (es:List PV) (f:Bool) (L:List PV) (a ax ay bx b':Int) (u:Bool) (ps:List PV) (id:Int) (p q:Nat) (lv:Int) (s3 s4:ByteArray) (st:Bool) (c6 c7:Int) (X Y:Int):Option (PX × List PV × List Row):=
 bif roomQ ps p q then some (.normal,shWa.put (lWa n l m (W (k+1)) nl es (fI f L a) L (aI L a) ax ay bx b' (u&&false) (ps++[FD X Y]) id (p+1) (p+1) lv s3 s4 st c6 c7)) else none
theorem qWa (n l:Nat) (m k:Int) (nl:Bool) (es:List PV) (f:Bool) (L:List PV) (a ax ay bx b':Int) (u:Bool) (ps:List PV) (id:Int) (p q:Nat) (lv:Int) (s3 s4:ByteArray) (st:Bool) (c6 c7:Int):
 CT Try.prog MW2 60 77 (C4 Try.f77 4) [0,4,6,7,11,12,13] [0,4,7,11] (shWa.put (lWa n l m k nl es f L a ax ay bx b' u ps id p q lv s3 s4 st c6 c7)).1 (shWa.put (lWa n l m k nl es f L a ax ay bx b' u ps id p q lv s3 s4 st c6 c7)).2 =
 bif decide (k<=m) then bif true && !decide (W (m+1)=0) then bif true && !decide (W (m+1)=0) then bif EG a 17 then
  bif ay==b' then
   bif ax==bx then nWa n l m k nl es f L a ax ay bx b' u ps id p q lv s3 s4 st c6 c7 (W (wgA ax (W (bx-ax)) m k+W (dI L a 17-8))) (W (wgA ay (W (b'-ay)) m k+W (dI L a 17-8))) else nWa n l m k nl es f L a ax ay bx b' u ps id p q lv s3 s4 st c6 c7 (wgA ax (W (bx-ax)) m k) (W (wgA ay (W (b'-ay)) m k+W (dI L a 17-8)))
  else
   bif ax==bx then nWa n l m k nl es f L a ax ay bx b' u ps id p q lv s3 s4 st c6 c7 (W (wgA ax (W (bx-ax)) m k+W (dI L a 17-8))) (wgA ay (W (b'-ay)) m k) else nWa n l m k nl es f L a ax ay bx b' u ps id p q lv s3 s4 st c6 c7 (wgA ax (W (bx-ax)) m k) (wgA ay (W (b'-ay)) m k)
 else none else none else none else some (xWa n l nl es f L a ax ay bx b' u ps id p q lv s3 s4 st c6 c7):=by kernel_rfl
def wyL (ax ay bx b' m:Int) (L:List PV):Nat->Int->Int->List PV
 | 0,_,_=>[]
 | j+1,k,a=>wyP ax ay bx b' m k (dI L a 17)::wyL ax ay bx b' m L j (k+1) (aI L a)
theorem wyL_len {ax ay bx b' m:Int} {L:List PV}:∀ {j:Nat} {k a:Int},(wyL ax ay bx b' m L j k a).length=j
 | 0,_,_=>rfl
 | j+1,k,a=>by rw[wyL,Ay,wyL_len]
def pWa:LS->Bool
 | ([.n _,.n _,.i m,.i k],[.l _ _,.l _ _,.i a,.i _,.i _,.i _,.i _,.l u ps,.i _,.n p,.n q,.i _,.s _,.s _,.b _,.i _,.i _])=>decide (p=ps.length)&&decide (q=ps.length)&&decide (0<=m)&&decide (m<=2)&&decide (1<=k)&&decide (k<=m+1)&&decide ((ps.length:Int)<=10+k)&&decide (0<=a)&&decide (a<=1000000000+k) && !u
 | _=>false
noncomputable def fWa:LS->DT (PX × List PV × List Row)
 | ([.n n,.n l,.i m,.i k],[.l nl es,.l f L,.i a,.i ax,.i ay,.i bx,.i b',.l _ ps,.i id,.n _,.n _,.i lv,.s s3,.s s4,.b st,.i c6,.i c7]) =>
  .leaf (xWa n l nl es (f1 f L a (m+1-k).toNat) L (a1 L a (m+1-k).toNat) ax ay bx b' false (ps++wyL ax ay bx b' m L (m+1-k).toNat k a) id (ps.length+(m+1-k).toNat) (ps.length+(m+1-k).toNat) lv s3 s4 st c6 c7)
 | _=>.no
def mWa:LS->Nat
 | ([.n _,.n _,.i m,.i k],_)=>(m+1-k).toNat
 | _=>0
theorem sWa:∀ s r,pWa s=true->(fWa s).run=some r->r.1 ≠ .normal/\(CT Try.prog MW2 60 77 (C4 Try.f77 4) [0,4,6,7,11,12,13] [0,4,7,11] (shWa.put s).1 (shWa.put s).2=some r \/
   ∃ s',CT Try.prog MW2 60 77 (C4 Try.f77 4) [0,4,6,7,11,12,13] [0,4,7,11] (shWa.put s).1 (shWa.put s).2=some (.normal,shWa.put s')/\pWa s'=true/\mWa s'<mWa s/\(fWa s').run=some r):=by
 intro t r hp hr;unfold pWa at hp;split at hp
 ·rename_i n l m k nl es f L a ax ay bx b' u ps id p q lv s3 s4 st c6 c7;simp only[Aa,Ab,Ak] at hp;obtain⟨⟨⟨⟨⟨⟨⟨⟨⟨rfl,rfl⟩,h2⟩,h3⟩,h4⟩,h5⟩,h6⟩,h7⟩,h8⟩,rfl⟩:=hp;have hr':=(Ah hr).symm;refine⟨by rw[hr'];simp,?_⟩;rw[show (shWa.put ([.n n,.n l,.i m,.i k],[.l nl es,.l f L,.i a,.i ax,.i ay,.i bx,.i b',.l false ps,.i id,.n ps.length,.n ps.length,.i lv,.s s3,.s s4,.b st,.i c6,.i c7]))=shWa.put (lWa n l m k nl es f L a ax ay bx b' false ps id ps.length ps.length lv s3 s4 st c6 c7) from rfl,qWa];by_cases hi:k<=m
  ·obtain⟨j,hj⟩:∃ j,(m+1-k).toNat=j+1:=⟨(m+1-k).toNat-1,by omega⟩;have hj2:(m+1-(k+1)).toNat=j:=by omega
   have hroom:roomQ ps ps.length ps.length=true:=by show (true&&_&&_&&_)=true;simp;omega
   have hok:EG a 17=true:=by unfold EG;simp;omega
   have ha:=FG L a;rw[Ac hi,hok,show (!decide (W (m+1)=0))=true by rw[Dc (n:=m+1) (by omega) (by omega)];simp;omega];simp only[Bn,Am];unfold nWa;rw[hroom,Dc (n:=k+1) (by omega) (by omega)];simp only[Am];rw[hj] at hr';simp only[wyL] at hr';refine .inr ⟨lWa n l m (k+1) nl es (fI f L a) L (aI L a) ax ay bx b' (false&&false) (ps++[wyP ax ay bx b' m k (dI L a 17)]) id (ps.length+1) (ps.length+1) lv s3 s4 st c6 c7,?_,?_,by simp only[mWa];omega,?_⟩
   ·unfold wyP;cases ax==bx <;> cases ay==b' <;> rfl
   ·simp only[pWa,Aa,Ab,Aq,Ay,AC,Ak,BW];exact⟨⟨⟨⟨⟨⟨⟨⟨⟨trivial,trivial⟩,h2⟩,h3⟩,by omega⟩,by omega⟩,by omega⟩,by omega⟩,by omega⟩,trivial⟩
   ·rw[hr'];simp only[fWa,hj2,DT.run,Aq,Ay,AC,BH,List.cons_append,BA,f1_next,a1_next];rw[show ps.length+(0+1)+j=ps.length+(j+1) by omega]
  ·have hz:(m+1-k).toNat=0:=by omega
   rw[Al hi];exact .inl (by rw[hr',hz];simp only[wyL,BX,Bp,f1,a1];rfl)
 ·cases hp
noncomputable def MW3:CP:=MW2.C9 77 4 [0,4,6,7,11,12,13] [false,true,true,true,false,true] shWa pWa fWa
theorem okMW3:Ck Try.prog MW3.env:=
 okMW2.C9 (n:=60) Try.func77 (show Try.f77.body=some (DM Try.f77) by kernel_rfl) (show (loops (DM Try.f77)).filter (fun b=>Ee b==4)=[C4 Try.f77 4] by kernel_rfl) [0,4,6,7,11,12,13] [0,4,7,11] [false,true,true,true,false,true] shWa mWa sWa
abbrev clsL:List PV:=[.val (.string ⟨#[112,97,116,104]⟩),.val (.string ⟨#[114,111,97,100]⟩)]
abbrev namL:List PV:=[.val (.string ⟨#[]⟩),.val (.string ⟨#[]⟩),.val (.string ⟨#[82,105,110,103]⟩),.val (.string ⟨#[79,108,100,32,87,97,121]⟩)]
def wyM (L:List PV) (a:Int):Nat:=(dI L a 3+1-1).toNat
abbrev wyA (L:List PV) (a:Int):Int:=a1 L (aI L a) (wyM L a)
abbrev wyF (f:Bool) (L:List PV) (a:Int):Bool:=f1 (fI f L a) L (aI L a) (wyM L a)
abbrev wyPs (ax ay bx b':Int) (L:List PV) (a:Int):List PV:=[FD ax ay]++wyL ax ay bx b' (dI L a 3) L (wyM L a) 1 (aI L a)
abbrev wyVr (ps:List PV) (k:Nat) (i lv:Int) (L:List PV) (c:Int):PV:=
 .agg [iv (W (41+i)),.CR false 28 ((ps.drop 0).take k),iv lv,.val (.string ((clsL.getD (0+(dI L (a1 L c 0) 2).toNat) .any).cellAt 0).Ip),.val (.string ((namL.getD (0+(dI L (a1 L c 1) 4).toNat) .any).cellAt 0).Ip),
  bv (dI L (a1 L c 2) 4==0),iv (W (1+dI L (a1 L c 3) 60)),iv (W (1+W (dI L (a1 L c 4) 3*dI L (a1 L c 5) 2)))]
abbrev inDr (L:List PV) (c n:Int):Bool:=decide (0<=dI L c n)&&decide (dI L c n<n)
theorem qWyO (n l:Nat) (nl:Bool) (es:List PV) (ax ay bx b' lv:Int) (f:Bool) (L:List PV) (a:Int):JR Try.prog MW3 60 77 [.sl 0 n 0 l,FD ax ay,FD bx b',iv lv,.ptr 1 1 0 0] [wyR nl es,Hy f L a] =
 bif EG a 3 then bif pWa (lWa n l (dI L a 3) 1 nl es (fI f L a) L (aI L a) ax ay bx b' false [FD ax ay] (W (41+(l:Int))) 1 1 lv .empty .empty false 0 0) then
 bif roomQ (wyPs ax ay bx b' L a) (1+wyM L a) (1+wyM L a) then bif EG (a1 L (wyA L a) 0) 2 then bif inDr L (a1 L (wyA L a) 0) 2 then bif EG (a1 L (wyA L a) 1) 4 then bif inDr L (a1 L (wyA L a) 1) 4 then
 bif EG (a1 L (wyA L a) 2) 4 then bif EG (a1 L (wyA L a) 3) 60 then bif EG (a1 L (wyA L a) 4) 3 then bif EG (a1 L (wyA L a) 5) 2 then
 bif ((((wyPs ax ay bx b' L a++[FD bx b']).length==(1+wyM L a)+1)&&true)&&true)&&true then
 bif true&&decide (es.length=n)&&decide (n=l)&&decide ((n+1)*96<=140737488355328) then
  some (.sl 0 (n+1) 0 (n+1),[wyR (nl&&false) (es++[wyVr (wyPs ax ay bx b' L a++[FD bx b']) ((1+wyM L a)+1) (l:Int) lv L (wyA L a)]),Hy (f1 (wyF f L a) L (wyA L a) 6) L (a1 L (wyA L a) 6)])
 else none else none else none else none else none else none else none else none else none else none else none else none else none:=by kernel_rfl
theorem wyM_le (L:List PV) (a:Int):wyM L a<=2:=by
 have:=HV L a (n:=3) (by omega);unfold wyM;omega
theorem wyPs_len (ax ay bx b':Int) (L:List PV) (a:Int):(wyPs ax ay bx b' L a).length=1+wyM L a:=by
 rw[Aq,wyL_len];rfl
def wyE (ax ay bx b' lv:Int) (i:Nat) (L:List PV) (a:Int):PV:=
 .agg [iv (41+(i:Int)),.CR false 28 (wyPs ax ay bx b' L a++[FD bx b']),iv lv,.val (.string ((clsL.getD (0+(dI L (a1 L (wyA L a) 0) 2).toNat) .any).cellAt 0).Ip),.val (.string ((namL.getD (0+(dI L (a1 L (wyA L a) 1) 4).toNat) .any).cellAt 0).Ip),
  bv (dI L (a1 L (wyA L a) 2) 4==0),iv (W (1+dI L (a1 L (wyA L a) 3) 60)),iv (W (1+W (dI L (a1 L (wyA L a) 4) 3*dI L (a1 L (wyA L a) 5) 2)))]
def wyS (ax ay bx b' lv:Int) (L:List PV) (s:Ey):Ey:=
 (s.1++[wyE ax ay bx b' lv s.1.length L s.2.2.1],f1 (wyF s.2.1 L s.2.2.1) L (wyA L s.2.2.1) 6,a1 L (wyA L s.2.2.1) 6,false)
theorem wyS_a (ax ay bx b' lv:Int) (L:List PV) (s:Ey):s.2.2.1<=(wyS ax ay bx b' lv L s).2.2.1/\(wyS ax ay bx b' lv L s).2.2.1<=s.2.2.1+9:=by
 have h1:=FG L s.2.2.1;have h2:=GQ L (aI L s.2.2.1) (wyM L s.2.2.1);have h3:=GQ L (wyA L s.2.2.1) 6;have h4:=wyM_le L s.2.2.1;show _<=a1 L (wyA L s.2.2.1) 6/\a1 L (wyA L s.2.2.1) 6<=_
 change _<=wyA L s.2.2.1/\wyA L s.2.2.1<=_ at h2
 omega
def okWy (n l:Nat) (es:List PV) (a:Int):Bool:=decide (n=es.length)&&decide (l=es.length)&&decide (es.length<=1000)&&decide (0<=a)&&decide (a<=1000000)
theorem qWyN {n l:Nat} {nl:Bool} {es:List PV} (ax ay bx b' lv:Int) {f:Bool} {L:List PV} {a:Int} (h:okWy n l es a=true):JR Try.prog MW3 60 77 [.sl 0 n 0 l,FD ax ay,FD bx b',iv lv,.ptr 1 1 0 0] [wyR nl es,Hy f L a] =
  some (.sl 0 (es.length+1) 0 (es.length+1),[wyR false (wyS ax ay bx b' lv L (es,f,a,nl)).1,Hy (wyS ax ay bx b' lv L (es,f,a,nl)).2.1 L (wyS ax ay bx b' lv L (es,f,a,nl)).2.2.1]):=by
 unfold okWy at h;simp only[Aa,Ab] at h;obtain⟨⟨⟨⟨rfl,rfl⟩,h1⟩,h2⟩,h3⟩:=h;have i1:=FG L a;have i2:=GQ L (aI L a) (wyM L a);have i3:=wyM_le L a;have d1:=Il L a (n:=3) (by omega);have d2:=HV L a (n:=3) (by omega);change _<=wyA L a/\wyA L a<=_ at i2
 have ok:∀ (k:Nat) (n:Int),k<=6->0<n->n<=100->EG (a1 L (wyA L a) k) n=true:=fun k n hk hn hn2=>by
  have:=GQ L (wyA L a) k;unfold EG;simp;omega
 have ind:∀ (k:Nat) (n:Int),0<n->inDr L (a1 L (wyA L a) k) n=true:=fun k n hn=>by
  rw[Aa];exact⟨Ac (Il _ _ hn),Ac (HV _ _ hn)⟩
 have p1:pWa (lWa es.length es.length (dI L a 3) 1 nl es (fI f L a) L (aI L a) ax ay bx b' false [FD ax ay] (W (41+(es.length:Int))) 1 1 lv .empty .empty false 0 0)=true:=by
  simp only[pWa,Aa,Ab,Ay,AC,Ak];exact⟨⟨⟨⟨⟨⟨⟨⟨⟨trivial,trivial⟩,by omega⟩,by omega⟩,by omega⟩,by omega⟩,by omega⟩,by omega⟩,by omega⟩,trivial⟩
 have p2:roomQ (wyPs ax ay bx b' L a) (1+wyM L a) (1+wyM L a)=true:=by
  show (true&&_&&_&&_)=true
  rw[wyPs_len];simp;omega
 have p3:(((((wyPs ax ay bx b' L a++[FD bx b']).length==(1+wyM L a)+1)&&true)&&true)&&true)=true:=by
  rw[Aq,wyPs_len];simp
 rw[qWyO,show EG a 3=true by unfold EG;simp;omega,p1,p2,ok 0 2 (by omega) (by omega) (by omega),ind 0 2 (by omega),ok 1 4 (by omega) (by omega) (by omega),ind 1 4 (by omega),ok 2 4 (by omega) (by omega) (by omega),ok 3 60 (by omega) (by omega) (by omega),ok 4 3 (by omega) (by omega) (by omega),ok 5 2 (by omega) (by omega) (by omega),p3,
  show (true&&decide (es.length=es.length)&&decide (es.length=es.length)&&decide ((es.length+1)*96<=140737488355328))=true by simp;omega]
 simp only[Am];have e1:(((wyPs ax ay bx b' L a++[FD bx b']).drop 0).take ((1+wyM L a)+1))=wyPs ax ay bx b' L a++[FD bx b']:=by
  rw[AJ,Bf (by rw[Aq,wyPs_len];simp)]
 have e2:wyVr (wyPs ax ay bx b' L a++[FD bx b']) ((1+wyM L a)+1) (es.length:Int) lv L (wyA L a)=wyE ax ay bx b' lv es.length L a:=by
  unfold wyVr wyE;rw[e1,Dc (n:=41+(es.length:Int)) (by omega) (by omega)]
 rw[e2,BW];rfl
def cWay':List PV->List Row->Option (DT (PV × List Row))
 | [.sl 0 n 0 l,.agg [.val (.int .i64 ax),.val (.int .i64 ay)],.agg [.val (.int .i64 bx),.val (.int .i64 b')],.val (.int .i64 lv),.ptr 1 1 0 0],[⟨es,8,49,true,true,nl,none,false⟩,⟨[.agg [.CR f 3 L,.val (.int .i64 a)]],2,103,true,true,false,none,false⟩] =>
  some (.br (okWy n l es a) (.leaf (.sl 0 (es.length+1) 0 (es.length+1),[wyR false (wyS ax ay bx b' lv L (es,f,a,nl)).1,Hy (wyS ax ay bx b' lv L (es,f,a,nl)).2.1 L (wyS ax ay bx b' lv L (es,f,a,nl)).2.2.1])) .no)
 | _,_=>none
theorem eWay':Hx.CV Try.prog 77:=(Dn okMW3 (qWyN (n:=0) (l:=0) (nl:=false) (es:=[]) 0 0 0 0 0 (f:=false) (L:=[]) (a:=0) (by rfl))).1
theorem oWay' (args:List PV) (H:List Row) (d:DT (PV × List Row)) (q:PV) (H':List Row) (h:cWay' args H=some d) (hd:d.run=some (q,H')):ER Try.prog 0 77 args H q H':=by
 unfold cWay' at h;split at h
 ·rename_i n l ax ay bx b' lv es nl f L a;cases h;obtain⟨hc,he⟩:=FI hd;cases he;exact (Dn okMW3 (qWyN ax ay bx b' lv hc)).2
 ·cases h
def cStp':List PV->Option PV | [.val (.int .i64 i),.val (.int .i64 j)]=>some (FD (W (55+W (80*i))) (W (65+W (70*j)))) | _=>none
theorem oStp' (args:List PV) (r:PV) (h:cStp' args=some r):Hx.CV Try.prog 78/\Da Try.prog 78 args r:=by
 unfold cStp' at h;split at h
 ·rename_i i j;cases h;exact CL H7 (n:=60) (by kernel_rfl)
 ·cases h
noncomputable def MV1:CP:=(((((M7.EO 77 cWay').EE 78 cStp').GY 56 4 [(4,49,8)])))
theorem okMV1:Ck Try.prog MV1.env:=(((((H7.EO eWay' oWay').EE oStp').GY 56 4 [(4,49,8)])))
abbrev Ho (i:Int):Int:=W (55+W (80*i))
abbrev Hp (j:Int):Int:=W (65+W (70*j))
abbrev drS (L:List PV) (s:Ey):Ey:=(s.1,fI s.2.1 L s.2.2.1,aI L s.2.2.1,s.2.2.2)
def opS (L:List PV) (x0 y0 x1 y1:Int) (s:Ey):Ey:=bif dI L s.2.2.1 2==0 then wyS x0 y0 x1 y1 0 L (drS L s) else drS L s
theorem opS_bd (L:List PV) (x0 y0 x1 y1:Int) (s:Ey):s.1.length<=(opS L x0 y0 x1 y1 s).1.length/\(opS L x0 y0 x1 y1 s).1.length<=s.1.length+1/\s.2.2.1<=(opS L x0 y0 x1 y1 s).2.2.1/\(opS L x0 y0 x1 y1 s).2.2.1<=s.2.2.1+10:=by
 have h1:=FG L s.2.2.1;have h2:=wyS_a x0 y0 x1 y1 0 L (drS L s);have h3:(wyS x0 y0 x1 y1 0 L (drS L s)).1.length=s.1.length+1:=by
  show (s.1++[_]).length=_;simp
 change aI L s.2.2.1<=_/\_<=aI L s.2.2.1+9 at h2
 unfold opS;cases dI L s.2.2.1 2==0
 ·exact⟨Aj _,Nat.le_succ _,h1.1,by show aI L s.2.2.1<=_;omega⟩
 ·simp only[Am];omega
def shV7:S1:=⟨71,[(3,.ptr 0 1 0 0),(4,.sl 1),(5,C5),(6,C5)],[.one 103 2 (.agg [.CR 3,C5]),.many 49 8]⟩
abbrev lV7 (L:List PV) (n l:Nat) (j i:Int) (s:Ey):LS:=([.n n,.n l,.i j,.i i],[.l s.2.1 L,.i s.2.2.1,.l s.2.2.2 s.1])
abbrev rwV (L:List PV) (s:Ey):List Row:=[Hy s.2.1 L s.2.2.1,wyR s.2.2.2 s.1]
noncomputable abbrev xV7 (L:List PV) (n l:Nat) (j:Int) (s:Ey):PX × List PV × List Row:=(.exit 2,tm 71 [(3,.ptr 0 1 0 0),(4,.sl 1 n 0 l),(5,iv j)],rwV L s)
theorem qV7 (L:List PV) (n l:Nat) (j i:Int) (es:List PV) (f:Bool) (a:Int) (nl:Bool):CT Try.prog MV1 60 56 (C4 Try.f56 7) [3,4,5,6] [3,4,5] (shV7.put (lV7 L n l j i (es,f,a,nl))).1 (shV7.put (lV7 L n l j i (es,f,a,nl))).2 =
 bif decide (i<3) then bif EG a 2 then bif dI L a 2==0 then bif es.length==n then bif okWy n l es (aI L a) then
   some (.normal,shV7.put (lV7 L (es.length+1) (es.length+1) j (W (i+1)) (wyS (Ho i) (Hp j) (Ho (W (i+1))) (Hp j) 0 L (drS L (es,f,a,nl))))) else none else none
  else some (.normal,shV7.put (lV7 L n l j (W (i+1)) (drS L (es,f,a,nl)))) else none
 else some (xV7 L n l j (es,f,a,nl)):=by kernel_rfl
def hwN (L:List PV) (j:Int):Nat->Int->Ey->Ey
 | 0,_,s=>s
 | m+1,i,s=>hwN L j m (i+1) (opS L (Ho i) (Hp j) (Ho (i+1)) (Hp j) s)
theorem hwN_bd (L:List PV) (j:Int):∀ (m:Nat) (i:Int) (s:Ey),s.1.length<=(hwN L j m i s).1.length/\(hwN L j m i s).1.length<=s.1.length+m/\s.2.2.1<=(hwN L j m i s).2.2.1/\(hwN L j m i s).2.2.1<=s.2.2.1+10*m
 | 0,_,s=>by simp[hwN]
 | m+1,i,s=>by
  obtain⟨a1,a2,a3,a4⟩:=opS_bd L (Ho i) (Hp j) (Ho (i+1)) (Hp j) s;obtain⟨b1,b2,b3,b4⟩:=hwN_bd L j m (i+1) (opS L (Ho i) (Hp j) (Ho (i+1)) (Hp j) s);simp only[hwN];refine⟨by omega,by omega,by omega,?_⟩;have:((m+1:Nat):Int)=(m:Int)+1:=by simp
  omega
def pV7:LS->Bool
 | ([.n n,.n l,.i j,.i i],[.l _ _,.i a,.l _ es])=>decide (n=es.length)&&decide (l=es.length)&&decide (0<=i)&&decide (i<=3)&&decide (0<=j)&&decide (j<=2)&&decide ((es.length:Int)<=3*j+i)&&decide (0<=a)&&decide (a<=30*j+10*i)
 | _=>false
noncomputable def fV7:LS->DT (PX × List PV × List Row)
 | ([.n _,.n _,.i j,.i i],[.l f L,.i a,.l nl es])=>.leaf (xV7 L (hwN L j (3-i).toNat i (es,f,a,nl)).1.length (hwN L j (3-i).toNat i (es,f,a,nl)).1.length j (hwN L j (3-i).toNat i (es,f,a,nl)))
 | _=>.no
def mV7:LS->Nat
 | ([.n _,.n _,.i _,.i i],_)=>(3-i).toNat
 | _=>0
theorem okWy_of {es:List PV} {a:Int} (h:es.length<=1000) (h0:0<=a) (h1:a<=1000000):okWy es.length es.length es a=true:=by
 unfold okWy;simp only[Aa,Ab];exact⟨⟨⟨⟨trivial,trivial⟩,h⟩,h0⟩,h1⟩
theorem nxV7 {L:List PV} {j i:Int} {es:List PV} {f:Bool} {a:Int} {nl:Bool} (h:i<3) (h0:0<=i) (he:es.length<=100) (ha:0<=a) (ha2:a<=10000):CT Try.prog MV1 60 56 (C4 Try.f56 7) [3,4,5,6] [3,4,5] (shV7.put (lV7 L es.length es.length j i (es,f,a,nl))).1 (shV7.put (lV7 L es.length es.length j i (es,f,a,nl))).2 =
  some (.normal,shV7.put (lV7 L (opS L (Ho i) (Hp j) (Ho (i+1)) (Hp j) (es,f,a,nl)).1.length (opS L (Ho i) (Hp j) (Ho (i+1)) (Hp j) (es,f,a,nl)).1.length j (i+1) (opS L (Ho i) (Hp j) (Ho (i+1)) (Hp j) (es,f,a,nl)))):=by
 have hb:=FG L a;rw[qV7,Ac h,show EG a 2=true by unfold EG;simp;omega,okWy_of (by omega) (by omega) (by omega),AQ,Dc (n:=i+1) (by omega) (by omega)];simp only[Am];unfold opS;cases hd:dI L a 2==0
 ·simp only[Av]
 ·simp only[Am];have hl:(wyS (Ho i) (Hp j) (Ho (i+1)) (Hp j) 0 L (drS L (es,f,a,nl))).1.length=es.length+1:=by
   show (es++[_]).length=_;simp
  rw[hl]
theorem sV7:∀ s r,pV7 s=true->(fV7 s).run=some r->r.1 ≠ .normal/\(CT Try.prog MV1 60 56 (C4 Try.f56 7) [3,4,5,6] [3,4,5] (shV7.put s).1 (shV7.put s).2=some r \/
   ∃ s',CT Try.prog MV1 60 56 (C4 Try.f56 7) [3,4,5,6] [3,4,5] (shV7.put s).1 (shV7.put s).2=some (.normal,shV7.put s')/\pV7 s'=true/\mV7 s'<mV7 s/\(fV7 s').run=some r):=by
 intro t r hp hr;unfold pV7 at hp;split at hp
 ·rename_i n l j i f L a nl es;simp only[Aa,Ab] at hp;obtain⟨⟨⟨⟨⟨⟨⟨⟨rfl,rfl⟩,h1⟩,h2⟩,h3⟩,h4⟩,h5⟩,h6⟩,h7⟩:=hp;have hr':=(Ah hr).symm;refine⟨by rw[hr'];simp,?_⟩;rw[show shV7.put ([.n es.length,.n es.length,.i j,.i i],[.l f L,.i a,.l nl es])=shV7.put (lV7 L es.length es.length j i (es,f,a,nl)) from rfl];by_cases hi:i<3
  ·obtain⟨k,hk⟩:∃ k,(3-i).toNat=k+1:=⟨(3-i).toNat-1,by omega⟩;have hk2:(3-(i+1)).toNat=k:=by omega
   obtain⟨b1,b2,b3,b4⟩:=opS_bd L (Ho i) (Hp j) (Ho (i+1)) (Hp j) (es,f,a,nl);simp only at b1 b2 b3 b4;refine .inr ⟨_,nxV7 hi h1 (by omega) h6 (by omega),?_,by simp only[mV7];omega,?_⟩
   ·simp only[pV7,Aa,Ab];exact⟨⟨⟨⟨⟨⟨⟨⟨trivial,trivial⟩,by omega⟩,by omega⟩,h3⟩,h4⟩,by omega⟩,by omega⟩,by omega⟩
   ·rw[hr',hk];simp only[fV7,hk2,DT.run,hwN]
  ·have hz:(3-i).toNat=0:=by omega
   rw[qV7,Al hi];exact .inl (by rw[hr',hz];rfl)
 ·cases hp
noncomputable def MV2:CP:=MV1.C9 56 7 [3,4,5,6] [true,false] shV7 pV7 fV7
theorem okMV2:Ck Try.prog MV2.env:=
 okMV1.C9 (n:=60) Try.func56 (show Try.f56.body=some (DM Try.f56) by kernel_rfl) (show (loops (DM Try.f56)).filter (fun b=>Ee b==7)=[C4 Try.f56 7] by kernel_rfl) [3,4,5,6] [3,4,5] [true,false] shV7 mV7 sV7
def shV4:S1:=⟨71,[(3,.ptr 0 1 0 0),(4,.sl 1),(5,C5)],[.one 103 2 (.agg [.CR 3,C5]),.many 49 8]⟩
abbrev lV4 (L:List PV) (n l:Nat) (j:Int) (s:Ey):LS:=([.n n,.n l,.i j],[.l s.2.1 L,.i s.2.2.1,.l s.2.2.2 s.1])
noncomputable abbrev xV4 (L:List PV) (n l:Nat) (s:Ey):PX × List PV × List Row:=(.exit 0,tm 71 [(3,.ptr 0 1 0 0),(4,.sl 1 n 0 l)],rwV L s)
abbrev hw3 (L:List PV) (j:Int) (s:Ey):Ey:=hwN L j (3-0:Int).toNat 0 s
theorem qV4 (L:List PV) (n l:Nat) (j:Int) (es:List PV) (f:Bool) (a:Int) (nl:Bool):CT Try.prog MV2 60 56 (C4 Try.f56 4) [3,4,5] [3,4] (shV4.put (lV4 L n l j (es,f,a,nl))).1 (shV4.put (lV4 L n l j (es,f,a,nl))).2 =
 bif decide (j<2) then bif pV7 (lV7 L n l j 0 (es,f,a,nl)) then some (.normal,shV4.put (lV4 L (hw3 L j (es,f,a,nl)).1.length (hw3 L j (es,f,a,nl)).1.length (W (j+1)) (hw3 L j (es,f,a,nl)))) else none
 else some (xV4 L n l (es,f,a,nl)):=by kernel_rfl
def haN (L:List PV):Nat->Int->Ey->Ey
 | 0,_,s=>s
 | m+1,j,s=>haN L m (j+1) (hw3 L j s)
theorem haN_bd (L:List PV):∀ (m:Nat) (j:Int) (s:Ey),s.1.length<=(haN L m j s).1.length/\(haN L m j s).1.length<=s.1.length+3*m/\s.2.2.1<=(haN L m j s).2.2.1/\(haN L m j s).2.2.1<=s.2.2.1+30*m
 | 0,_,s=>by simp[haN]
 | m+1,j,s=>by
  obtain⟨a1,a2,a3,a4⟩:=hwN_bd L j (3-0:Int).toNat 0 s;obtain⟨b1,b2,b3,b4⟩:=haN_bd L m (j+1) (hw3 L j s);have e3:((3-0:Int)).toNat=3:=rfl;rw[e3] at a1 a2 a3 a4;simp only[haN];change _<=(hw3 L j s).1.length at a1
  change (hw3 L j s).1.length<=_ at a2
  change _<=(hw3 L j s).2.2.1 at a3
  change (hw3 L j s).2.2.1<=_ at a4
  refine⟨by omega,by omega,by omega,?_⟩;have:((m+1:Nat):Int)=(m:Int)+1:=by simp
  omega
def pV4:LS->Bool
 | ([.n n,.n l,.i j],[.l _ _,.i a,.l _ es])=>decide (n=es.length)&&decide (l=es.length)&&decide (0<=j)&&decide (j<=2)&&decide ((es.length:Int)<=3*j)&&decide (0<=a)&&decide (a<=30*j)
 | _=>false
noncomputable def fV4:LS->DT (PX × List PV × List Row)
 | ([.n _,.n _,.i j],[.l f L,.i a,.l nl es])=>.leaf (xV4 L (haN L (2-j).toNat j (es,f,a,nl)).1.length (haN L (2-j).toNat j (es,f,a,nl)).1.length (haN L (2-j).toNat j (es,f,a,nl)))
 | _=>.no
def mV4:LS->Nat
 | ([.n _,.n _,.i j],_)=>(2-j).toNat
 | _=>0
theorem sV4:∀ s r,pV4 s=true->(fV4 s).run=some r->r.1 ≠ .normal/\(CT Try.prog MV2 60 56 (C4 Try.f56 4) [3,4,5] [3,4] (shV4.put s).1 (shV4.put s).2=some r \/
   ∃ s',CT Try.prog MV2 60 56 (C4 Try.f56 4) [3,4,5] [3,4] (shV4.put s).1 (shV4.put s).2=some (.normal,shV4.put s')/\pV4 s'=true/\mV4 s'<mV4 s/\(fV4 s').run=some r):=by
 intro t r hp hr;unfold pV4 at hp;split at hp
 ·rename_i n l j f L a nl es;simp only[Aa,Ab] at hp;obtain⟨⟨⟨⟨⟨⟨rfl,rfl⟩,h1⟩,h2⟩,h3⟩,h4⟩,h5⟩:=hp;have hr':=(Ah hr).symm;refine⟨by rw[hr'];simp,?_⟩;rw[show shV4.put ([.n es.length,.n es.length,.i j],[.l f L,.i a,.l nl es])=shV4.put (lV4 L es.length es.length j (es,f,a,nl)) from rfl,qV4];by_cases hi:j<2
  ·obtain⟨k,hk⟩:∃ k,(2-j).toNat=k+1:=⟨(2-j).toNat-1,by omega⟩;have hk2:(2-(j+1)).toNat=k:=by omega
   obtain⟨b1,b2,b3,b4⟩:=hwN_bd L j (3-0:Int).toNat 0 (es,f,a,nl);have e3:((3-0:Int)).toNat=3:=rfl;rw[e3] at b1 b2 b3 b4;simp only at b1 b2 b3 b4;change _<=(hw3 L j (es,f,a,nl)).1.length at b1
   change (hw3 L j (es,f,a,nl)).1.length<=_ at b2
   change _<=(hw3 L j (es,f,a,nl)).2.2.1 at b3
   change (hw3 L j (es,f,a,nl)).2.2.1<=_ at b4
   have p7:pV7 (lV7 L es.length es.length j 0 (es,f,a,nl))=true:=by
    simp only[pV7,Aa,Ab,CM];omega
   rw[Ac hi,p7,Dc (n:=j+1) (by omega) (by omega)];refine .inr ⟨_,rfl,?_,by simp only[mV4];omega,?_⟩
   ·simp only[pV4,Aa,Ab];exact⟨⟨⟨⟨⟨⟨trivial,trivial⟩,by omega⟩,by omega⟩,by omega⟩,by omega⟩,by omega⟩
   ·rw[hr',hk];simp only[fV4,hk2,DT.run,haN]
  ·have hz:(2-j).toNat=0:=by omega
   rw[Al hi];exact .inl (by rw[hr',hz];rfl)
 ·cases hp
noncomputable def MV3:CP:=MV2.C9 56 4 [3,4,5] [true,false] shV4 pV4 fV4
theorem okMV3:Ck Try.prog MV3.env:=
 okMV2.C9 (n:=60) Try.func56 (show Try.f56.body=some (DM Try.f56) by kernel_rfl) (show (loops (DM Try.f56)).filter (fun b=>Ee b==4)=[C4 Try.f56 4] by kernel_rfl) [3,4,5] [3,4] [true,false] shV4 mV4 sV4
def G8:S1:=⟨71,[(3,.ptr 0 1 0 0),(4,.sl 1),(7,C5)],[.one 103 2 (.agg [.CR 3,C5]),.many 49 8]⟩
abbrev lV12 (L:List PV) (n l:Nat) (i:Int) (s:Ey):LS:=([.n n,.n l,.i i],[.l s.2.1 L,.i s.2.2.1,.l s.2.2.2 s.1])
noncomputable abbrev xV12 (L:List PV) (n l:Nat) (s:Ey):PX × List PV × List Row:=(.exit 4,tm 71 [(3,.ptr 0 1 0 0),(4,.sl 1 n 0 l)],rwV L s)
theorem qV12 (L:List PV) (n l:Nat) (i:Int) (es:List PV) (f:Bool) (a:Int) (nl:Bool):CT Try.prog MV3 60 56 (C4 Try.f56 12) [3,4,7] [3,4] (G8.put (lV12 L n l i (es,f,a,nl))).1 (G8.put (lV12 L n l i (es,f,a,nl))).2 =
 bif decide (i<4) then bif decide ((l:Int)<5) then bif EG a 2 then bif dI L a 2==0 then bif es.length==n then bif okWy n l es (aI L a) then
   some (.normal,G8.put (lV12 L (es.length+1) (es.length+1) (W (i+1)) (wyS (Ho i) (Hp 0) (Ho i) (Hp 1) 0 L (drS L (es,f,a,nl))))) else none else none
  else some (.normal,G8.put (lV12 L n l (W (i+1)) (drS L (es,f,a,nl)))) else none
 else some (xV12 L n l (es,f,a,nl)) else some (xV12 L n l (es,f,a,nl)):=by kernel_rfl
def vwN (L:List PV):Nat->Int->Ey->Ey
 | 0,_,s=>s
 | m+1,i,s=>bif decide ((s.1.length:Int)<5) then vwN L m (i+1) (opS L (Ho i) (Hp 0) (Ho i) (Hp 1) s) else s
theorem vwN_bd (L:List PV):∀ (m:Nat) (i:Int) (s:Ey),s.1.length<=(vwN L m i s).1.length/\(vwN L m i s).1.length<=s.1.length+m/\s.2.2.1<=(vwN L m i s).2.2.1/\(vwN L m i s).2.2.1<=s.2.2.1+10*m
 | 0,_,s=>by simp[vwN]
 | m+1,i,s=>by
  obtain⟨a1,a2,a3,a4⟩:=opS_bd L (Ho i) (Hp 0) (Ho i) (Hp 1) s;obtain⟨b1,b2,b3,b4⟩:=vwN_bd L m (i+1) (opS L (Ho i) (Hp 0) (Ho i) (Hp 1) s);have:((m+1:Nat):Int)=(m:Int)+1:=by simp
  simp only[vwN];cases decide ((s.1.length:Int)<5)
  ·simp only[Av];exact⟨Aj _,by omega,BP _,by omega⟩
  ·simp only[Am];exact⟨by omega,by omega,by omega,by omega⟩
def pV12:LS->Bool
 | ([.n n,.n l,.i i],[.l _ _,.i a,.l _ es])=>decide (n=es.length)&&decide (l=es.length)&&decide (0<=i)&&decide (i<=4)&&decide ((es.length:Int)<=6+i)&&decide (0<=a)&&decide (a<=60+10*i)
 | _=>false
noncomputable def fV12:LS->DT (PX × List PV × List Row)
 | ([.n _,.n _,.i i],[.l f L,.i a,.l nl es])=>.leaf (xV12 L (vwN L (4-i).toNat i (es,f,a,nl)).1.length (vwN L (4-i).toNat i (es,f,a,nl)).1.length (vwN L (4-i).toNat i (es,f,a,nl)))
 | _=>.no
def mV12:LS->Nat
 | ([.n _,.n _,.i i],_)=>(4-i).toNat
 | _=>0
theorem nxV12 {L:List PV} {i:Int} {es:List PV} {f:Bool} {a:Int} {nl:Bool} (h:i<4) (h0:0<=i) (he:(es.length:Int)<5) (ha:0<=a) (ha2:a<=10000):CT Try.prog MV3 60 56 (C4 Try.f56 12) [3,4,7] [3,4] (G8.put (lV12 L es.length es.length i (es,f,a,nl))).1 (G8.put (lV12 L es.length es.length i (es,f,a,nl))).2 =
  some (.normal,G8.put (lV12 L (opS L (Ho i) (Hp 0) (Ho i) (Hp 1) (es,f,a,nl)).1.length (opS L (Ho i) (Hp 0) (Ho i) (Hp 1) (es,f,a,nl)).1.length (i+1) (opS L (Ho i) (Hp 0) (Ho i) (Hp 1) (es,f,a,nl)))):=by
 have hb:=FG L a;rw[qV12,Ac h,Ac he,show EG a 2=true by unfold EG;simp;omega,okWy_of (by omega) (by omega) (by omega),AQ,Dc (n:=i+1) (by omega) (by omega)];simp only[Am];unfold opS;cases hd:dI L a 2==0
 ·simp only[Av]
 ·simp only[Am];have hl:(wyS (Ho i) (Hp 0) (Ho i) (Hp 1) 0 L (drS L (es,f,a,nl))).1.length=es.length+1:=by
   show (es++[_]).length=_;simp
  rw[hl]
theorem sV12:∀ s r,pV12 s=true->(fV12 s).run=some r->r.1 ≠ .normal/\(CT Try.prog MV3 60 56 (C4 Try.f56 12) [3,4,7] [3,4] (G8.put s).1 (G8.put s).2=some r \/
   ∃ s',CT Try.prog MV3 60 56 (C4 Try.f56 12) [3,4,7] [3,4] (G8.put s).1 (G8.put s).2=some (.normal,G8.put s')/\pV12 s'=true/\mV12 s'<mV12 s/\(fV12 s').run=some r):=by
 intro t r hp hr;unfold pV12 at hp;split at hp
 ·rename_i n l i f L a nl es;simp only[Aa,Ab] at hp;obtain⟨⟨⟨⟨⟨⟨rfl,rfl⟩,h1⟩,h2⟩,h5⟩,h6⟩,h7⟩:=hp;have hr':=(Ah hr).symm;refine⟨by rw[hr'];simp,?_⟩;rw[show G8.put ([.n es.length,.n es.length,.i i],[.l f L,.i a,.l nl es])=G8.put (lV12 L es.length es.length i (es,f,a,nl)) from rfl];by_cases hi:i<4
  ·obtain⟨k,hk⟩:∃ k,(4-i).toNat=k+1:=⟨(4-i).toNat-1,by omega⟩;have hk2:(4-(i+1)).toNat=k:=by omega
   by_cases hl:(es.length:Int)<5
   ·obtain⟨b1,b2,b3,b4⟩:=opS_bd L (Ho i) (Hp 0) (Ho i) (Hp 1) (es,f,a,nl);simp only at b1 b2 b3 b4;refine .inr ⟨_,nxV12 hi h1 hl h6 (by omega),?_,by simp only[mV12];omega,?_⟩
    ·simp only[pV12,Aa,Ab];exact⟨⟨⟨⟨⟨⟨trivial,trivial⟩,by omega⟩,by omega⟩,by omega⟩,by omega⟩,by omega⟩
    ·rw[hr',hk];simp only[fV12,hk2,DT.run,vwN];rw[Ac hl];rfl
   ·rw[qV12,Ac hi,Al hl];refine .inl ?_;rw[hr',hk];simp only[vwN];rw[Al hl];rfl
  ·have hz:(4-i).toNat=0:=by omega
   rw[qV12,Al hi];exact .inl (by rw[hr',hz];rfl)
 ·cases hp
noncomputable def MV4:CP:=MV3.C9 56 12 [3,4,7] [true,false] G8 pV12 fV12
theorem okMV4:Ck Try.prog MV4.env:=
 okMV3.C9 (n:=60) Try.func56 (show Try.f56.body=some (DM Try.f56) by kernel_rfl) (show (loops (DM Try.f56)).filter (fun b=>Ee b==12)=[C4 Try.f56 12] by kernel_rfl) [3,4,7] [3,4] [true,false] G8 mV12 sV12
noncomputable def wyK (s:Ey) (n:Nat):Option PV:=JW s.1 n (some (.CR false 49 ((s.1.drop 0).take n)))
noncomputable def w2 (L:List PV) (s:Ey) (n:Nat):Option PV:=
 bif EG s.2.2.1 4 then bif dI L s.2.2.1 4==0 then bif s.1.length==n then bif okWy n n s.1 (aI L s.2.2.1) then
  wyK (wyS (Ho 1) (Hp 1) (Ho 3) (Hp 0) (-1) L (drS L s)) (s.1.length+1) else none else none else wyK (drS L s) n else none
noncomputable def w1 (L:List PV) (s:Ey) (n:Nat):Option PV:=
 bif EG s.2.2.1 3 then bif dI L s.2.2.1 3==0 then bif EG (aI L s.2.2.1) 2 then bif s.1.length==n then bif okWy n n s.1 (aI L (aI L s.2.2.1)) then
  w2 L (wyS (Ho 0) (Hp 0) (Ho (W (2+dI L (aI L s.2.2.1) 2))) (Hp 1) 1 L (drS L (drS L s))) (s.1.length+1) else none else none else none else w2 L (drS L s) n else none
abbrev ww4 (L:List PV) (f:Bool):Ey:=haN L (2-0:Int).toNat 0 ([],f,0,true)
abbrev ww12 (L:List PV) (f:Bool):Ey:=vwN L (4-0:Int).toNat 0 (ww4 L f)
theorem qWays (f:Bool) (L:List PV):Dx Try.prog MV4 60 56 [.CR f 3 L] =
 bif pV4 (lV4 L 0 0 0 ([],f,0,true)) then bif pV12 (lV12 L (ww4 L f).1.length (ww4 L f).1.length 0 (ww4 L f)) then w1 L (ww12 L f) (ww12 L f).1.length else none else none:=by kernel_rfl
def wv1 (L:List PV) (s:Ey):Ey:=bif dI L s.2.2.1 3==0 then wyS (Ho 0) (Hp 0) (Ho (W (2+dI L (aI L s.2.2.1) 2))) (Hp 1) 1 L (drS L (drS L s)) else drS L s
def wv2 (L:List PV) (s:Ey):Ey:=bif dI L s.2.2.1 4==0 then wyS (Ho 1) (Hp 1) (Ho 3) (Hp 0) (-1) L (drS L s) else drS L s
def wayL (f:Bool) (L:List PV):List PV:=(wv2 L (wv1 L (ww12 L f))).1
theorem wyS_len (ax ay bx b' lv:Int) (L:List PV) (s:Ey):(wyS ax ay bx b' lv L s).1.length=s.1.length+1:=by
 show (s.1++[_]).length=_;simp
theorem wv1_bd (L:List PV) (s:Ey):s.1.length<=(wv1 L s).1.length/\(wv1 L s).1.length<=s.1.length+1/\s.2.2.1<=(wv1 L s).2.2.1/\(wv1 L s).2.2.1<=s.2.2.1+11:=by
 have h1:=FG L s.2.2.1;have h2:=FG L (aI L s.2.2.1);have h3:=wyS_a (Ho 0) (Hp 0) (Ho (W (2+dI L (aI L s.2.2.1) 2))) (Hp 1) 1 L (drS L (drS L s));have h4:=wyS_len (Ho 0) (Hp 0) (Ho (W (2+dI L (aI L s.2.2.1) 2))) (Hp 1) 1 L (drS L (drS L s));change aI L (aI L s.2.2.1)<=_/\_<=aI L (aI L s.2.2.1)+9 at h3
 change _=s.1.length+1 at h4
 unfold wv1;cases dI L s.2.2.1 3==0
 ·exact⟨Aj _,Nat.le_succ _,h1.1,by show aI L s.2.2.1<=_;omega⟩
 ·simp only[Am];omega
theorem ww_bd (L:List PV) (f:Bool):(ww4 L f).1.length<=6/\0<=(ww4 L f).2.2.1/\(ww4 L f).2.2.1<=60/\(ww12 L f).1.length<=10/\0<=(ww12 L f).2.2.1/\(ww12 L f).2.2.1<=100:=by
 obtain⟨a1,a2,a3,a4⟩:=haN_bd L (2-0:Int).toNat 0 ([],f,0,true);obtain⟨b1,b2,b3,b4⟩:=vwN_bd L (4-0:Int).toNat 0 (ww4 L f);have e2:((2-0:Int)).toNat=2:=rfl;have e4:((4-0:Int)).toNat=4:=rfl;rw[e2] at a2 a4;rw[e4] at b2 b4;simp only[AC] at a2 a3 a4;change (ww4 L f).1.length<=_ at a2
 change _<=(ww4 L f).2.2.1 at a3
 change (ww4 L f).2.2.1<=_ at a4
 change (ww12 L f).1.length<=_ at b2
 change _<=(ww12 L f).2.2.1 at b3
 change (ww12 L f).2.2.1<=_ at b4
 omega
theorem wyK_of {s:Ey} {n:Nat} (h:s.1.length=n):wyK s n=some (.CR false 49 s.1):=by
 unfold wyK;rw[DR h,AJ,Bf (by omega)]
theorem w2_eq {L:List PV} {s:Ey} (h:s.1.length<=100) (h0:0<=s.2.2.1) (h1:s.2.2.1<=1000):w2 L s s.1.length=some (.CR false 49 (wv2 L s).1):=by
 have ha:=FG L s.2.2.1;unfold w2 wv2;rw[show EG s.2.2.1 4=true by unfold EG;simp;omega,AQ,okWy_of (by omega) (by omega) (by omega)];cases dI L s.2.2.1 4==0
 ·exact wyK_of (s:=drS L s) rfl
 ·exact wyK_of (wyS_len _ _ _ _ _ _ _)
theorem w1_eq {L:List PV} {s:Ey} (h:s.1.length<=90) (h0:0<=s.2.2.1) (h1:s.2.2.1<=900):w1 L s s.1.length=some (.CR false 49 (wv2 L (wv1 L s)).1):=by
 have ha:=FG L s.2.2.1;have hb:=FG L (aI L s.2.2.1);have hc:=wv1_bd L s;rw[<- w2_eq (L:=L) (s:=wv1 L s) (by omega) (by omega) (by omega)];unfold w1 wv1;rw[show EG s.2.2.1 3=true by unfold EG;simp;omega,show EG (aI L s.2.2.1) 2=true by unfold EG;simp;omega,AQ,okWy_of (by omega) (by omega) (by omega)];cases dI L s.2.2.1 3==0
 ·rfl
 ·simp only[Am];rw[wyS_len]
theorem qWaysN (f:Bool) (L:List PV):Dx Try.prog MV4 60 56 [.CR f 3 L]=some (.CR false 49 (wayL f L)):=by
 obtain⟨a1,a2,a3,a4,a5,a6⟩:=ww_bd L f;have p4:pV4 (lV4 L 0 0 0 ([],f,0,true))=true:=by
  simp only[pV4,Aa,Ab,AC,CM];omega
 have p12:pV12 (lV12 L (ww4 L f).1.length (ww4 L f).1.length 0 (ww4 L f))=true:=by
  simp only[pV12,Aa,Ab,CM];omega
 rw[qWays,p4,p12];exact w1_eq (by omega) a5 (by omega)
def cWays:List PV->Option (DT PV)
 | [.CR f 3 L]=>some (.br true (.leaf (.CR false 49 (wayL f L))) .no)
 | _=>none
theorem eWays:Hx.CV Try.prog 56:=(CL okMV4 (n:=60) (qWaysN false [])).1
theorem oWays (args:List PV) (d:DT PV) (r:PV) (h:cWays args=some d) (hr:d.run=some r):Da Try.prog 56 args r:=by
 unfold cWays at h;split at h
 ·rename_i f L;cases h;obtain⟨_,rfl⟩:=DJ hr;exact (CL okMV4 (n:=60) (qWaysN f L)).2
 ·cases h
noncomputable def MP2:CP:=((M7.DG 79 cAt).DG 80 cFdr).GY 57 5 [(6,138,7)]
theorem okMP2:Ck Try.prog MP2.env:=((H7.DG eAt oAt).DG eFdr oFdr).GY 57 5 [(6,138,7)]
abbrev pclL:List PV:=[.val (.string ⟨#[116,114,101,101]⟩),.val (.string ⟨#[116,114,101,101]⟩),.val (.string ⟨#[115,104,111,112]⟩)]
abbrev pnaL:List PV:=[.val (.string ⟨#[]⟩),.val (.string ⟨#[]⟩),.val (.string ⟨#[71,97,116,101]⟩),.val (.string ⟨#[79,97,107]⟩),.val (.string ⟨#[84,104,101,32,87,101,108,108]⟩)]
def JB:S1:=⟨88,[(2,.ptr 0 1 0 0),(5,.ptr 1 1 0 0),(6,.sl 2),(7,C5),(8,C5)],[.Gg 73 4 (.agg [.CR 147,.CR 106,.CR 49,.nil]),.one 103 2 (.agg [.CR 3,C5]),.many 138 7]⟩
abbrev lPc (g:Bool) (E:List PV) (fb:Bool) (F:List PV) (h:Bool) (D:List PV) (L:List PV) (n l:Nat) (many k:Int) (s:Ey):LS:=([.n n,.n l,.i many,.i k],[.l g E,.l fb F,.l h D,.l s.2.1 L,.i s.2.2.1,.l s.2.2.2 s.1])
noncomputable abbrev xPc (g:Bool) (E:List PV) (fb:Bool) (F:List PV) (h:Bool) (D:List PV) (L:List PV) (n l:Nat) (s:Ey):PX × List PV × List Row:=
 (.exit 0,tm 88 [(6,.sl 2 n 0 l)],(JB.put (lPc g E fb F h D L n l 0 0 s)).2)
abbrev plX (L:List PV) (a sd:Int):Int:=W (W (90+W (100*dI L (a1 L a 2) 3))+sd)
abbrev plY (L:List PV) (a:Int):Int:=W (W (W (90+W (100*dI L (a1 L a 3) 2))+dI L (a1 L a 4) 51)-25)
abbrev plV (L:List PV) (a:Int) (l:Nat) (x y d:Int):PV:=.agg [iv (W (61+(l:Int))),iv x,iv y,.val (.string ((pclL.getD (0+(dI L (a1 L a 6) 3).toNat) .any).cellAt 0).Ip),.val (.string ((pnaL.getD (0+(dI L (a1 L a 7) 5).toNat) .any).cellAt 0).Ip),iv (W (1+dI L (a1 L a 5) 60)),iv d]
noncomputable def plT (g:Bool) (E:List PV) (fb:Bool) (F:List PV) (h:Bool) (D:List PV) (L:List PV) (n l:Nat) (many k:Int) (s:Ey) (x y:Int):Option (PX × List PV × List Row):=
 bif EG (a1 L s.2.2.1 2) 3 then bif EG (a1 L s.2.2.1 3) 2 then bif EG (a1 L s.2.2.1 4) 51 then bif EG (a1 L s.2.2.1 5) 60 then bif EG (a1 L s.2.2.1 6) 3 then bif inDr L (a1 L s.2.2.1 6) 3 then bif EG (a1 L s.2.2.1 7) 5 then bif inDr L (a1 L s.2.2.1 7) 5 then
 bif smE E&&decide (E.length<=1000) then bif decide (F.length<=1000) then bif atB (trL E) x y then bif decide (fdV F (atI (trL E) x y) > 0) then
  bif true&&decide (s.1.length=n)&&decide (n=l)&&decide ((n+1)*72<=140737488355328) then
   some (.normal,JB.put (lPc g E fb F h D L (n+1) (n+1) many (W (k+1)) (s.1++[plV L s.2.2.1 l x y (fdV F (atI (trL E) x y))],f1 s.2.1 L s.2.2.1 8,a1 L s.2.2.1 8,s.2.2.2&&false))) else none
  else some (.normal,JB.put (lPc g E fb F h D L n l many (W (k+1)) (s.1,f1 s.2.1 L s.2.2.1 8,a1 L s.2.2.1 8,s.2.2.2))) else some (.normal,JB.put (lPc g E fb F h D L n l many (W (k+1)) (s.1,f1 s.2.1 L s.2.2.1 8,a1 L s.2.2.1 8,s.2.2.2)))
 else none else none else none else none else none else none else none else none else none else none
theorem qPc (g:Bool) (E:List PV) (fb:Bool) (F:List PV) (h:Bool) (D:List PV) (L:List PV) (n l:Nat) (many k:Int) (ps:List PV) (f:Bool) (a:Int) (nl:Bool):
 CT Try.prog MP2 60 57 (C4 Try.f57 5) [2,5,6,7,8] [6] (JB.put (lPc g E fb F h D L n l many k (ps,f,a,nl))).1 (JB.put (lPc g E fb F h D L n l many k (ps,f,a,nl))).2 =
 bif decide (k<many) then bif EG (a1 L a 0) 10 then bif EG (a1 L a 1) 2 then
  bif dI L (a1 L a 1) 2==1 then plT g E fb F h D L n l many k (ps,f,a,nl) (plX L a (W (0-W (16+dI L (a1 L a 0) 10)))) (plY L a) else plT g E fb F h D L n l many k (ps,f,a,nl) (plX L a (W (16+dI L (a1 L a 0) 10))) (plY L a)
 else none else none else some (xPc g E fb F h D L n l (ps,f,a,nl)):=by kernel_rfl
def plW (L:List PV) (a:Int):Int:=bif dI L (a1 L a 1) 2==1 then plX L a (W (0-W (16+dI L (a1 L a 0) 10))) else plX L a (W (16+dI L (a1 L a 0) 10))
def plS (E F L:List PV) (s:Ey):Ey:=
 bif atB (trL E) (plW L s.2.2.1) (plY L s.2.2.1)&&decide (fdV F (atI (trL E) (plW L s.2.2.1) (plY L s.2.2.1)) > 0) then
  (s.1++[plV L s.2.2.1 s.1.length (plW L s.2.2.1) (plY L s.2.2.1) (fdV F (atI (trL E) (plW L s.2.2.1) (plY L s.2.2.1)))],f1 s.2.1 L s.2.2.1 8,a1 L s.2.2.1 8,s.2.2.2&&false)
 else (s.1,f1 s.2.1 L s.2.2.1 8,a1 L s.2.2.1 8,s.2.2.2)
theorem plS_bd (E F L:List PV) (s:Ey):(plS E F L s).1.length<=s.1.length+1/\s.2.2.1<=(plS E F L s).2.2.1/\(plS E F L s).2.2.1<=s.2.2.1+8:=by
 have h:=GQ L s.2.2.1 8;unfold plS;cases atB (trL E) (plW L s.2.2.1) (plY L s.2.2.1)&&decide (fdV F (atI (trL E) (plW L s.2.2.1) (plY L s.2.2.1)) > 0)
 ·exact⟨Nat.le_succ _,h.1,by show a1 L s.2.2.1 8<=_;omega⟩
 ·exact⟨by show (s.1++[_]).length<=_;simp,h.1,by show a1 L s.2.2.1 8<=_;omega⟩
theorem plT_of {g:Bool} {E:List PV} {fb:Bool} {F:List PV} {h:Bool} {D L:List PV} {many k:Int} {ps:List PV} {f:Bool} {a:Int} {nl:Bool} (x:Int) (h0:0<=a) (h1:a<=10000) (hE:smE E=true) (hE2:E.length<=1000) (hF:F.length<=1000) (hk:0<=k) (hk2:k<=100) (hp:ps.length<=100) (hx:plW L a=x):
  plT g E fb F h D L ps.length ps.length many k (ps,f,a,nl) x (plY L a)=some (.normal,JB.put (lPc g E fb F h D L (plS E F L (ps,f,a,nl)).1.length (plS E F L (ps,f,a,nl)).1.length many (k+1) (plS E F L (ps,f,a,nl)))):=by
 have ok:∀ (k:Nat) (n:Int),k<=8->0<n->n<=100->EG (a1 L a k) n=true:=fun k n hk hn hn2=>by
  have:=GQ L a k;unfold EG;simp;omega
 have ind:∀ (k:Nat) (n:Int),0<n->inDr L (a1 L a k) n=true:=fun k n hn=>by
  rw[Aa];exact⟨Ac (Il _ _ hn),Ac (HV _ _ hn)⟩
 unfold plT;rw[ok 2 3 (by omega) (by omega) (by omega),ok 3 2 (by omega) (by omega) (by omega),ok 4 51 (by omega) (by omega) (by omega),ok 5 60 (by omega) (by omega) (by omega),ok 6 3 (by omega) (by omega) (by omega),ind 6 3 (by omega),ok 7 5 (by omega) (by omega) (by omega),ind 7 5 (by omega),hE,Ac hE2,Ac hF,Dc (n:=k+1) (by omega) (by omega),
  show (true&&decide (ps.length=ps.length)&&decide (ps.length=ps.length)&&decide ((ps.length+1)*72<=140737488355328))=true by simp;omega]
 simp only[Am,Bn];subst hx;unfold plS;simp only;generalize hA:atB (trL E) (plW L a) (plY L a)=A;generalize hB:decide (fdV F (atI (trL E) (plW L a) (plY L a)) > 0)=B;cases A <;> cases B <;> simp only[Am,Av,BD,BW,Bn,Aq,Ay,AC]
theorem nxPc {g:Bool} {E:List PV} {fb:Bool} {F:List PV} {h:Bool} {D L:List PV} {many k:Int} {ps:List PV} {f:Bool} {a:Int} {nl:Bool} (hm:k<many) (h0:0<=a) (h1:a<=10000) (hE:smE E=true) (hE2:E.length<=1000) (hF:F.length<=1000) (hk:0<=k) (hk2:k<=100) (hp:ps.length<=100):
  CT Try.prog MP2 60 57 (C4 Try.f57 5) [2,5,6,7,8] [6] (JB.put (lPc g E fb F h D L ps.length ps.length many k (ps,f,a,nl))).1 (JB.put (lPc g E fb F h D L ps.length ps.length many k (ps,f,a,nl))).2 =
  some (.normal,JB.put (lPc g E fb F h D L (plS E F L (ps,f,a,nl)).1.length (plS E F L (ps,f,a,nl)).1.length many (k+1) (plS E F L (ps,f,a,nl)))):=by
 have ok:∀ (k:Nat) (n:Int),k<=8->0<n->n<=100->EG (a1 L a k) n=true:=fun k n hk hn hn2=>by
  have:=GQ L a k;unfold EG;simp;omega
 rw[qPc,Ac hm,ok 0 10 (by omega) (by omega) (by omega),ok 1 2 (by omega) (by omega) (by omega)];simp only[Am];cases hd:dI L (a1 L a 1) 2==1 with
 | true=>exact plT_of _ h0 h1 hE hE2 hF hk hk2 hp (by unfold plW;rw[hd];rfl)
 | false=>exact plT_of _ h0 h1 hE hE2 hF hk hk2 hp (by unfold plW;rw[hd];rfl)
def plN (E F L:List PV):Nat->Ey->Ey
 | 0,s=>s
 | m+1,s=>plN E F L m (plS E F L s)
def pPc:LS->Bool
 | ([.n n,.n l,.i many,.i k],[.l _ E,.l _ F,.l _ _,.l _ _,.i a,.l _ ps])=>smE E&&decide (n=ps.length)&&decide (l=ps.length)&&decide (E.length<=1000)&&decide (F.length<=1000)&&decide (0<=k)&&decide (k<=many)&&decide (many<=6)&&decide ((ps.length:Int)<=k)&&decide (0<=a)&&decide (a<=10+8*k)
 | _=>false
noncomputable def fPc:LS->DT (PX × List PV × List Row)
 | ([.n _,.n _,.i many,.i k],[.l g E,.l fb F,.l h D,.l f L,.i a,.l nl ps])=>.leaf (xPc g E fb F h D L (plN E F L (many-k).toNat (ps,f,a,nl)).1.length (plN E F L (many-k).toNat (ps,f,a,nl)).1.length (plN E F L (many-k).toNat (ps,f,a,nl)))
 | _=>.no
def mPc:LS->Nat
 | ([.n _,.n _,.i many,.i k],_)=>(many-k).toNat
 | _=>0
theorem sPc:∀ s r,pPc s=true->(fPc s).run=some r->r.1 ≠ .normal/\(CT Try.prog MP2 60 57 (C4 Try.f57 5) [2,5,6,7,8] [6] (JB.put s).1 (JB.put s).2=some r \/
   ∃ s',CT Try.prog MP2 60 57 (C4 Try.f57 5) [2,5,6,7,8] [6] (JB.put s).1 (JB.put s).2=some (.normal,JB.put s')/\pPc s'=true/\mPc s'<mPc s/\(fPc s').run=some r):=by
 intro t r hp hr;unfold pPc at hp;split at hp
 ·rename_i n l many k g E fb F h D f L a nl ps;simp only[Aa,Ab] at hp;obtain⟨⟨⟨⟨⟨⟨⟨⟨⟨⟨h0,rfl⟩,rfl⟩,h1⟩,h2⟩,h3⟩,h4⟩,h5⟩,h6⟩,h7⟩,h8⟩:=hp;have hr':=(Ah hr).symm;refine⟨by rw[hr'];simp,?_⟩;rw[show JB.put ([.n ps.length,.n ps.length,.i many,.i k],[.l g E,.l fb F,.l h D,.l f L,.i a,.l nl ps])=JB.put (lPc g E fb F h D L ps.length ps.length many k (ps,f,a,nl)) from rfl];by_cases hi:k<many
  ·obtain⟨j,hj⟩:∃ j,(many-k).toNat=j+1:=⟨(many-k).toNat-1,by omega⟩;have hj2:(many-(k+1)).toNat=j:=by omega
   obtain⟨b1,b2,b3⟩:=plS_bd E F L (ps,f,a,nl);simp only at b1 b2 b3;refine .inr ⟨_,nxPc hi h7 (by omega) h0 h1 h2 h3 (by omega) (by omega),?_,by simp only[mPc];omega,?_⟩
   ·simp only[pPc,Aa,Ab];exact⟨⟨⟨⟨⟨⟨⟨⟨⟨⟨h0,trivial⟩,trivial⟩,h1⟩,h2⟩,by omega⟩,by omega⟩,h5⟩,by omega⟩,by omega⟩,by omega⟩
   ·rw[hr',hj];simp only[fPc,hj2,DT.run,plN]
  ·have hz:(many-k).toNat=0:=by omega
   rw[qPc,Al hi];exact .inl (by rw[hr',hz];rfl)
 ·cases hp
noncomputable def MP3:CP:=MP2.C9 57 5 [2,5,6,7,8] [true,true,false] JB pPc fPc
theorem okMP3:Ck Try.prog MP3.env:=
 okMP2.C9 (n:=60) Try.func57 (show Try.f57.body=some (DM Try.f57) by kernel_rfl) (show (loops (DM Try.f57)).filter (fun b=>Ee b==5)=[C4 Try.f57 5] by kernel_rfl) [2,5,6,7,8] [6] [true,true,false] JB mPc sPc
abbrev plA (E F L:List PV) (f:Bool):Ey:=plN E F L (dI L 0 7-0).toNat ([],fI f L 0,aI L 0,true)
theorem qPlc (g:Bool) (E:List PV) (fb:Bool) (F:List PV) (h:Bool) (D:List PV) (f:Bool) (L:List PV):Dx Try.prog MP3 60 57 [mapV g E fb F h D,.CR f 3 L] =
 bif pPc (lPc g E fb F h D L 0 0 (dI L 0 7) 0 ([],fI f L 0,aI L 0,true)) then JW (plA E F L f).1 (plA E F L f).1.length (some (.CR false 138 (((plA E F L f).1.drop 0).take (plA E F L f).1.length))) else none:=by kernel_rfl
theorem qPlcN (g:Bool) {E:List PV} (fb:Bool) {F:List PV} (h:Bool) (D:List PV) (f:Bool) (L:List PV) (hE:smE E=true) (hE2:E.length<=1000) (hF:F.length<=1000):Dx Try.prog MP3 60 57 [mapV g E fb F h D,.CR f 3 L]=some (.CR false 138 (plA E F L f).1):=by
 have d1:=Il L 0 (n:=7) (by omega);have d2:=HV L 0 (n:=7) (by omega);have ha:=FG L 0;have hp:pPc (lPc g E fb F h D L 0 0 (dI L 0 7) 0 ([],fI f L 0,aI L 0,true))=true:=by
  simp only[pPc,Aa,Ab,AC];exact⟨⟨⟨⟨⟨⟨⟨⟨⟨⟨hE,trivial⟩,trivial⟩,hE2⟩,hF⟩,by omega⟩,by omega⟩,by omega⟩,by omega⟩,by omega⟩,by omega⟩
 rw[qPlc,hp,Am,DR rfl,AJ,Bc]
def cPlc:List PV->Option (DT PV)
 | [.agg [.CR _ 147 E,.CR _ 106 F,.CR _ 49 _,.val (.slice none 0 0)],.CR f 3 L]=>some (.br (smE E&&decide (E.length<=1000)&&decide (F.length<=1000)) (.leaf (.CR false 138 (plA E F L f).1)) .no)
 | _=>none
theorem ePlc:Hx.CV Try.prog 57:=(CL okMP3 (n:=60) (qPlcN false (E:=[]) false (F:=[]) false [] false [] rfl (by simp) (by simp))).1
theorem oPlc (args:List PV) (d:DT PV) (r:PV) (h:cPlc args=some d) (hr:d.run=some r):Da Try.prog 57 args r:=by
 unfold cPlc at h;split at h
 ·rename_i g E fb F h' D f L;cases h;obtain⟨h1,rfl⟩:=DJ hr;simp only[Aa,Ab] at h1;exact (CL okMP3 (n:=60) (qPlcN g fb h' D f L h1.1.1 h1.1.2 h1.2)).2
 ·cases h
noncomputable def MG1:CP:=((((M7.addC 53 cMd).FL 53).DG 54 cPart).DG 56 cWays).DG 57 cPlc
theorem okMG1:Ck Try.prog MG1.env:=((((H7.addC eMd oMd).FL 53).DG ePart oPart).DG eWays oWays).DG ePlc oPlc
abbrev fclL:List PV:=[.val (.string ⟨#[102,105,101,108,100]⟩),.val (.string ⟨#[119,111,111,100]⟩),.val (.string ⟨#[108,97,107,101]⟩)]
abbrev fnaL:List PV:=[.val (.string ⟨#[]⟩),.val (.string ⟨#[]⟩),.val (.string ⟨#[]⟩),.val (.string ⟨#[77,111,111,114]⟩),.val (.string ⟨#[72,111,108,109]⟩),.val (.string ⟨#[78,111,114,116,104,32,77,111,111,114]⟩)]
abbrev fE (fs:List PV) (k:Int):PV:=fs.getD (0+k.toNat) .any
abbrev fcE (c0:Int) (s1 s2:ByteArray) (c3 c4:Int):PV:=.agg [iv c0,.val (.string s1),.val (.string s2),iv c3,iv c4]
abbrev fcS1 (fs:List PV) (k:Int) (s:ByteArray):List PV:=fs.set (0+k.toNat) (fcE ((fE fs k).cellAt 0).Dw s ((fE fs k).cellAt 2).Ip ((fE fs k).cellAt 3).Dw ((fE fs k).cellAt 4).Dw)
abbrev fcS2 (fs:List PV) (k:Int) (s:ByteArray):List PV:=fs.set (0+k.toNat) (fcE ((fE fs k).cellAt 0).Dw ((fE fs k).cellAt 1).Ip s ((fE fs k).cellAt 3).Dw ((fE fs k).cellAt 4).Dw)
abbrev fcS3 (fs:List PV) (k:Int) (x:Int):List PV:=fs.set (0+k.toNat) (fcE ((fE fs k).cellAt 0).Dw ((fE fs k).cellAt 1).Ip ((fE fs k).cellAt 2).Ip x ((fE fs k).cellAt 4).Dw)
abbrev fcS4 (fs:List PV) (k:Int) (x:Int):List PV:=fs.set (0+k.toNat) (fcE ((fE fs k).cellAt 0).Dw ((fE fs k).cellAt 1).Ip ((fE fs k).cellAt 2).Ip ((fE fs k).cellAt 3).Dw x)
abbrev fcX1 (L:List PV) (a:Int):ByteArray:=((fclL.getD (0+(dI L (a1 L a 0) 3).toNat) .any).cellAt 0).Ip
abbrev fcX2 (L:List PV) (a:Int):ByteArray:=((fnaL.getD (0+(dI L (a1 L a 1) 6).toNat) .any).cellAt 0).Ip
abbrev fcX3 (L:List PV) (a:Int):Int:=W (1+dI L (a1 L a 2) 60)
abbrev fcX4 (L:List PV) (a:Int):Int:=W (1+Int.tmod (W (dI L (a1 L a 3) 4*dI L (a1 L a 4) 2)) 3)
def stK (fs:List PV) (p:Nat) {α:Type} (x:Option α):Option α:=JW fs p (JW fs p (bif ((((fs.length==p)&&true)&&true)&&true) then x else none))
theorem stK_of {fs:List PV} {p:Nat} {α:Type} {x:Option α} (h:fs.length=p):stK fs p x=x:=by
 unfold stK;rw[DR h,DR h,h,AQ];rfl
def shMk:S1:=⟨75,[(0,.CR 38),(2,.ptr 0 1 0 0),(3,.ptr 1 1 0 0),(4,.ptr 4 1 0 0),(5,C5)],[.Gg 73 4 (.agg [.nil,.nil,.nil,.nil]),.Gg 73 4 (.agg [.sl 2,.sl 3,.nil,.nil]),.many 147 4,.many 106 5,.one 103 2 (.agg [.CR 3,C5])]⟩
abbrev lMk (u:Bool) (ls:List PV) (k:Int) (n l p q:Nat) (nl:Bool) (es:List PV) (v:Bool) (fs:List PV) (g:Bool) (L:List PV) (a:Int):LS:=([.l u ls,.i k],[.n n,.n l,.n p,.n q,.l nl es,.l v fs,.l g L,.i a])
noncomputable abbrev xMk (u:Bool) (ls:List PV) (n l p q:Nat) (nl:Bool) (es:List PV) (v:Bool) (fs:List PV) (g:Bool) (L:List PV) (a:Int):PX × List PV × List Row:=
 (.exit 0,tm 75 [(0,.CR u 38 ls),(2,.ptr 0 1 0 0),(3,.ptr 1 1 0 0)],(shMk.put (lMk u ls 0 n l p q nl es v fs g L a)).2)
theorem qMk (u:Bool) (ls:List PV) (k:Int) (n l p q:Nat) (nl:Bool) (es:List PV) (v:Bool) (fs:List PV) (g:Bool) (L:List PV) (a:Int):
 CT Try.prog MG1 60 31 (C4 Try.f31 5) [0,2,3,4,5] [0,2,3] (shMk.put (lMk u ls k n l p q nl es v fs g L a)).1 (shMk.put (lMk u ls k n l p q nl es v fs g L a)).2 =
 bif decide (k<(q:Int)) then ixR fs p q k (bif EG (a1 L a 0) 3 then bif inDr L (a1 L a 0) 3 then stK fs p (
  bif EG (a1 L a 1) 6 then bif inDr L (a1 L a 1) 6 then stK (fcS1 fs k (fcX1 L a)) p (
  bif EG (a1 L a 2) 60 then stK (fcS2 (fcS1 fs k (fcX1 L a)) k (fcX2 L a)) p (
  bif EG (a1 L a 3) 4 then bif EG (a1 L a 4) 2 then stK (fcS3 (fcS2 (fcS1 fs k (fcX1 L a)) k (fcX2 L a)) k (fcX3 L a)) p (
   some (.normal,shMk.put (lMk u ls (W (k+1)) n l p q nl es v (fcS4 (fcS3 (fcS2 (fcS1 fs k (fcX1 L a)) k (fcX2 L a)) k (fcX3 L a)) k (fcX4 L a)) (f1 g L a 5) L (a1 L a 5)))) else none else none) else none) else none else none) else none else none)
 else some (xMk u ls n l p q nl es v fs g L a):=by kernel_rfl
abbrev FS:=List PV × Bool × Int
def fcT (fs:List PV) (k:Int) (L:List PV) (a:Int):List PV:=fcS4 (fcS3 (fcS2 (fcS1 fs k (fcX1 L a)) k (fcX2 L a)) k (fcX3 L a)) k (fcX4 L a)
theorem fcT_len (fs:List PV) (k:Int) (L:List PV) (a:Int):(fcT fs k L a).length=fs.length:=by
 unfold fcT;simp only[Bu]
def mkN (L:List PV):Nat->Int->FS->FS
 | 0,_,s=>s
 | m+1,k,s=>mkN L m (k+1) (fcT s.1 k L s.2.2,f1 s.2.1 L s.2.2 5,a1 L s.2.2 5)
theorem mkN_len (L:List PV):∀ (m:Nat) (k:Int) (s:FS),(mkN L m k s).1.length=s.1.length
 | 0,_,_=>rfl
 | m+1,k,s=>by
  simp only[mkN];rw[mkN_len L m];exact fcT_len _ _ _ _
def pMk:LS->Bool
 | ([.l _ _,.i k],[.n _,.n _,.n p,.n q,.l _ _,.l _ fs,.l _ _,.i a])=>decide (p=fs.length)&&decide (q=fs.length)&&decide (0<=k)&&decide (k<=(fs.length:Int))&&decide (fs.length<=1000)&&decide (0<=a)&&decide (a<=5*k)
 | _=>false
noncomputable def fMk:LS->DT (PX × List PV × List Row)
 | ([.l u ls,.i k],[.n n,.n l,.n p,.n q,.l nl es,.l v fs,.l g L,.i a]) =>
  .leaf (xMk u ls n l p q nl es v (mkN L ((fs.length:Int)-k).toNat k (fs,g,a)).1 (mkN L ((fs.length:Int)-k).toNat k (fs,g,a)).2.1 L (mkN L ((fs.length:Int)-k).toNat k (fs,g,a)).2.2)
 | _=>.no
def mMk:LS->Nat
 | ([.l _ _,.i k],[.n _,.n _,.n _,.n q,.l _ _,.l _ _,.l _ _,.i _])=>((q:Int)-k).toNat
 | _=>0
theorem sMk:∀ s r,pMk s=true->(fMk s).run=some r->r.1 ≠ .normal/\(CT Try.prog MG1 60 31 (C4 Try.f31 5) [0,2,3,4,5] [0,2,3] (shMk.put s).1 (shMk.put s).2=some r \/
   ∃ s',CT Try.prog MG1 60 31 (C4 Try.f31 5) [0,2,3,4,5] [0,2,3] (shMk.put s).1 (shMk.put s).2=some (.normal,shMk.put s')/\pMk s'=true/\mMk s'<mMk s/\(fMk s').run=some r):=by
 intro t r hp hr;unfold pMk at hp;split at hp
 ·rename_i u ls k n l p q nl es v fs g L a;simp only[Aa,Ab] at hp;obtain⟨⟨⟨⟨⟨⟨rfl,rfl⟩,h1⟩,h2⟩,h3⟩,h4⟩,h5⟩:=hp;have hr':=(Ah hr).symm;refine⟨by rw[hr'];simp,?_⟩;rw[show shMk.put ([.l u ls,.i k],[.n n,.n l,.n fs.length,.n fs.length,.l nl es,.l v fs,.l g L,.i a])=shMk.put (lMk u ls k n l fs.length fs.length nl es v fs g L a) from rfl,qMk];by_cases hi:k<(fs.length:Int)
  ·obtain⟨j,hj⟩:∃ j,((fs.length:Int)-k).toNat=j+1:=⟨((fs.length:Int)-k).toNat-1,by omega⟩;have hj2:((fs.length:Int)-(k+1)).toNat=j:=by omega
   have ok:∀ (i:Nat) (n:Int),i<=8->0<n->n<=100->EG (a1 L a i) n=true:=fun i n hk hn hn2=>by
    have:=GQ L a i;unfold EG;simp;omega
   have ind:∀ (i:Nat) (n:Int),0<n->inDr L (a1 L a i) n=true:=fun i n hn=>by
    rw[Aa];exact⟨Ac (Il _ _ hn),Ac (HV _ _ hn)⟩
   have ha:=GQ L a 5;rw[Ac hi,Am,G0 rfl h1 hi,ok 0 3 (by omega) (by omega) (by omega),ind 0 3 (by omega),Am,Am,stK_of rfl,ok 1 6 (by omega) (by omega) (by omega),ind 1 6 (by omega),Am,Am,
    stK_of (by simp only[Bu]),ok 2 60 (by omega) (by omega) (by omega),Am,stK_of (by simp only[Bu]),ok 3 4 (by omega) (by omega) (by omega),ok 4 2 (by omega) (by omega) (by omega),Am,Am,stK_of (by simp only[Bu]),Dc (n:=k+1) (by omega) (by omega)]
   refine .inr ⟨lMk u ls (k+1) n l fs.length fs.length nl es v (fcT fs k L a) (f1 g L a 5) L (a1 L a 5),rfl,?_,by simp only[mMk];omega,?_⟩
   ·simp only[pMk,Aa,Ab,fcT_len];exact⟨⟨⟨⟨⟨⟨trivial,trivial⟩,by omega⟩,by omega⟩,h3⟩,by omega⟩,by omega⟩
   ·rw[hr',hj];simp only[fMk,fcT_len,hj2,DT.run,mkN]
  ·have hz:((fs.length:Int)-k).toNat=0:=by omega
   rw[Al hi];exact .inl (by rw[hr',hz];rfl)
 ·cases hp
noncomputable def MG2:CP:=MG1.C9 31 5 [0,2,3,4,5] [true,true,false,false,true] shMk pMk fMk
theorem okMG2:Ck Try.prog MG2.env:=
 okMG1.C9 (n:=60) Try.func31 (show Try.f31.body=some (DM Try.f31) by kernel_rfl) (show (loops (DM Try.f31)).filter (fun b=>Ee b==5)=[C4 Try.f31 5] by kernel_rfl) [0,2,3,4,5] [0,2,3] [true,true,false,false,true] shMk mMk sMk
noncomputable def MG3:CP:=(MG2.Ge 31 12 2).Jg 31 12 [4,5,6,7,8,9,10,11,12,13,14,15,16,17,18,19,20,21,22,23,24,25,26,27,28,29,30,31,32,33,34,35,36,37,38,39,40,41,42,43,44,45,46,47,48,49,50,51,52,53,54,55,56,57,58,59,60,61,62,63,64]
theorem okMG3:Ck Try.prog MG3.env:=(okMG2.Ge 31 12 2).Jg 31 12 [4,5,6,7,8,9,10,11,12,13,14,15,16,17,18,19,20,21,22,23,24,25,26,27,28,29,30,31,32,33,34,35,36,37,38,39,40,41,42,43,44,45,46,47,48,49,50,51,52,53,54,55,56,57,58,59,60,61,62,63,64]
abbrev min3 (ls:List PV):Int:=if (3:Int)<(ls.length:Int) then 3 else (ls.length:Int)
abbrev JO (ls:List PV):List PV:=(ls.take ((some (min3 ls)).getD (ls.length:Int)).toNat).drop ((none:Option Int).getD 0).toNat
abbrev mkF (ls:List PV):List PV:=(mkN (nth ls 3) (((FO (JO ls)).2.length:Int)-0).toNat 0 ((FO (JO ls)).2,false,0)).1
abbrev mkE' (ls:List PV):List PV:=((F4 (JO ls)).drop 0).take (F4 (JO ls)).length
abbrev mkF' (ls:List PV):List PV:=((mkF ls).drop 0).take (FO (JO ls)).2.length
theorem qMap (f:Bool) (ls:List PV):Dx Try.prog MG3 60 31 [.CR f 38 ls] =
 bif true&&decide (0<=min3 ls)&&decide (min3 ls<=(ls.length:Int)) then bif decide ((JO ls).length<=3) then
 bif pMk (lMk f ls 0 (F4 (JO ls)).length (F4 (JO ls)).length (FO (JO ls)).2.length (FO (JO ls)).2.length (mdNL (JO ls)) (F4 (JO ls)) (FO (JO ls)).1 (FO (JO ls)).2 false (nth ls 3) 0) then
 bif ((((F4 (JO ls)).length==(F4 (JO ls)).length)&&(((mkF ls).length==(FO (JO ls)).2.length)&&true))&&true)&&true then
 bif smE (mkE' ls)&&decide ((mkE' ls).length<=1000)&&decide ((mkF' ls).length<=1000) then
  some (.agg [.CR false 147 (mkE' ls),.CR false 106 (mkF' ls),.CR false 49 (wayL false (nth ls 4)),.CR false 138 (plA (mkE' ls) (mkF' ls) (nth ls 5) false).1]) else none else none else none else none else none:=by kernel_rfl
theorem smE_of {es:List PV} (h:EdgA es):smE es=true:=by
 unfold smE;rw[Ap];intro e he;obtain⟨id,f,ps,lf,rt,rfl,hp⟩:=h e he;exact Ac (show ps.length<=1000 by omega)
def mapL (ls:List PV):PV:=.agg [.CR false 147 (mkE' ls),.CR false 106 (mkF' ls),.CR false 49 (wayL false (nth ls 4)),.CR false 138 (plA (mkE' ls) (mkF' ls) (nth ls 5) false).1]
theorem qMapN (f:Bool) (ls:List PV):Dx Try.prog MG3 60 31 [.CR f 38 ls]=some (mapL ls):=by
 obtain⟨hl,he⟩:=mdR_bd (nth (JO ls) 0) (nth (JO ls) 1) (nth (JO ls) 2);change (F4 (JO ls)).length<=21 at hl
 change EdgA (F4 (JO ls)) at he
 have hF:(FO (JO ls)).2.length<=42:=by
  have h1:=mdF_len (F4 (JO ls));have h2:=mdJ_len (F4 (JO ls));change (FO (JO ls)).2.length=_ at h1
  omega
 have hF':(mkF ls).length=(FO (JO ls)).2.length:=mkN_len _ _ _ _;have hm:0<=min3 ls/\min3 ls<=(ls.length:Int)/\min3 ls<=3:=by
  show 0<=(if (3:Int)<(ls.length:Int) then 3 else (ls.length:Int))/\(if (3:Int)<(ls.length:Int) then 3 else (ls.length:Int))<=(ls.length:Int)/\(if (3:Int)<(ls.length:Int) then 3 else (ls.length:Int))<=3
  split <;> omega
 have h3:(JO ls).length<=3:=by
  show ((ls.take (min3 ls).toNat).drop 0).length<=3
  rw[AJ,Az];omega
 have p5:pMk (lMk f ls 0 (F4 (JO ls)).length (F4 (JO ls)).length (FO (JO ls)).2.length (FO (JO ls)).2.length (mdNL (JO ls)) (F4 (JO ls)) (FO (JO ls)).1 (FO (JO ls)).2 false (nth ls 3) 0)=true:=by
  simp only[pMk,Aa,Ab];exact⟨⟨⟨⟨⟨⟨trivial,trivial⟩,by omega⟩,by omega⟩,by omega⟩,by omega⟩,by omega⟩
 have hE:mkE' ls=F4 (JO ls):=by
  show ((F4 (JO ls)).drop 0).take _=_
  rw[AJ,Bc]
 have p6:smE (mkE' ls)=true:=by rw[hE];exact smE_of he
 have p7:(mkE' ls).length<=1000:=by rw[hE];omega
 have p8:(mkF' ls).length<=1000:=by
  show (((mkF ls).drop 0).take _).length<=1000
  rw[Az];omega
 rw[qMap,Ac hm.1,Ac hm.2.1,Ac h3,p5,p6,Ac p7,Ac p8,hF',AQ,AQ];rfl
def cMap:List PV->Option (DT PV)
 | [.CR _ 38 ls]=>some (.br true (.leaf (mapL ls)) .no)
 | _=>none
theorem eMap:Hx.CV Try.prog 31:=(CL okMG3 (n:=60) (qMapN false [])).1
theorem oMap (args:List PV) (d:DT PV) (r:PV) (h:cMap args=some d) (hr:d.run=some r):Da Try.prog 31 args r:=by
 unfold cMap at h;split at h
 ·rename_i f ls;cases h;obtain⟨_,rfl⟩:=DJ hr;exact (CL okMG3 (n:=60) (qMapN f ls)).2
 ·cases h
def Sm (x:Int):Prop:=0<=x/\x<=400
theorem Kx {i:Int} (h0:0<=i) (h1:i<=4):Sm (Ho i):=by
 show 0<=W (55+W (80*i))/\W (55+W (80*i))<=400
 rw[Dc (n:=80*i) (by omega) (by omega),Dc (by omega) (by omega)];omega
theorem Kz {i:Int} (h0:0<=i) (h1:i<=4):Sm (Hp i):=by
 show 0<=W (65+W (70*i))/\W (65+W (70*i))<=400
 rw[Dc (n:=70*i) (by omega) (by omega),Dc (by omega) (by omega)];omega
def WayA (es:List PV):Prop:=∀ k e,es[k]? = some e->∃ ax ay bx b' lv L a,e=wyE ax ay bx b' lv k L a/\Sm ax/\Sm ay/\Sm bx/\Sm b'
theorem wyS_A {ax ay bx b' lv:Int} {L:List PV} {s:Ey} (h:WayA s.1) (h1:Sm ax) (h2:Sm ay) (h3:Sm bx) (h4:Sm b'):WayA (wyS ax ay bx b' lv L s).1:=by
 intro k e he;have he:(s.1++[wyE ax ay bx b' lv s.1.length L s.2.2.1])[k]? = some e:=he;rw[AL] at he;split at he
 ·exact h k e he
 ·rename_i hk;have hk2:k=s.1.length:=by
   have:=(Ad.1 he).1;simp at this;omega
  subst hk2;rw[C7] at he;cases he;exact⟨_,_,_,_,_,_,_,rfl,h1,h2,h3,h4⟩
theorem opS_A {L:List PV} {x0 y0 x1 y1:Int} {s:Ey} (h:WayA s.1) (h1:Sm x0) (h2:Sm y0) (h3:Sm x1) (h4:Sm y1):WayA (opS L x0 y0 x1 y1 s).1:=by
 unfold opS;cases dI L s.2.2.1 2==0
 ·exact h
 ·exact wyS_A (s:=drS L s) h h1 h2 h3 h4
theorem hwN_A {L:List PV} {j:Int} (j0:0<=j) (j1:j<=4):∀ {m:Nat} {i:Int} {s:Ey},0<=i->i+m<=4->WayA s.1->WayA (hwN L j m i s).1
 | 0,_,_,_,_,h=>h
 | m+1,i,s,h0,h1,h=>by
  have:((m+1:Nat):Int)=(m:Int)+1:=by simp
  exact hwN_A j0 j1 (m:=m) (by omega) (by omega) (opS_A h (Kx h0 (by omega)) (Kz j0 j1) (Kx (by omega) (by omega)) (Kz j0 j1))
theorem haN_A {L:List PV}:∀ {m:Nat} {j:Int} {s:Ey},0<=j->j+m<=4->WayA s.1->WayA (haN L m j s).1
 | 0,_,_,_,_,h=>h
 | m+1,j,s,h0,h1,h=>by
  have:((m+1:Nat):Int)=(m:Int)+1:=by simp
  exact haN_A (m:=m) (by omega) (by omega) (hwN_A h0 (by omega) (BP 0) (by decide) h)
theorem vwN_A {L:List PV}:∀ {m:Nat} {i:Int} {s:Ey},0<=i->i+m<=4->WayA s.1->WayA (vwN L m i s).1
 | 0,_,_,_,_,h=>h
 | m+1,i,s,h0,h1,h=>by
  have:((m+1:Nat):Int)=(m:Int)+1:=by simp
  simp only[vwN];cases decide ((s.1.length:Int)<5)
  ·exact h
  ·exact vwN_A (m:=m) (by omega) (by omega) (opS_A h (Kx h0 (by omega)) (Kz (by omega) (by omega)) (Kx h0 (by omega)) (Kz (by omega) (by omega)))
theorem wv1_A {L:List PV} {s:Ey} (h:WayA s.1):WayA (wv1 L s).1:=by
 have d1:=Il L (aI L s.2.2.1) (n:=2) (by omega);have d2:=HV L (aI L s.2.2.1) (n:=2) (by omega);unfold wv1;cases dI L s.2.2.1 3==0
 ·exact h
 ·refine wyS_A (s:=drS L (drS L s)) h (Kx (by omega) (by omega)) (Kz (by omega) (by omega)) ?_ (Kz (by omega) (by omega));rw[Dc (n:=2+dI L (aI L s.2.2.1) 2) (by omega) (by omega)];exact Kx (by omega) (by omega)
theorem wv2_A {L:List PV} {s:Ey} (h:WayA s.1):WayA (wv2 L s).1:=by
 unfold wv2;cases dI L s.2.2.1 4==0
 ·exact h
 ·exact wyS_A (s:=drS L s) h (Kx (by omega) (by omega)) (Kz (by omega) (by omega)) (Kx (by omega) (by omega)) (Kz (by omega) (by omega))
theorem wayL_A (f:Bool) (L:List PV):WayA (wayL f L):=wv2_A (wv1_A (vwN_A (BP 0) (by decide) (haN_A (BP 0) (by decide) (fun k e h=>by simp at h))))
theorem wayL_len (f:Bool) (L:List PV):(wayL f L).length<=12:=by
 obtain⟨_,_,_,a4,_,_⟩:=ww_bd L f;obtain⟨_,b2,_,_⟩:=wv1_bd L (ww12 L f);have h2:(wv2 L (wv1 L (ww12 L f))).1.length<=(wv1 L (ww12 L f)).1.length+1:=by
  unfold wv2;cases dI L (wv1 L (ww12 L f)).2.2.1 4==0
  ·exact Nat.le_succ _
  ·rw[Am,wyS_len];exact Aj _
 show (wv2 L (wv1 L (ww12 L f))).1.length<=12
 omega
theorem wyE_line (ax ay bx b' lv:Int) (k:Nat) (L:List PV) (a:Int):wL (wyE ax ay bx b' lv k L a)=wyPs ax ay bx b' L a++[FD bx b']:=rfl
theorem wyE_ln (ax ay bx b' lv:Int) (k:Nat) (L:List PV) (a:Int):2<=(wL (wyE ax ay bx b' lv k L a)).length/\(wL (wyE ax ay bx b' lv k L a)).length<=4:=by
 have:=wyM_le L a;rw[wyE_line,Aq,wyPs_len];simp only[Ay,AC];omega
theorem wayL_mem {f:Bool} {L:List PV} {e:PV} (h:e ∈ wayL f L):∃ ax ay bx b' lv k N a,e=wyE ax ay bx b' lv k N a/\Sm ax/\Sm ay/\Sm bx/\Sm b':=by
 obtain⟨k,hk,rfl⟩:=List.getElem_of_mem h;obtain⟨ax,ay,bx,b',lv,N,a,h2⟩:=wayL_A f L k _ (Ae hk);exact⟨ax,ay,bx,b',lv,k,N,a,h2⟩
theorem wayL_lines {f:Bool} {L:List PV} {e:PV} (h:e ∈ wayL f L):2<=(wL e).length/\(wL e).length<=4:=by
 obtain⟨ax,ay,bx,b',lv,k,N,a,rfl,_⟩:=wayL_mem h;exact wyE_ln ax ay bx b' lv k N a
theorem wayL_ok (f:Bool) (L:List PV):JX (wayL f L):=⟨by have:=wayL_len f L;omega,fun e h=>by have:=wayL_lines h;omega⟩
theorem wayL_norm (f:Bool) (L:List PV):Ek EI (wayL f L):=fun e h=>by
 obtain⟨ax,ay,bx,b',lv,k,N,a,rfl,_⟩:=wayL_mem h;rfl
theorem wayL_id {f:Bool} {L:List PV} {k:Nat} {e:PV} (h:(wayL f L)[k]? = some e):wI e=41+(k:Int):=by
 obtain⟨ax,ay,bx,b',lv,N,a,rfl,_⟩:=wayL_A f L k e h;rfl
noncomputable def L0:CP:=R89.DG 31 cMap
theorem okL0:Ck Try.prog L0.env:=okR89.DG eMap oMap
theorem qAtS (x y:Int):Dx Try.prog L0 60 29 [iv x,iv y]=some (DE x y 0):=by kernel_rfl
def cAtS:List PV->Option PV | [.val (.int .i64 x),.val (.int .i64 y)]=>some (DE x y 0) | _=>none
theorem oAtS (args:List PV) (r:PV) (h:cAtS args=some r):Hx.CV Try.prog 29/\Da Try.prog 29 args r:=by
 unfold cAtS at h;split at h
 ·rename_i x y;cases h;exact CL okL0 (n:=60) (qAtS x y)
 ·cases h
noncomputable def L1:CP:=L0.EE 29 cAtS
theorem okL1:Ck Try.prog L1.env:=okL0.EE oAtS
abbrev exW (i x y z a l:Int) (s:Bool):PV:=wayv i false [FD x y,FD z a] l .empty .empty s 0 0
abbrev exL:List PV:=[exW 1 0 0 30 0 0 false,exW 2 30 0 30 40 0 false,exW 3 0 0 30 40 0 true,exW 4 30 40 60 40 0 false,exW 5 0 0 60 40 1 false]
theorem qEx:runP2 Try.prog L1 60 28 []=some (.CR false 49 exL):=by kernel_rfl
def cEx:List PV->Option PV | []=>some (.CR false 49 exL) | _=>none
theorem oEx (args:List PV) (r:PV) (h:cEx args=some r):Hx.CV Try.prog 28/\Da Try.prog 28 args r:=by
 unfold cEx at h;split at h
 ·cases h;exact runP2_sound okL1 (n:=60) qEx
 ·cases h
noncomputable def L2:CP:=L1.EE 28 cEx
theorem okL2:Ck Try.prog L2.env:=okL1.EE oEx
noncomputable abbrev exO (fl:Bool) (x y z:Int):Option Ky:=DA exL fl (0,0,0) (x,y,z)
theorem qPx (x y z c:Int) (fl g:Bool) (ids:List PV):Dx Try.prog L2 60 30 [DE x y z,bv fl,iv c,.CR g 3 ids] =
 bif dB (JX exL)&&EF EI exL then
 bif decide (c<0) then bif !(exO fl x y z).isSome then bif oC (exO fl x y z)==0 then some (bv ((((oI (exO fl x y z)).map iv).length:Int)==0)) else some (bv false) else some (bv false)
 else bif (exO fl x y z).isSome then bif oC (exO fl x y z)==c then bif decide (((oI (exO fl x y z)).map iv).length<=1000000) then some (bv (decide (Dg ((oI (exO fl x y z)).map iv)=Dg ids))) else none else some (bv false) else some (bv false)
 else none:=by kernel_rfl
theorem ex_ok:JX exL:=⟨by decide,fun e he=>by
 simp only[AK,BN,B7] at he;rcases he with rfl | rfl | rfl | rfl | rfl <;> decide⟩
theorem ex_norm:Ek EI exL:=fun e he=>by
 simp only[AK,BN,B7] at he;rcases he with rfl | rfl | rfl | rfl | rfl <;> rfl
theorem ex_at:D8 exL (0,0,0):=⟨_,AM ..,by decide,.inl rfl⟩
theorem ex_at2:D8 exL (30,0,0):=⟨_,AM ..,by decide,.inr rfl⟩
theorem exF:JL exL false (0,0,0)=[((0,0,0),0,[]),((30,0,0),30,[1]),((30,40,0),50,[3]),((60,40,0),80,[3,4])]:=(I3 ex_at).trans (by kernel_rfl)
theorem exT:JL exL true (0,0,0)=[((0,0,0),0,[]),((30,0,0),30,[1]),((30,40,0),70,[1,2]),((60,40,0),100,[1,2,4])]:=(I3 ex_at).trans (by kernel_rfl)
theorem exG:JL exL false (30,0,0)=[((30,0,0),0,[]),((0,0,0),30,[1]),((30,40,0),40,[2]),((60,40,0),70,[2,4])]:=(I3 ex_at2).trans (by kernel_rfl)
theorem ex_no {x y z:Int} (h:∀ k,((x,y,z),k) ∉ JL exL false (0,0,0)):exO false x y z=none:=by
 cases hk:exO false x y z with
 | none=>rfl
 | some k=>exact absurd ((I4 ex_ok).2 hk) (h k)
theorem ex_cond:(dB (JX exL)&&EF EI exL)=true:=by rw[DU.2 ex_ok,DN.2 ex_norm];rfl
theorem px_some {x y z c:Int} {fl g:Bool} {l:List Int} (h:exO fl x y z=some (c,l)) (hc:0<=c) (hl:l.length<=1000000):Dx Try.prog L2 60 30 [DE x y z,bv fl,iv c,.CR g 3 (l.map iv)]=some (bv true):=by
 rw[qPx,ex_cond,h,Al (show ¬ c<0 by omega)];simp only[CG,oC,oI,AQ,Am,Av,AT,Ac hl,decide_true]
theorem px_none {x y z:Int} {g:Bool} (h:exO false x y z=none):Dx Try.prog L2 60 30 [DE x y z,bv false,iv (-1),.CR g 3 []]=some (bv true):=by
 rw[qPx,ex_cond,h];rfl
inductive PxOk:List PV->Prop
 | a {g:Bool}:PxOk [DE 60 40 0,bv false,iv 80,.CR g 3 [iv 3,iv 4]]
 | b {g:Bool}:PxOk [DE 60 40 0,bv true,iv 100,.CR g 3 [iv 1,iv 2,iv 4]]
 | c {g:Bool}:PxOk [DE 0 0 0,bv false,iv 0,.CR g 3 []]
 | d {g:Bool}:PxOk [DE 1 1 0,bv false,iv (-1),.CR g 3 []]
 | e {g:Bool}:PxOk [DE 60 40 1,bv false,iv (-1),.CR g 3 []]
theorem px_run {args:List PV} (h:PxOk args):Dx Try.prog L2 60 30 args=some (bv true):=by
 cases h with
 | a=>exact px_some (l:=[3,4]) ((I4 ex_ok).1 (by rw[exF];simp)) (by decide) (by decide)
 | b=>exact px_some (l:=[1,2,4]) ((I4 ex_ok).1 (by rw[exT];simp)) (by decide) (by decide)
 | c=>exact px_some (l:=[]) ((I4 ex_ok).1 (by rw[exF];simp)) (by decide) (by decide)
 | d=>exact px_none (ex_no fun k=>by rw[exF];simp)
 | e=>exact px_none (ex_no fun k=>by rw[exF];simp)
theorem ePx:Hx.CV Try.prog 30:=(CL okL2 (n:=60) (px_run (.a (g:=false)))).1
theorem pcall_last {P:Program} {k:FuncId} {t:TypeId} {ags:List PV} {r:PV} (h:Da P k (ags++[.CR false t []]) r):Da P k (ags++[.val (.slice none 0 0)]) r:=by
 intro C hR Vs hs;refine h C hR Vs ⟨by rw[hs.1];simp,fun j c v g1 g2 => ?_⟩;rw[AL] at g1;split at g1
 ·rename_i hj;exact hs.2 j c v (by rw[AL,Ai hj];exact g1) g2
 ·rename_i hj;have hj2:j-ags.length=0:=by
   have:=(Ad.1 g1).1;simp at this;omega
  rw[hj2] at g1;cases g1;have:=hs.2 j _ v (by rw[AL,An hj,hj2];rfl) g2;cases this;exact .CR 0 0 (fun _ _=>undef) (by simp) (fun hf=>by cases hf) (fun h0=>by simp at h0) (fun x e j p hx=>by simp at hx) (fun x e j p hx=>by simp at hx) (fun e he=>by simp at he)
def cPx:List PV->Option PV
 | [.agg [.val (.int .i64 x),.val (.int .i64 y),.val (.int .i64 z)],.val (.bool fl),.val (.int .i64 c),.CR _ 3 [.val (.int .i64 a),.val (.int .i64 b)]]=>match x==60&&y==40&&z==0 && !fl&&c==80&&a==3&&b==4 with | true=>some (bv true) | false=>none
 | [.agg [.val (.int .i64 x),.val (.int .i64 y),.val (.int .i64 z)],.val (.bool fl),.val (.int .i64 c),.CR _ 3 [.val (.int .i64 a),.val (.int .i64 b),.val (.int .i64 d)]]=>match x==60&&y==40&&z==0&&fl&&c==100&&a==1&&b==2&&d==4 with | true=>some (bv true) | false=>none
 | [.agg [.val (.int .i64 x),.val (.int .i64 y),.val (.int .i64 z)],.val (.bool fl),.val (.int .i64 c),.val (.slice none 0 0)] =>
  match !fl&&((x==0&&y==0&&z==0&&c==0)||(x==1&&y==1&&z==0&&c == -1)||(x==60&&y==40&&z==1&&c == -1)) with | true=>some (bv true) | false=>none
 | _=>none
theorem oPx (args:List PV) (r:PV) (h:cPx args=some r):Hx.CV Try.prog 30/\Da Try.prog 30 args r:=by
 refine⟨ePx,?_⟩;unfold cPx at h;split at h
 ·split at h
  ·rename_i hc;cases h;simp only[Aa,Aw,Ak] at hc;obtain⟨⟨⟨⟨⟨⟨rfl,rfl⟩,rfl⟩,rfl⟩,rfl⟩,rfl⟩,rfl⟩:=hc;exact (CL okL2 (n:=60) (px_run .a)).2
  ·cases h
 ·split at h
  ·rename_i hc;cases h;simp only[Aa,Aw] at hc;obtain⟨⟨⟨⟨⟨⟨⟨rfl,rfl⟩,rfl⟩,rfl⟩,rfl⟩,rfl⟩,rfl⟩,rfl⟩:=hc;exact (CL okL2 (n:=60) (px_run .b)).2
  ·cases h
 ·split at h
  ·rename_i hc;cases h;simp only[Aa,AZ,Aw,Ak] at hc;obtain⟨rfl,(⟨⟨⟨rfl,rfl⟩,rfl⟩,rfl⟩ | ⟨⟨⟨rfl,rfl⟩,rfl⟩,rfl⟩) | ⟨⟨⟨rfl,rfl⟩,rfl⟩,rfl⟩⟩:=hc
   ·exact pcall_last (ags:=[_,_,_]) (CL okL2 (n:=60) (px_run (.c (g:=false)))).2
   ·exact pcall_last (ags:=[_,_,_]) (CL okL2 (n:=60) (px_run (.d (g:=false)))).2
   ·exact pcall_last (ags:=[_,_,_]) (CL okL2 (n:=60) (px_run (.e (g:=false)))).2
  ·cases h
 ·cases h
noncomputable def L3:CP:=L2.EE 30 cPx
theorem okL3:Ck Try.prog L3.env:=okL2.EE oPx
noncomputable abbrev GL (fl:Bool) (ids:List Int):Int × Bool:=chkV exL fl (0,0,0) (30,40,0) ids
noncomputable abbrev exD:List (PV × PV):=(JL exL false (30,0,0)).map cstR
noncomputable abbrev exN (x y:Int):Int:=((Fv (iv 0) exD (DE x y 0)).cellAt 0).Dw
theorem qSan:Dx Try.prog L3 60 8 [] =
 bif decide (5<=1000)&&EF EI exL&&Kr exL then bif decide (5<=1000)&&EF EI exL&&Kr exL then
 bif dB (JX exL)&&EF EI exL&&decide (2<=100000) then bif dB (JX exL)&&EF EI exL&&decide (2<=100000) then bif dB (JX exL)&&EF EI exL&&decide (1<=100000) then
 bif dB (JX exL)&&EF EI exL then
 bif (GL false [1,2]).2 then bif (GL false [1,2]).1==70 then bif !(GL false [2,1]).2 then bif !(GL true [3]).2 then bif (exD.length:Int)==4 then bif exN 0 0==30 then bif exN 30 40==40 then some (bv (exN 60 40==70))
 else some (bv false) else some (bv false) else some (bv false) else some (bv false) else some (bv false) else some (bv false) else some (bv false)
 else none else none else none else none else none else none:=by kernel_rfl
theorem exD_eq:exD=([((30,0,0),0,[]),((0,0,0),30,[1]),((30,40,0),40,[2]),((60,40,0),70,[2,4])]:List Rc).map cstR:=by show (JL exL false (30,0,0)).map cstR=_;rw[exG]
theorem exK1:GL false [1,2]=(70,true):=(Ai ex_at).trans (by kernel_rfl)
theorem exK2:GL false [2,1]=(0,false):=(Ai ex_at).trans (by kernel_rfl)
theorem exK3:GL true [3]=(0,false):=(Ai ex_at).trans (by kernel_rfl)
theorem ex_len:Kr exL=true:=by kernel_rfl
theorem qSanN:Dx Try.prog L3 60 8 []=some (bv true):=by
 have h1:(decide (5<=1000)&&EF EI exL&&Kr exL)=true:=by rw[DN.2 ex_norm,ex_len];rfl
 have h2:exN 0 0=30:=by show ((Fv (iv 0) exD (DE 0 0 0)).cellAt 0).Dw=30;rw[exD_eq];kernel_rfl
 have h3:exN 30 40=40:=by show ((Fv (iv 0) exD (DE 30 40 0)).cellAt 0).Dw=40;rw[exD_eq];kernel_rfl
 have h4:exN 60 40=70:=by show ((Fv (iv 0) exD (DE 60 40 0)).cellAt 0).Dw=70;rw[exD_eq];kernel_rfl
 rw[qSan,h1,ex_cond,exK1,exK2,exK3,h2,h3,h4,exD_eq];rfl
def cSan:List PV->Option PV | []=>some (bv true) | _=>none
theorem oSan (args:List PV) (r:PV) (h:cSan args=some r):Hx.CV Try.prog 8/\Da Try.prog 8 args r:=by
 unfold cSan at h;split at h
 ·cases h;exact CL okL3 (n:=60) qSanN
 ·cases h
noncomputable def L4:CP:=L3.EE 8 cSan
theorem okL4:Ck Try.prog L4.env:=okL3.EE oSan
noncomputable def csWo (ls:List PV):{y:List PV // y=wayL false (nth ls 4)}:=Classical.choice ⟨⟨_,rfl⟩⟩
noncomputable abbrev E6 (ls:List PV):List PV:=(csWo ls).1
theorem csW_eq (ls:List PV):E6 ls=wayL false (nth ls 4):=(csWo ls).2
noncomputable def cMapS:List PV->Option (DT PV)
 | [.CR _ 38 ls]=>some (.br true (.leaf (.agg [.CR false 147 (mkE' ls),.CR false 106 (mkF' ls),.CR false 49 (E6 ls),.CR false 138 (plA (mkE' ls) (mkF' ls) (nth ls 5) false).1])) .no)
 | _=>none
theorem oMapS (args:List PV) (d:DT PV) (r:PV) (h:cMapS args=some d) (hr:d.run=some r):Da Try.prog 31 args r:=by
 unfold cMapS at h;split at h
 ·rename_i f ls;cases h;obtain⟨_,rfl⟩:=DJ hr;rw[csW_eq];exact (CL okMG3 (n:=60) (qMapN f ls)).2
 ·cases h
noncomputable def L5:CP:=(L4.DG 20 dMod).DG 31 cMapS
theorem okL5:Ck Try.prog L5.env:=(okL4.DG eMod oMod).DG eMap oMapS
theorem csW_mem {ls:List PV} {e:PV} (h:e ∈ E6 ls):e ∈ wayL false (nth ls 4):=by rw[<- csW_eq];exact h
theorem csW_ok (ls:List PV):JX (E6 ls):=by rw[csW_eq];exact wayL_ok _ _
theorem csW_norm (ls:List PV):Ek EI (E6 ls):=by rw[csW_eq];exact wayL_norm _ _
theorem csW_len (ls:List PV):(E6 ls).length<=12:=by rw[csW_eq];exact wayL_len ..
noncomputable abbrev KA (ls:List PV):List PV:=stpR (E6 ls) []
noncomputable def csAtO (ls:List PV) (n:Int):{t:T3 // t=if (KA ls).length=0 then (0,0,0) else Fb ((KA ls).getD (n % ((KA ls).length:Int)).toNat .any)}:=Classical.choice ⟨⟨_,rfl⟩⟩
noncomputable abbrev Ev (ls:List PV) (n:Int):T3:=(csAtO ls n).1
theorem csAt_eq (ls:List PV) (n:Int):Ev ls n=if (KA ls).length=0 then (0,0,0) else Fb ((KA ls).getD (n % ((KA ls).length:Int)).toNat .any):=(csAtO ls n).2
noncomputable def csOkO (ls:List PV):{b:Bool // b = !((KA ls).length==0)}:=Classical.choice ⟨⟨_,rfl⟩⟩
noncomputable abbrev csOk (ls:List PV):Bool:=(csOkO ls).1
theorem csOk_eq (ls:List PV):csOk ls = !((KA ls).length==0):=(csOkO ls).2
abbrev csV (g:Bool) (ls:List PV) (p q r fr tt:Int) (fl:Bool):PV:=.agg [.CR g 38 ls,iv p,iv q,iv r,iv fr,iv tt,bv fl]
abbrev inM (n:Int) (m:Nat):Bool:=decide (0<=n % (m:Int))&&decide (n % (m:Int)<(m:Int))
abbrev gtM (m:Nat):Bool:=decide (0<(m:Int))&&decide ((m:Int)<=4611686018427387904)
noncomputable abbrev csG (ls:List PV) (n:Int):PV:=(KA ls).getD (n % ((KA ls).length:Int)).toNat .any
theorem qMade (g:Bool) (ls:List PV) (p q r fr tt:Int) (fl:Bool):Dx Try.prog L5 60 9 [csV g ls p q r fr tt fl] =
 bif decide ((E6 ls).length<=1000)&&Kr (E6 ls) then bif ((KA ls).length:Int)==0 then some (.D9 [.val (.slice none 0 0),DE 0 0 0,DE 0 0 0,bv false]) else
 bif gtM (KA ls).length then bif inM fr (KA ls).length then bif gtM (KA ls).length then bif inM tt (KA ls).length then
  some (.D9 [.CR false 49 (E6 ls),DE (gX (csG ls fr)) (gY (csG ls fr)) (gL (csG ls fr)),DE (gX (csG ls tt)) (gY (csG ls tt)) (gL (csG ls tt)),bv true])
 else none else none else none else none else none:=by kernel_rfl
theorem pcall_tup4 {P:Program} {k:FuncId} {args:List PV} {t:TypeId} {p q r:PV} (h:Da P k args (.D9 [.val (.slice none 0 0),p,q,r])):Da P k args (.D9 [.CR false t [],p,q,r]):=by
 intro C hR Vs hs;refine (h C hR Vs hs).mono ?_
 rintro e w' ⟨V,h1,h2,h3⟩
 refine⟨V,h1,h2,?_⟩;cases h3 with
 | D9 hs h =>
  refine .D9 hs fun j c v g1 g2 => ?_
  match j with
  | 0 =>
   cases g1;have h4:=h 0 _ v rfl g2;cases h4;exact .CR 0 0 (fun _ _=>undef) (by simp) (fun hf=>by cases hf) (fun h0=>by simp at h0) (fun x e j p hx=>by simp at hx) (fun x e j p hx=>by simp at hx) (fun e he=>by simp at he)
  | j+1=>exact h (j+1) c v g1 g2
theorem csW_nil {ls:List PV} (h:(KA ls).length=0):E6 ls=[]:=by
 cases hw:E6 ls with
 | nil=>rfl
 | cons e w =>
  have he:e ∈ E6 ls:=by rw[hw];exact AM ..
  have hl:=wayL_lines (csW_mem he);have:Fb (eF e) ∈ (KA ls).map Fb:=stpR0_mem.2 ⟨e,he,by omega,.inl rfl⟩;have h0:KA ls=[]:=List.length_eq_zero_iff.1 h;rw[h0] at this;cases this
theorem madeN (g:Bool) (ls:List PV) (p q r fr tt:Int) (fl:Bool):Hx.CV Try.prog 9/\Da Try.prog 9 [csV g ls p q r fr tt fl] (.D9 [.CR false 49 (E6 ls),H6 (Ev ls fr),H6 (Ev ls tt),bv (csOk ls)]):=by
 have h1:=(csW_ok ls).Kr;have h2:=csW_len ls;have h3:=stpR_len (E6 ls) [];have hq:=qMade g ls p q r fr tt fl;rw[Ac (show (E6 ls).length<=1000 by omega),h1] at hq;by_cases h0:(KA ls).length=0
 ·rw[show (((KA ls).length:Int)==0)=true by simp[h0]] at hq;simp only[Bn,Am] at hq;obtain⟨q1,q2⟩:=CL okL5 hq;refine⟨q1,?_⟩;rw[csW_nil h0,csAt_eq,csAt_eq,csOk_eq,Ai h0,Ai h0,show (!((KA ls).length==0))=false by simp[h0]];exact pcall_tup4 q2
 ·have g0:(0:Int)<((KA ls).length:Int):=by omega
  have g1:gtM (KA ls).length=true:=by
   have h6:(KA ls).length<=24:=A_ h3 (by show 0+2*(E6 ls).length<=24;omega);show (decide (0<((KA ls).length:Int))&&decide (((KA ls).length:Int)<=4611686018427387904))=true
   rw[Ac g0,Ac (by omega)];rfl
  have g2:∀ n:Int,inM n (KA ls).length=true:=fun n=>by
   have a1:=Int.emod_nonneg n (show ((KA ls).length:Int) ≠ 0 by omega);have a2:=Int.emod_lt_of_pos n g0;simp only[inM,Aa,Ab];exact⟨a1,a2⟩
  rw[show (((KA ls).length:Int)==0)=false from AS.2 (by omega),g1,g2,g2] at hq;simp only[Bn,Am,Av] at hq;obtain⟨q1,q2⟩:=CL okL5 hq;refine⟨q1,?_⟩;rw[csAt_eq,csAt_eq,csOk_eq,An h0,An h0,show (!((KA ls).length==0))=true by simp[h0]];exact q2
noncomputable def cMade:List PV->Option (DT PV)
 | [.agg [.CR _ 38 ls,.val (.int .i64 _),.val (.int .i64 _),.val (.int .i64 _),.val (.int .i64 fr),.val (.int .i64 tt),.val (.bool _)]]=>some (.br true (.leaf (.D9 [.CR false 49 (E6 ls),H6 (Ev ls fr),H6 (Ev ls tt),bv (csOk ls)])) .no)
 | _=>none
theorem eMade':Hx.CV Try.prog 9:=(madeN false [] 0 0 0 0 0 false).1
theorem oMade' (args:List PV) (d:DT PV) (r:PV) (h:cMade args=some d) (hr:d.run=some r):Da Try.prog 9 args r:=by
 unfold cMade at h;split at h
 ·rename_i g ls p q r0 fr tt fl;cases h;obtain⟨_,rfl⟩:=DJ hr;exact (madeN g ls p q r0 fr tt fl).2
 ·cases h
noncomputable def L6:CP:=L5.DG 9 cMade
theorem okL6:Ck Try.prog L6.env:=okL5.DG eMade' oMade'
abbrev qcsX:Y1:=.one 25 7 (.agg [.CR 38,C5,C5,C5,C5,C5,.bool])
abbrev qspX:Y1:=.one 30 3 aS


theorem FN.front {G:List Eg} {s t v:T3} {id w:Int} {k:Ky} (he:(s,t,id,w) ∈ G) (h:FN G t v k):∃ k',FN G s v k'/\k'.1=w+k.1:=by
 induction h with
 | nil=>exact⟨_,.step .nil he,by show 0+w=w+0;omega⟩
 | @step a b id2 w2 k h he2 ih =>
  obtain⟨k',h1,h2⟩:=ih;exact⟨_,.step h1 he2,by show k'.1+w2=w+(k.1+w2);omega⟩
theorem FN.back {G:List Eg} (hG:∀ a b id w,(a,b,id,w) ∈ G->(b,a,id,w) ∈ G) {s t:T3} {k:Ky} (h:FN G s t k):∃ k',FN G t s k'/\k'.1=k.1:=by
 induction h with
 | nil=>exact⟨_,.nil,rfl⟩
 | @step a b id w k h he ih =>
  obtain⟨k',h1,h2⟩:=ih;obtain⟨k2,h3,h4⟩:=FN.front (hG _ _ _ _ he) h1;exact⟨k2,h3,by show k2.1=k.1+w;omega⟩
theorem FN.sub {G G':List Eg} (hG:∀ e ∈ G,e ∈ G') {s t:T3} {k:Ky} (h:FN G s t k):FN G' s t k:=by
 induction h with
 | nil=>exact .nil
 | step h he ih=>exact .step ih (hG _ he)
theorem FN.ids {G:List Eg} {s t:T3} {k:Ky} (h:FN G s t k):∀ i ∈ k.2,∃ e ∈ G,e.2.2.1=i:=by
 induction h with
 | nil=>intro i hi;cases hi
 | @step a b id w k h he ih =>
  intro i hi;rcases A4.1 (show i ∈ k.2++[id] from hi) with hi | hi
  ·exact ih i hi
  ·rw[AG] at hi;exact⟨_,he,hi.symm⟩
theorem gE_mem {fl:Bool} {ws:List PV} {x:Eg}:x ∈ gE fl ws ↔ ∃ e ∈ ws,CU fl e=false/\x ∈ eE e:=by
 unfold gE;rw[List.mem_flatMap];constructor
 ·rintro⟨e,he,hx⟩
  cases hs:CU fl e with
  | true=>rw[hs] at hx;cases hx
  | false=>rw[hs] at hx;exact⟨e,he,hs,hx⟩
 ·rintro⟨e,he,hs,hx⟩
  exact⟨e,he,by rw[hs];exact hx⟩
theorem gE_sym {fl:Bool} {ws:List PV} (a b:T3) (id w:Int) (h:(a,b,id,w) ∈ gE fl ws):(b,a,id,w) ∈ gE fl ws:=by
 obtain⟨e,he,hs,hx⟩:=gE_mem.1 h;refine gE_mem.2 ⟨e,he,hs,?_⟩;simp only[eE,AK,BN,B7,CC] at hx ⊢;rcases hx with ⟨rfl,rfl,rfl,rfl⟩ | ⟨rfl,rfl,rfl,rfl⟩
 ·exact .inr ⟨rfl,rfl,rfl,rfl⟩
 ·exact .inl ⟨rfl,rfl,rfl,rfl⟩
theorem min_ex {ws:List PV} (h:JX ws) {fl:Bool} {s v:T3} {k:Ky} (hw:FN (gE fl ws) s v k):∃ k',JK (gE fl ws) s v k':=by
 rw[<- gU_keep] at hw ⊢;have hG:=Kv s (GS (fl:=fl) h);have hD:=dijA_ok hG (AM (a:=s) ..);obtain⟨x,hx,rfl⟩:=A3.1 (hD.done hG.nonneg hw);exact⟨x.2,hD.wD x hx⟩
theorem GH {ws:List PV} {fl:Bool} {s t:T3} {k:Ky}:DA ws fl s t=some k ↔ D8 ws s/\JK (gE fl ws) s t k:=by
 by_cases hs:D8 ws s
 ·rw[pathO_in hs,KR];simp[hs]
 ·rw[pathO_out hs];simp[hs]
theorem pathO_min {ws:List PV} {fl:Bool} {s t:T3} {k:Ky} (h:DA ws fl s t=some k):JK (gE fl ws) s t k:=(GH.1 h).2
theorem kLe_cost {a b:Ky} (h:kLe a b):a.1<=b.1:=by
 rw[kLe_iff] at h;omega
theorem path_back {ws:List PV} (h:JX ws) {fl:Bool} {s t:T3} (ht:D8 ws t) {k:Ky} (hk:DA ws fl s t=some k):∃ k',DA ws fl t s=some k'/\k'.1=k.1:=by
 have hm:=pathO_min hk;obtain⟨k1,h1,c1⟩:=FN.back gE_sym hm.1;obtain⟨k2,h2⟩:=min_ex h h1;obtain⟨k3,h3,c3⟩:=FN.back gE_sym h2.1;have a1:=kLe_cost (h2.2 _ h1);have a2:=kLe_cost (hm.2 _ h3);exact⟨k2,GH.2 ⟨ht,h2⟩,by omega⟩
theorem path_same {ws:List PV} (h:JX ws) {fl:Bool} {s t:T3} (hs:D8 ws s) (ht:D8 ws t):(DA ws fl s t).isSome=(DA ws fl t s).isSome/\oC (DA ws fl s t)=oC (DA ws fl t s):=by
 cases h1:DA ws fl s t with
 | some k =>
  obtain⟨k',h2,h3⟩:=path_back h ht h1;rw[h2];exact⟨rfl,h3.symm⟩
 | none =>
  cases h2:DA ws fl t s with
  | none=>exact⟨rfl,rfl⟩
  | some k =>
   obtain⟨k',h3,_⟩:=path_back h hs h2;rw[h1] at h3;cases h3
theorem path_perm {ws ws':List PV} (h:∀ e,e ∈ ws ↔ e ∈ ws') (fl:Bool) (s t:T3):DA ws fl s t=DA ws' fl s t:=by
 have hg:∀ {x:Eg},x ∈ gE fl ws ↔ x ∈ gE fl ws':=fun {x}=>by
  rw[gE_mem,gE_mem];exact⟨fun ⟨e,h1,h2⟩=>⟨e,(h e).1 h1,h2⟩,fun ⟨e,h1,h2⟩=>⟨e,(h e).2 h1,h2⟩⟩
 have hst:D8 ws s ↔ D8 ws' s:=⟨fun ⟨e,h1,h2⟩=>⟨e,(h e).1 h1,h2⟩,fun ⟨e,h1,h2⟩=>⟨e,(h e).2 h1,h2⟩⟩;have hw:∀ {k:Ky},FN (gE fl ws) s t k ↔ FN (gE fl ws') s t k:=⟨FN.sub fun _ he=>hg.1 he,FN.sub fun _ he=>hg.2 he⟩;have hm:∀ {k:Ky},JK (gE fl ws) s t k ↔ JK (gE fl ws') s t k:=fun {k}=>⟨fun ⟨a,b⟩=>⟨hw.1 a,fun k' hk=>b k' (hw.2 hk)⟩,fun ⟨a,b⟩=>⟨hw.2 a,fun k' hk=>b k' (hw.1 hk)⟩⟩
 have hi:∀ k,DA ws fl s t=some k ↔ DA ws' fl s t=some k:=fun k=>by rw[GH,GH,hst,hm]
 cases h1:DA ws fl s t with
 | some k=>exact ((hi k).1 h1).symm
 | none =>
  cases h2:DA ws' fl s t with
  | none=>rfl
  | some k=>rw[(hi k).2 h2] at h1;cases h1
theorem path_flat {ws:List PV} {s t:T3} {k:Ky} (h:DA ws true s t=some k):∀ i ∈ k.2,∃ e ∈ ws,wI e=i/\wSt e=false:=by
 intro i hi;obtain⟨x,hx,rfl⟩:=FN.ids (pathO_min h).1 i hi;obtain⟨e,he,hs,hx⟩:=gE_mem.1 hx;refine⟨e,he,?_,?_⟩
 ·simp only[eE,AK,BN,B7] at hx;rcases hx with rfl | rfl <;> rfl
 ·unfold CU at hs;simp only[B5,BM] at hs;exact hs.2
theorem path_least {ws:List PV} (h:JX ws) {s t:T3} {k:Ky} (hk:DA ws true s t=some k):∃ k',DA ws false s t=some k'/\k'.1<=k.1:=by
 obtain⟨hs,hm⟩:=GH.1 hk;have hw:FN (gE false ws) s t k:=hm.1.sub fun e he=>by
  obtain⟨x,h1,h2,h3⟩:=gE_mem.1 he;refine gE_mem.2 ⟨x,h1,?_,h3⟩;unfold CU at h2 ⊢;simp only[BM] at h2 ⊢;exact⟨h2.1,rfl⟩
 obtain⟨k',h'⟩:=min_ex h hw;exact⟨k',GH.2 ⟨hs,h'⟩,kLe_cost (h'.2 _ hw)⟩
abbrev fgTu:List Nat:=[31,32,33,34,35,36,37,38,39,40,41,42,43,44,45,46,47,48,49,50,51,52,53,54,55]
noncomputable def U1:CP:=(L6.Ge 6 7 3).Jg 6 7 fgTu
theorem okU1:Ck Try.prog U1.env:=(okL6.Ge 6 7 3).Jg 6 7 fgTu
def JC:S1:=⟨161,[(5,.bool),(6,.CR 49),(7,.ptr 1 1 0 0),(8,.ptr 2 1 0 0),(22,C5),(23,.bool),(25,C5),(118,.CR 3),(119,C5),(120,C5),(124,.CR 49),(125,C5),(126,C5)],[qcsX,qspX,qspX,.dead]⟩
abbrev lTi (hd f:Bool) (ws:List PV) (c:Int) (lv:Bool) (id:Int) (f2:Bool) (ids:List PV) (len i:Int) (f3:Bool) (us:List PV) (ul j:Int) (g:Bool) (ls:List PV) (p0 p1 p2 p3 p4:Int) (fl:Bool) (x0 y0 l0 x1 y1 l1:Int):LS:=([.b hd,.l f ws,.i c,.b lv,.i id,.l f2 ids,.i len,.i i,.l f3 us,.i ul,.i j],[.l g ls,.i p0,.i p1,.i p2,.i p3,.i p4,.b fl,.i x0,.i y0,.i l0,.i x1,.i y1,.i l1])
abbrev slT (hd f:Bool) (ws:List PV) (c:Int) (lv:Bool) (id:Int) (f2:Bool) (ids:List PV) (len i:Int):List (Nat × PV):=[(5,bv hd),(6,.CR f 49 ws),(7,.ptr 1 1 0 0),(8,.ptr 2 1 0 0),(22,iv c),(23,bv lv),(25,iv id),(118,.CR f2 3 ids),(119,iv len),(120,iv i)]
noncomputable abbrev xTi (hd f:Bool) (ws:List PV) (c:Int) (lv:Bool) (id:Int) (f2:Bool) (ids:List PV) (len i:Int) (g:Bool) (ls:List PV) (p0 p1 p2 p3 p4:Int) (fl:Bool) (x0 y0 l0 x1 y1 l1:Int):PX × List PV × List Row:=(.exit 2,tm 161 (slT hd f ws c lv id f2 ids len i),(JC.put (lTi hd f ws c lv id f2 ids len i false [] 0 0 g ls p0 p1 p2 p3 p4 fl x0 y0 l0 x1 y1 l1)).2)
theorem qTi (hd f:Bool) (ws:List PV) (c:Int) (lv:Bool) (id:Int) (f2:Bool) (ids:List PV) (len i:Int) (f3:Bool) (us:List PV) (ul j:Int) (g:Bool) (ls:List PV) (p0 p1 p2 p3 p4:Int) (fl:Bool) (x0 y0 l0 x1 y1 l1:Int):CT Try.prog U1 60 6 (C4 Try.f6 17) [5,6,7,8,22,23,25,118,119,120,124,125,126] [4,5,6,7,8,22,23,25,118,119,120] (JC.put (lTi hd f ws c lv id f2 ids len i f3 us ul j g ls p0 p1 p2 p3 p4 fl x0 y0 l0 x1 y1 l1)).1 (JC.put (lTi hd f ws c lv id f2 ids len i f3 us ul j g ls p0 p1 p2 p3 p4 fl x0 y0 l0 x1 y1 l1)).2 =
 bif decide (j<ul) then bif HW us j then bif wI (aE us j)==id then bif wSt (aE us j) then some (.ret,tm 161 ((4,bv false)::slT hd f ws c lv id f2 ids len i),(JC.put (lTi hd f ws c lv id f2 ids len i false [] 0 0 g ls p0 p1 p2 p3 p4 fl x0 y0 l0 x1 y1 l1)).2)
  else some (.normal,JC.put (lTi hd f ws c lv id f2 ids len i f3 us ul (W (j+1)) g ls p0 p1 p2 p3 p4 fl x0 y0 l0 x1 y1 l1))
  else some (.normal,JC.put (lTi hd f ws c lv id f2 ids len i f3 us ul (W (j+1)) g ls p0 p1 p2 p3 p4 fl x0 y0 l0 x1 y1 l1)) else none
 else some (xTi hd f ws c lv id f2 ids len i g ls p0 p1 p2 p3 p4 fl x0 y0 l0 x1 y1 l1):=by kernel_rfl
def NoSt (us:List PV) (id:Int):Prop:=∀ e ∈ us,wI e=id->wSt e=false
noncomputable def pTi:LS->Bool
 | ([.b _,.l _ _,.i _,.b _,.i id,.l _ _,.i _,.i _,.l _ us,.i ul,.i j],.l _ _::.i _::.i _::.i _::.i _::.i _::.b _::.i _::.i _::.i _::.i _::.i _::.i _::[])=>dB (ul=(us.length:Int)/\0<=j/\j<=ul/\us.length<=1000/\NoSt us id)
 | _=>false
noncomputable def fTi:LS->DT (PX × List PV × List Row)
 | ([.b hd,.l f ws,.i c,.b lv,.i id,.l f2 ids,.i len,.i i,.l _ _,.i _,.i _],.l g ls::.i p0::.i p1::.i p2::.i p3::.i p4::.b fl::.i x0::.i y0::.i l0::.i x1::.i y1::.i l1::[])=>.leaf (xTi hd f ws c lv id f2 ids len i g ls p0 p1 p2 p3 p4 fl x0 y0 l0 x1 y1 l1)
 | _=>.no
def mTi:LS->Nat
 | ([.b _,.l _ _,.i _,.b _,.i _,.l _ _,.i _,.i _,.l _ _,.i ul,.i j],_)=>(ul-j).toNat
 | _=>0
theorem sTi:∀ s r,pTi s=true->(fTi s).run=some r->r.1 ≠ .normal/\(CT Try.prog U1 60 6 (C4 Try.f6 17) [5,6,7,8,22,23,25,118,119,120,124,125,126] [4,5,6,7,8,22,23,25,118,119,120] (JC.put s).1 (JC.put s).2=some r \/
   ∃ s',CT Try.prog U1 60 6 (C4 Try.f6 17) [5,6,7,8,22,23,25,118,119,120,124,125,126] [4,5,6,7,8,22,23,25,118,119,120] (JC.put s).1 (JC.put s).2=some (.normal,JC.put s')/\pTi s'=true/\mTi s'<mTi s/\(fTi s').run=some r):=by
 intro t r hp hr;unfold pTi at hp;split at hp
 ·rename_i hd f ws c lv id f2 ids len i f3 us ul j g ls p0 p1 p2 p3 p4 fl x0 y0 l0 x1 y1 l1;rw[DU] at hp;obtain⟨rfl,h1,h2,h3,h4⟩:=hp;have hr':=(Ah hr).symm;refine⟨by rw[hr'];simp,?_⟩;rw[show JC.put ([.b hd,.l f ws,.i c,.b lv,.i id,.l f2 ids,.i len,.i i,.l f3 us,.i (us.length:Int),.i j],[.l g ls,.i p0,.i p1,.i p2,.i p3,.i p4,.b fl,.i x0,.i y0,.i l0,.i x1,.i y1,.i l1])=JC.put (lTi hd f ws c lv id f2 ids len i f3 us us.length j g ls p0 p1 p2 p3 p4 fl x0 y0 l0 x1 y1 l1) from rfl,qTi];by_cases hi:j<(us.length:Int)
  ·have hm:aE us j ∈ us:=by
    show us.getD j.toNat .any ∈ us
    rw[AA,Ae (by omega)];exact Bl _
   have hb:(bif wI (aE us j)==id then bif wSt (aE us j) then some (PX.ret,tm 161 ((4,bv false)::slT hd f ws c lv id f2 ids len i),(JC.put (lTi hd f ws c lv id f2 ids len i false [] 0 0 g ls p0 p1 p2 p3 p4 fl x0 y0 l0 x1 y1 l1)).2)
     else some (.normal,JC.put (lTi hd f ws c lv id f2 ids len i f3 us us.length (W (j+1)) g ls p0 p1 p2 p3 p4 fl x0 y0 l0 x1 y1 l1))
     else some (.normal,JC.put (lTi hd f ws c lv id f2 ids len i f3 us us.length (W (j+1)) g ls p0 p1 p2 p3 p4 fl x0 y0 l0 x1 y1 l1)))=some (.normal,JC.put (lTi hd f ws c lv id f2 ids len i f3 us us.length (j+1) g ls p0 p1 p2 p3 p4 fl x0 y0 l0 x1 y1 l1)):=by
    rw[Dc (n:=j+1) (by omega) (by omega)];cases hq:wI (aE us j)==id with
    | false=>rfl
    | true=>rw[h4 _ hm (Aw.1 hq)];rfl
   rw[Ac hi,DS h1 hi,Am,Am,hb];exact .inr ⟨lTi hd f ws c lv id f2 ids len i f3 us us.length (j+1) g ls p0 p1 p2 p3 p4 fl x0 y0 l0 x1 y1 l1,rfl,by unfold pTi;rw[DU];exact⟨rfl,by omega,by omega,h3,h4⟩,by simp only[mTi];omega,by rw[hr'];rfl⟩
  ·rw[Al hi];exact .inl (by rw[hr'];rfl)
 ·cases hp
noncomputable def U2:CP:=U1.C9 6 17 [5,6,7,8,22,23,25,118,119,120,124,125,126] [true,true,true,false] JC pTi fTi
theorem okU2:Ck Try.prog U2.env:=
 okU1.C9 (n:=60) Try.func6 (show Try.f6.body=some (DM Try.f6) by kernel_rfl) (show (loops (DM Try.f6)).filter (fun b=>Ee b==17)=[C4 Try.f6 17] by kernel_rfl) [5,6,7,8,22,23,25,118,119,120,124,125,126] [4,5,6,7,8,22,23,25,118,119,120] [true,true,true,false] JC mTi sTi
def shTo:S1:=⟨161,[(5,.bool),(6,.CR 49),(7,.ptr 1 1 0 0),(8,.ptr 2 1 0 0),(22,C5),(23,.bool),(118,.CR 3),(119,C5),(120,C5)],[qcsX,qspX,qspX,.dead]⟩
abbrev lTo (hd f:Bool) (ws:List PV) (c:Int) (lv f2:Bool) (ids:List PV) (len i:Int) (g:Bool) (ls:List PV) (p0 p1 p2 p3 p4:Int) (fl:Bool) (x0 y0 l0 x1 y1 l1:Int):LS:=([.b hd,.l f ws,.i c,.b lv,.l f2 ids,.i len,.i i],[.l g ls,.i p0,.i p1,.i p2,.i p3,.i p4,.b fl,.i x0,.i y0,.i l0,.i x1,.i y1,.i l1])
noncomputable abbrev xTo (hd f:Bool) (ws:List PV) (c:Int) (lv:Bool) (g:Bool) (ls:List PV) (p0 p1 p2 p3 p4:Int) (fl:Bool) (x0 y0 l0 x1 y1 l1:Int):PX × List PV × List Row:=(.exit 0,tm 161 [(5,bv hd),(6,.CR f 49 ws),(7,.ptr 1 1 0 0),(8,.ptr 2 1 0 0),(22,iv c),(23,bv lv)],(shTo.put (lTo hd f ws c lv false [] 0 0 g ls p0 p1 p2 p3 p4 fl x0 y0 l0 x1 y1 l1)).2)
theorem qTo (hd f:Bool) (ws:List PV) (c:Int) (lv f2:Bool) (ids:List PV) (len i:Int) (g:Bool) (ls:List PV) (p0 p1 p2 p3 p4:Int) (fl:Bool) (x0 y0 l0 x1 y1 l1:Int):CT Try.prog U2 60 6 (C4 Try.f6 14) [5,6,7,8,22,23,118,119,120] [4,5,6,7,8,22,23] (shTo.put (lTo hd f ws c lv f2 ids len i g ls p0 p1 p2 p3 p4 fl x0 y0 l0 x1 y1 l1)).1 (shTo.put (lTo hd f ws c lv f2 ids len i g ls p0 p1 p2 p3 p4 fl x0 y0 l0 x1 y1 l1)).2 =
 bif decide (i<len) then bif HW ids i then bif pTi (lTi hd f ws c lv (nI ids i) f2 ids len i f ws (ws.length:Int) 0 g ls p0 p1 p2 p3 p4 fl x0 y0 l0 x1 y1 l1) then some (.normal,shTo.put (lTo hd f ws c lv f2 ids len (W (i+1)) g ls p0 p1 p2 p3 p4 fl x0 y0 l0 x1 y1 l1)) else none else none
 else some (xTo hd f ws c lv g ls p0 p1 p2 p3 p4 fl x0 y0 l0 x1 y1 l1):=by kernel_rfl
noncomputable def pTo:LS->Bool
 | ([.b _,.l _ ws,.i _,.b _,.l _ ids,.i len,.i i],.l _ _::.i _::.i _::.i _::.i _::.i _::.b _::.i _::.i _::.i _::.i _::.i _::.i _::[])=>dB (len=(ids.length:Int)/\0<=i/\i<=len/\ids.length<=1000000/\ws.length<=1000/\∀ k,0<=k->k<len->NoSt ws (nI ids k))
 | _=>false
noncomputable def fTo:LS->DT (PX × List PV × List Row)
 | ([.b hd,.l f ws,.i c,.b lv,.l _ _,.i _,.i _],.l g ls::.i p0::.i p1::.i p2::.i p3::.i p4::.b fl::.i x0::.i y0::.i l0::.i x1::.i y1::.i l1::[])=>.leaf (xTo hd f ws c lv g ls p0 p1 p2 p3 p4 fl x0 y0 l0 x1 y1 l1)
 | _=>.no
def mTo:LS->Nat
 | ([.b _,.l _ _,.i _,.b _,.l _ _,.i len,.i i],_)=>(len-i).toNat
 | _=>0
theorem sTo:∀ s r,pTo s=true->(fTo s).run=some r->r.1 ≠ .normal/\(CT Try.prog U2 60 6 (C4 Try.f6 14) [5,6,7,8,22,23,118,119,120] [4,5,6,7,8,22,23] (shTo.put s).1 (shTo.put s).2=some r \/
   ∃ s',CT Try.prog U2 60 6 (C4 Try.f6 14) [5,6,7,8,22,23,118,119,120] [4,5,6,7,8,22,23] (shTo.put s).1 (shTo.put s).2=some (.normal,shTo.put s')/\pTo s'=true/\mTo s'<mTo s/\(fTo s').run=some r):=by
 intro t r hp hr;unfold pTo at hp;split at hp
 ·rename_i hd f ws c lv f2 ids len i g ls p0 p1 p2 p3 p4 fl x0 y0 l0 x1 y1 l1;rw[DU] at hp;obtain⟨rfl,h1,h2,h3,h4,h5⟩:=hp;have hr':=(Ah hr).symm;refine⟨by rw[hr'];simp,?_⟩;rw[show shTo.put ([.b hd,.l f ws,.i c,.b lv,.l f2 ids,.i (ids.length:Int),.i i],[.l g ls,.i p0,.i p1,.i p2,.i p3,.i p4,.b fl,.i x0,.i y0,.i l0,.i x1,.i y1,.i l1])=shTo.put (lTo hd f ws c lv f2 ids ids.length i g ls p0 p1 p2 p3 p4 fl x0 y0 l0 x1 y1 l1) from rfl,qTo];by_cases hi:i<(ids.length:Int)
  ·have hp2:pTi (lTi hd f ws c lv (nI ids i) f2 ids ids.length i f ws (ws.length:Int) 0 g ls p0 p1 p2 p3 p4 fl x0 y0 l0 x1 y1 l1)=true:=by
    unfold pTi;rw[DU];exact⟨rfl,BP _,by omega,h4,h5 i h1 hi⟩
   rw[Ac hi,DS h1 hi,hp2,Dc (n:=i+1) (by omega) (by omega)];exact .inr ⟨lTo hd f ws c lv f2 ids ids.length (i+1) g ls p0 p1 p2 p3 p4 fl x0 y0 l0 x1 y1 l1,rfl,by unfold pTo;rw[DU];exact⟨rfl,by omega,by omega,h3,h4,h5⟩,by simp only[mTo];omega,by rw[hr'];rfl⟩
  ·rw[Al hi];exact .inl (by rw[hr'];rfl)
 ·cases hp
noncomputable def U3:CP:=U2.C9 6 14 [5,6,7,8,22,23,118,119,120] [true,true,true,false] shTo pTo fTo
theorem okU3:Ck Try.prog U3.env:=
 okU2.C9 (n:=60) Try.func6 (show Try.f6.body=some (DM Try.f6) by kernel_rfl) (show (loops (DM Try.f6)).filter (fun b=>Ee b==14)=[C4 Try.f6 14] by kernel_rfl) [5,6,7,8,22,23,118,119,120] [4,5,6,7,8,22,23] [true,true,true,false] shTo mTo sTo
abbrev tuO (t:Int):PV:=.val (.int .u8 t)
def tuI (ws:List PV) (t:Int):Int:=Int.tmod (W t) (ws.length:Int)
def tuD1 (ws:List PV) (t:Int):List PV:=(ws.take (ws.length:Int).toNat).drop (tuI ws t).toNat
def tuD2 (ws:List PV) (t:Int):List PV:=(ws.take (tuI ws t).toNat).drop (0:Int).toNat
def tuNl (ws:List PV) (t:Int):Nat:=0+(tuD1 ws t).length+(tuD2 ws t).length
def tuRs (ws:List PV) (t:Int):List PV:=(([]++tuD1 ws t)++tuD2 ws t)
def tuL (ws:List PV) (t:Int):List PV:=((tuRs ws t).drop 0).take (tuNl ws t)
noncomputable abbrev okPt (ws:List PV):Bool:=dB (JX ws)&&EF EI ws
abbrev idL (o:Option Ky):List PV:=(oI o).map iv
noncomputable def tuB (M:List PV) (a b x f s:Option Ky) (P:Bool):Option PV:=
 bif !(a.isSome==b.isSome) then some (bv false) else bif !(oC a==oC b) then some (bv false) else bif !(a.isSome==x.isSome) then some (bv false) else bif !(oC a==oC x) then some (bv false) else
 bif decide ((idL a).length<=1000000) then bif !decide (Dg (idL a)=Dg (idL x)) then some (bv false) else
 bif okPt M then bif P then bif okPt M then
  bif !f.isSome then some (bv true) else bif s.isSome then some (bv (decide (oC s<=oC f))) else some (bv false)
 else none else none else none else none
noncomputable abbrev tuP (g:Bool) (ls:List PV) (p q r fr tt:Int) (fl:Bool) (f:Option Ky):LS:=lTo true false (E6 ls) (oC f) f.isSome false (idL f) ((idL f).length:Int) 0 g ls p q r fr tt fl (Ev ls fr).1 (Ev ls fr).2.1 (Ev ls fr).2.2 (Ev ls tt).1 (Ev ls tt).2.1 (Ev ls tt).2.2
theorem qTurns (g:Bool) (ls:List PV) (p q r fr tt:Int) (fl:Bool) (t:Int):Dx Try.prog U3 60 6 [csV g ls p q r fr tt fl,tuO t] =
 bif !csOk ls then some (bv true) else bif !decide (((E6 ls).length:Int)=0) then
 bif decide (0<=tuI (E6 ls) t)&&decide (tuI (E6 ls) t<=((E6 ls).length:Int))&&decide (((E6 ls).length:Int)<=((E6 ls).length:Int)) then
 bif decide ((0+(tuD1 (E6 ls) t).length)*96<=140737488355328) then bif decide ((0:Int)<=0)&&decide (0<=tuI (E6 ls) t)&&decide (tuI (E6 ls) t<=((E6 ls).length:Int)) then
 bif decide ((tuD1 (E6 ls) t).length=0+(tuD1 (E6 ls) t).length)&&decide (0+(tuD1 (E6 ls) t).length=0+(tuD1 (E6 ls) t).length)&&decide (tuNl (E6 ls) t*96<=140737488355328) then
 bif (((tuRs (E6 ls) t).length==tuNl (E6 ls) t)&&true)&&true then
 bif okPt (E6 ls) then bif okPt (E6 ls) then bif okPt (tuL (E6 ls) t) then
  tuB (E6 ls) (DA (E6 ls) fl (Ev ls fr) (Ev ls tt)) (DA (E6 ls) fl (Ev ls tt) (Ev ls fr)) (DA (tuL (E6 ls) t) fl (Ev ls fr) (Ev ls tt)) (DA (E6 ls) true (Ev ls fr) (Ev ls tt)) (DA (E6 ls) false (Ev ls fr) (Ev ls tt))
   (pTo (tuP g ls p q r fr tt fl (DA (E6 ls) true (Ev ls fr) (Ev ls tt))))
 else none else none else none else none else none else none else none else none else none:=by kernel_rfl
end Go.Hr
