import Derived.Test.YtggmhenfkidjbaaPart10
namespace Go.Hr
open Go.Hx Go.Hg Go.Hn Go.Proofs
theorem wyE_F (ax ay bx b' lv:Int) (k:Nat) (L:List PV) (a:Int):EM (eF (wyE ax ay bx b' lv k L a))=(ax,ay,lv):=rfl
theorem wyE_L (ax ay bx b' lv:Int) (k:Nat) (L:List PV) (a:Int):EM (eL (wyE ax ay bx b' lv k L a))=(bx,b',lv):=by
 have hl:=wyPs_len ax ay bx b' L a;have hM:=wyM_le L a;have h1:(IS (Iy ax ay bx b' L a++[Fa bx b'])).toNat=(Iy ax ay bx b' L a).length:=by
  have e0:((Iy ax ay bx b' L a++[Fa bx b']).length:Int)-1=((Iy ax ay bx b' L a).length:Int):=by rw[Aq,B_];omega
  unfold IS;rw[e0,hl,Dd (by omega) (by omega)];exact Int.toNat_natCast _
 have h2:(Iy ax ay bx b' L a++[Fa bx b']).getD (Iy ax ay bx b' L a).length .any=Fa bx b':=by
  rw[AA,Be (Aj _),CK];rfl
 show (((((Iy ax ay bx b' L a++[Fa bx b']).getD (IS (Iy ax ay bx b' L a++[Fa bx b'])).toNat .any).cellAt 0).Dv),((((Iy ax ay bx b' L a++[Fa bx b']).getD (IS (Iy ax ay bx b' L a++[Fa bx b'])).toNat .any).cellAt 1).Dv),lv)=_
 rw[h1,h2];rfl
theorem stop_sm {ls:List PV} {t:T3} (h:En (H9 ls) t):Sm t.1/\Sm t.2.1:=by
 obtain⟨e,he,_,h1⟩:=h;obtain⟨ax,ay,bx,b',lv,k,N,a,rfl,g1,g2,g3,g4⟩:=wayL_mem (csW_mem he);rw[wyE_F,wyE_L] at h1;rcases h1 with rfl | rfl
 ·exact⟨g1,g2⟩
 ·exact⟨g3,g4⟩
theorem sq_sm {a b:Int} (h1:Sm a) (h2:Sm b):0<=(a-b)*(a-b)/\(a-b)*(a-b)<=160000:=by
 have e:-400<=a-b/\a-b<=400:=by unfold Sm at *;omega
 refine⟨by rcases Int.le_total 0 (a-b) with h | h;exact Int.mul_nonneg h h;exact Int.mul_nonneg_of_nonpos_of_nonpos h h,?_⟩;rcases Int.le_total 0 (a-b) with h | h
 ·exact Int.le_trans (Int.mul_le_mul e.2 e.2 h (by decide)) (by decide)
 ·have:=Int.mul_le_mul (show -(a-b)<=400 by omega) (show -(a-b)<=400 by omega) (by omega) (by decide);rw[Int.neg_mul_neg] at this;exact Int.le_trans this (by decide)
theorem far_sm {px py x y:Int} (h1:Sm px) (h2:Sm py) (h3:Sm x) (h4:Sm y):farI px py x y=(px-x)*(px-x)+(py-y)*(py-y):=by
 have a1:=sq_sm h1 h3;have a2:=sq_sm h2 h4;have e1:W (px-x)=px-x:=Dd (by unfold Sm at *;omega) (by unfold Sm at *;omega);have e2:W (py-y)=py-y:=Dd (by unfold Sm at *;omega) (by unfold Sm at *;omega);unfold farI;rw[e1,e2,Dd (n:=(px-x)*(px-x)) (by omega) (by omega),Dd (n:=(py-y)*(py-y)) (by omega) (by omega),Dd (by omega) (by omega)]
theorem sq_zero {a:Int} (h:a*a<=0):a=0:=by
 rcases Int.lt_trichotomy a 0 with h1 | h1 | h1
 ·have:=Int.mul_pos_of_neg_of_neg h1 h1;omega
 ·exact h1
 ·have:=Int.mul_pos h1 h1;omega
theorem stops_ne {ls:List PV} {t:T3} (h:En (H9 ls) t):Gf (H9 ls) ≠ []:=fun e=>by
 have:=GA.2 h;rw[e] at this;cases this
theorem own_ok {ls:List PV} {x y z:Int} (h:En (H9 ls) (x,y,z)):
  (FY x y true (0,0,0) (Gf (H9 ls))).1=x/\(FY x y true (0,0,0) (Gf (H9 ls))).2.1=y/\¬ (FY x y true (0,0,0) (Gf (H9 ls))).2.2 > z:=by
 have hb:=HU (px:=x) (py:=y) (b:=(0,0,0)) (stops_ne h);generalize FY x y true (0,0,0) (Gf (H9 ls))=m at hb;obtain⟨hm,hl⟩:=hb;have hms:=stop_sm (GA.1 hm);have hxs:=stop_sm h;have h1:=hl _ (GA.2 h);rw[B5,ne_eq,Gz] at h1;have f1:farT x y m=(x-m.1)*(x-m.1)+(y-m.2.1)*(y-m.2.1):=far_sm hxs.1 hxs.2 hms.1 hms.2;have f2:farT x y (x,y,z)=0:=by
  show farI x y x y=0
  rw[far_sm hxs.1 hxs.2 hxs.1 hxs.2,Int.sub_self,Int.sub_self];rfl
 rw[f1,f2] at h1;have s1:=sq_sm hxs.1 hms.1;have s2:=sq_sm hxs.2 hms.2;simp only at s1 s2;have e1:=sq_zero (a:=x-m.1) (by omega);have e2:=sq_zero (a:=y-m.2.1) (by omega);have h2:x=m.1:=by omega
 have h3:y=m.2.1:=by omega
 exact⟨h2.symm,h3.symm,fun hc=>h1 (.inr ⟨by rw[e1,e2];rfl,.inr ⟨h2,.inr ⟨h3,hc⟩⟩⟩)⟩
theorem en_ok (ls:List PV):enB (H9 ls)=true:=by
 have:=csW_len ls;unfold enB;rw[Ac (by omega),DO.2 (csW_norm ls),(csW_ok ls).Js];rfl
theorem okT_of {ls:List PV} {px py:Int} {e:PV} (h:En (H9 ls) (EM e)):OkT (H9 ls) px py (W (px-(entS ls px py).1)) (W (py-(entS ls px py).2.1)) e:=by
 have hb:=HU (px:=px) (py:=py) (b:=(0,0,0)) (stops_ne h);have h1:=hb.2 _ (GA.2 h);rw[B5,ne_eq,Gz] at h1;obtain⟨o1,o2,o3⟩:=own_ok h;refine⟨fun hc=>h1 (.inl ?_),o1,o2,o3⟩;exact hc
theorem okWy_cs {ls:List PV} {px py:Int} {e:PV} (h:e ∈ H9 ls):OkWy (H9 ls) px py (W (px-(entS ls px py).1)) (W (py-(entS ls px py).2.1)) e:=by
 have hl:=wayL_lines (csW_mem h);exact⟨stB_of (by omega) (by omega),okT_of ⟨e,h,by omega,.inl rfl⟩,okT_of ⟨e,h,by omega,.inr rfl⟩⟩
theorem found_ok (ls:List PV):decide (((Gf (H9 ls)).length:Int) > 0)=csOk ls:=by
 rw[csOk_eq];by_cases h0:(csS ls).length=0
 ·have:Gf (H9 ls)=[]:=by
   rw[csW_nil h0];rfl
  rw[this,h0];rfl
 ·cases hs:csS ls with
  | nil=>rw[hs] at h0;exact absurd rfl h0
  | cons e l =>
   have h1:En (H9 ls) (EM e):=stpR0_mem.1 (by show EM e ∈ (csS ls).map EM;rw[hs];exact AM ..);have h2:=List.length_pos_iff.2 (stops_ne h1);rw[Ac (by omega)];rfl
theorem ent_known {ls:List PV} {px py:Int} (h:csOk ls=true):anyW (entS ls px py).1 (entS ls px py).2.1 (entS ls px py).2.2 (H9 ls)=true:=by
 rw[<- found_ok,Ab] at h;have hne:Gf (H9 ls) ≠ []:=List.length_pos_iff.1 (by omega);have hb:=HU (px:=px) (py:=py) (b:=(0,0,0)) hne;obtain⟨e,he,_,h1⟩:=GA.1 hb.1;unfold anyW;rw[List.any_eq_true];refine⟨e,he,?_⟩;rw[AW];have q:∀ {e':PV},entS ls px py=EM e'->eqs3 e' (entS ls px py).1 (entS ls px py).2.1 (entS ls px py).2.2=true:=fun {e'} h2=>by
  rw[h2];show (((gX e'==gX e')&&((gY e'==gY e')&&true))&&((gL e'==gL e')&&true))=true
  simp
 rcases h1 with h1 | h1
 ·exact .inl (q h1)
 ·exact .inr (q h1)
theorem entN (g:Bool) (ls:List PV) (p q r fr tt:Int) (fl:Bool) (x y:Int):Dy Try.prog L8 60 7 [csV g ls p q r fr tt fl,Fa x y]=some (bv true):=by
 have hl:=csW_len ls;have hp:pEo (en0 g ls p q r fr tt fl (x % 400) (y % 400) (entS ls (x % 400) (y % 400)))=true:=by
  unfold pEo;rw[D4];exact⟨rfl,BV _,by omega,by omega,en_ok ls,fun e he=>okWy_cs he⟩
 rw[qEnt,en_ok,found_ok,AQ,hp];simp only[BN,Am,Av];cases hk:csOk ls with
 | false=>rfl
 | true =>
  have:=ent_known (px:=x % 400) (py:=y % 400) hk;rw[show (H9 ls).drop (0:Int).toNat=H9 ls from rfl,this];rfl
theorem lawE (g:Bool) (ls:List PV) (p q r fr tt:Int) (fl:Bool) (x y:Int):Hx.CT Try.prog 7/\Dc Try.prog 7 [csV g ls p q r fr tt fl,Fa x y] (bv true):=CJ okL8 (entN g ls p q r fr tt fl x y)
end Go.Hr
