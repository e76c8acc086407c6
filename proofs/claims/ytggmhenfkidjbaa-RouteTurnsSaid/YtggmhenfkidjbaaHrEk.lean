import Derived.Test.YtggmhenfkidjbaaPart10
namespace Go.Hr
open Go.Hx Go.Hg Go.Hn Go.Proofs
theorem tuL_eq {ws:List PV} {t:Int} (h0:ws.length ≠ 0) (h6:ws.length<=100) (t0:0<=t) (t1:t<=255):(0<=tuI ws t/\tuI ws t<=(ws.length:Int))/\(tuD1 ws t).length+(tuD2 ws t).length=ws.length/\(tuRs ws t).length=tuNl ws t/\tuL ws t=ws.drop (tuI ws t).toNat++ws.take (tuI ws t).toNat:=by
 have ht:W t=t:=Dc (by omega) (by omega);have b0:0<=tuI ws t/\tuI ws t<=(ws.length:Int):=by
  unfold tuI;rw[ht];have a0:=Int.tmod_nonneg (ws.length:Int) t0;have a1:=Int.tmod_lt_of_pos t (show (0:Int)<(ws.length:Int) by omega);omega
 have e1:tuD1 ws t=ws.drop (tuI ws t).toNat:=by unfold tuD1;rw[Bf (by omega)]
 have e2:tuD2 ws t=ws.take (tuI ws t).toNat:=by unfold tuD2;rw[show (0:Int).toNat=0 from rfl,AJ]
 have e3:tuRs ws t=ws.drop (tuI ws t).toNat++ws.take (tuI ws t).toNat:=by unfold tuRs;rw[e1,e2,BA]
 have e4:(tuRs ws t).length=tuNl ws t:=by unfold tuNl;rw[e3,e1,e2,Aq];omega
 refine⟨b0,by rw[e1,e2,BT,Az];omega,e4,?_⟩;unfold tuL;rw[AJ,<- e4,Bc,e3]
theorem okPt_of {ws:List PV} (h:JX ws) (hN:Ek EI ws):okPt ws=true:=by
 show (dB (JX ws)&&EF EI ws)=true
 rw[DU.2 h,DN.2 hN];rfl
theorem path_len {ws:List PV} (h:JX ws) {fl:Bool} {s t:T3} {k:Ky} (hk:DA ws fl s t=some k):k.2.length<=1000:=by
 have hs:=(GH.1 hk).1;have hc:=(I4 h).2 hk;rw[I3 hs] at hc;have hD:=dijA_ok (Kv s (GS (fl:=fl) h)) (AM (a:=s) ..);have h1:=(hD.bD _ hc).1;have h2:=hD.cap;have h3:=gU_len (CW (CU fl) ws);have h4:=Ec (d:=CU fl) ws;have h5:=h.few;have h6:(sgU (CW (CU fl) ws) s).length=1+(gU (CW (CU fl) ws)).length:=by simp[Nat.add_comm]
 simp only at h1;omega
theorem idL_len {ws:List PV} (h:JX ws) (fl:Bool) (s t:T3):(idL (DA ws fl s t)).length<=1000:=by
 cases hk:DA ws fl s t with
 | none=>exact A5 _
 | some k=>rw[AT];exact path_len h hk
theorem nI_idL {l:List Int} {k:Int} (h0:0<=k) (h1:k<((l.map iv).length:Int)):nI (l.map iv) k ∈ l:=by
 have h2:k.toNat<l.length:=by rw[AT] at h1;omega
 have:nI (l.map iv) k=l[k.toNat]:=by
  show ((((l.map iv).getD k.toNat .any).cellAt 0).Dw)=_
  rw[AA,Ao,Ae h2];rfl
 rw[this];exact Bl _
theorem csW_id {ls:List PV} {e e':PV} (h:e ∈ E6 ls) (h':e' ∈ E6 ls) (hi:wI e=wI e'):e=e':=by
 obtain⟨i,h1,h2⟩:=List.getElem_of_mem (csW_mem h);obtain⟨j,h3,h4⟩:=List.getElem_of_mem (csW_mem h');have a1:=wayL_id (f:=false) (L:=nth ls 4) (by rw[Ae h1,h2]:(wayL false (nth ls 4))[i]? = some e);have a2:=wayL_id (f:=false) (L:=nth ls 4) (by rw[Ae h3,h4]:(wayL false (nth ls 4))[j]? = some e');have:i=j:=by omega
 subst this;rw[<- h2,<- h4]
theorem flat_noSt {ls:List PV} {s t:T3}:∀ k:Int,0<=k->k<((idL (DA (E6 ls) true s t)).length:Int)->NoSt (E6 ls) (nI (idL (DA (E6 ls) true s t)) k):=by
 intro k h0 h1 y hy hi;cases hk:DA (E6 ls) true s t with
 | none=>rw[hk] at h1;exact absurd h1 (by show ¬ k<0;omega)
 | some o =>
  rw[hk] at h1 hi;obtain⟨e,he,h2,h3⟩:=path_flat hk _ (nI_idL h0 h1);rw[csW_id hy he (by rw[hi,h2];rfl)];exact h3
theorem cs_stop {ls:List PV} (h:csOk ls=true) (n:Int):D8 (E6 ls) (Ev ls n):=by
 rw[csOk_eq] at h;have h0:(KA ls).length ≠ 0:=by simpa using h
 rw[csAt_eq,An h0];have a1:=Int.emod_nonneg n (show ((KA ls).length:Int) ≠ 0 by omega);have a2:=Int.emod_lt_of_pos n (show (0:Int)<((KA ls).length:Int) by omega);refine stpR0_mem.1 ?_;rw[AA,Ae (show (n % ((KA ls).length:Int)).toNat<(KA ls).length by omega)];exact BF (Bl _)
theorem turnsN (g:Bool) (ls:List PV) (p q r fr tt:Int) (fl:Bool) {t:Int} (t0:0<=t) (t1:t<=255):Dx Try.prog U3 60 6 [csV g ls p q r fr tt fl,tuO t]=some (bv true):=by
 rw[qTurns];cases hok:csOk ls with
 | false=>rfl
 | true =>
  have hW:=csW_ok ls;have hN:=csW_norm ls;have hs:=cs_stop hok fr;have ht:=cs_stop hok tt;have h12:=csW_len ls;have h0:(E6 ls).length ≠ 0:=by
   obtain⟨e,he,_⟩:=hs;exact Nat.pos_iff_ne_zero.1 (List.length_pos_of_mem he)
  have hid:=idL_len hW fl (Ev ls fr) (Ev ls tt);have hid2:=idL_len hW true (Ev ls fr) (Ev ls tt);have hp3:pTo (tuP g ls p q r fr tt fl (DA (E6 ls) true (Ev ls fr) (Ev ls tt)))=true:=by
   unfold pTo;rw[DU];exact⟨rfl,BP _,by omega,by omega,by omega,flat_noSt⟩
  obtain⟨b0,b2,b3,b4⟩:=tuL_eq (t:=t) h0 (by omega) t0 t1;have hperm:(tuL (E6 ls) t).Perm (E6 ls):=by rw[b4];exact List.perm_append_comm.trans (List.Perm.of_eq (Ct _ _))
  have hW2:JX (tuL (E6 ls) t):=⟨by rw[hperm.length_eq];exact hW.few,fun e he=>hW.wl e (hperm.mem_iff.1 he)⟩;have hN2:Ek EI (tuL (E6 ls) t):=fun e he=>hN e (hperm.mem_iff.1 he)
  have hx:=path_perm (ws:=tuL (E6 ls) t) (ws':=E6 ls) (fun e=>hperm.mem_iff) fl (Ev ls fr) (Ev ls tt);obtain⟨s1,s2⟩:=path_same hW (fl:=fl) hs ht;rw[okPt_of hW hN,okPt_of hW2 hN2,hx,b3,AQ,Ac b0.1,Ac b0.2,Al (show ¬ ((E6 ls).length:Int)=0 by omega),Ac (show (0+(tuD1 (E6 ls) t).length)*96<=140737488355328 by omega),
   Ac (show (tuD1 (E6 ls) t).length=0+(tuD1 (E6 ls) t).length by omega),Ac (show tuNl (E6 ls) t*96<=140737488355328 by unfold tuNl;omega),Ac (BP ((E6 ls).length:Int)),Ac (show 0+(tuD1 (E6 ls) t).length=0+(tuD1 (E6 ls) t).length from rfl)]
  have hB:tuB (E6 ls) (DA (E6 ls) fl (Ev ls fr) (Ev ls tt)) (DA (E6 ls) fl (Ev ls tt) (Ev ls fr)) (DA (E6 ls) fl (Ev ls fr) (Ev ls tt)) (DA (E6 ls) true (Ev ls fr) (Ev ls tt)) (DA (E6 ls) false (Ev ls fr) (Ev ls tt)) true=some (bv true):=by
   unfold tuB;rw[<- s1,<- s2,okPt_of hW hN,AQ,AQ,Ac (show (idL (DA (E6 ls) fl (Ev ls fr) (Ev ls tt))).length<=1000000 by omega),Ac rfl];simp only[BQ,Av,Am];cases hf:DA (E6 ls) true (Ev ls fr) (Ev ls tt) with
   | none=>rfl
   | some k =>
    obtain⟨k',h1,h2⟩:=path_least hW hf;rw[h1];show some (bv (decide (k'.1<=k.1)))=_
    rw[Ac h2]
  rw[hp3,hB];rfl
theorem lawU (g:Bool) (ls:List PV) (p q r fr tt:Int) (fl:Bool) {t:Int} (t0:0<=t) (t1:t<=255):Hx.CV Try.prog 6/\Da Try.prog 6 [csV g ls p q r fr tt fl,tuO t] (bv true):=CL okU3 (turnsN g ls p q r fr tt fl t0 t1)
end Go.Hr
